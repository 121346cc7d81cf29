/- Printed by a program (wip/tools/gen2.py): more functions. -/
import Derived.Test.YtmakoecgogjemaaDoorFn03
namespace Go.Proofs.YtmakoecgogjemaaDoor
open Go Go.Vc Go.RowKit
set_option maxRecDepth 100000
set_option linter.unusedVariables false

/- 70 pilaster/syntax.path$1 -/
noncomputable def c70 : Code := match Tryd.f70.body with
  | some c => c
  | none => .skip
noncomputable def cfg70 : Cfg := ⟨Tryd.prog, TT, FNS, [], [], [], TCH, false, false⟩
def an70 : AnnG := (.seq .leaf (.seq .leaf .leaf))
def F70 (s : ByteArray) (g : G) (R : Value → G → Prop) : Prop :=
  (CallsP Tryd.prog 62 #[(.string s)] g fun v g1 =>
  ∃ x : Bool, v = (.bool x) ∧ ∀ g2 : G, Ex g1 g2 →
  R (.bool (!x)) g2)
theorem F70_eq (s : ByteArray) (g : G) (R : Value → G → Prop) : fnG cfg70 6 [.tmp 2] c70 an70 [(.string s)] g nobody R = F70 s g R := by kernel_rfl
theorem call70 (s : ByteArray) (g : G) (R : Value → G → Prop) (hF : F70 s g R) : CallsG Tryd.prog 70 #[(.string s)] g nobody R :=
  fn_soundG (c := cfg70) TTok FNSok mixed Tryd.func70 (show Tryd.f70.body = some c70 by kernel_rfl) (show Tryd.f70.ntmps = 6 by kernel_rfl) (show Tryd.f70.results.toList = [.tmp 2] by kernel_rfl) rfl ((F70_eq s g R).mpr hF)

/- 71 pilaster/ident.word -/
noncomputable def c71 : Code := match Tryd.f71.body with
  | some c => c
  | none => .skip
noncomputable def cfg71 : Cfg := ⟨Tryd.prog, TT, FNS, [], [], [], TCH, false, false⟩
def an71 : AnnG := (.seq .leaf (.seq .leaf .leaf))
def F71 (s : ByteArray) (g : G) (R : Value → G → Prop) : Prop :=
  (CallsP Tryd.prog 85 #[(.string (bs [97, 110, 100, 97, 108, 115, 111, 32, 99, 97, 115, 101, 32, 100, 97, 116, 97, 32, 100, 105, 118, 32, 101, 108, 115, 101, 32, 101, 110, 100, 32, 102, 110, 32, 102, 117, 110, 32, 102, 117, 110, 99, 116, 111, 114, 32, 103, 101, 110, 101, 114, 97, 116, 105, 118, 101, 32, 105, 102, 32, 105, 109, 112, 111, 114, 116, 32, 105, 110, 32, 105, 110, 99, 108, 117, 100, 101, 32, 108, 101, 116, 32, 109, 111, 100, 32, 109, 111, 100, 117, 108, 101, 32, 111, 102, 32, 111, 112, 101, 110, 32, 111, 114, 101, 108, 115, 101, 32, 112, 97, 99, 107, 32, 115, 104, 97, 114, 105, 110, 103, 32, 115, 105, 103, 32, 115, 105, 103, 110, 97, 116, 117, 114, 101, 32, 115, 116, 114, 117, 99, 116, 32, 115, 116, 114, 117, 99, 116, 117, 114, 101, 32, 116, 104, 101, 110, 32, 116, 121, 112, 101, 32, 117, 110, 112, 97, 99, 107, 32, 118, 97, 108, 32, 119, 105, 116, 104]))] g fun v g1 =>
  ∃ xa : Option Addr, ∃ xl : Nat, ∃ xc : Nat, v = (.slice xa xl xc) ∧ (CallsP Tryd.prog 72 #[(.slice xa xl xc), (.string s)] g1 fun v g2 =>
  ∃ x : Bool, v = (.bool x) ∧ ∀ g3 : G, Ex g2 g3 →
  R (.bool x) g3))
theorem F71_eq (s : ByteArray) (g : G) (R : Value → G → Prop) : fnG cfg71 6 [.tmp 2] c71 an71 [(.string s)] g nobody R = F71 s g R := by kernel_rfl
theorem call71 (s : ByteArray) (g : G) (R : Value → G → Prop) (hF : F71 s g R) : CallsG Tryd.prog 71 #[(.string s)] g nobody R :=
  fn_soundG (c := cfg71) TTok FNSok mixed Tryd.func71 (show Tryd.f71.body = some c71 by kernel_rfl) (show Tryd.f71.ntmps = 6 by kernel_rfl) (show Tryd.f71.results.toList = [.tmp 2] by kernel_rfl) rfl ((F71_eq s g R).mpr hF)

/- 72 slices.Contains[[]string,string] -/
noncomputable def c72 : Code := match Tryd.f72.body with
  | some c => c
  | none => .skip
noncomputable def cfg72 : Cfg := ⟨Tryd.prog, TT, FNS, [], [], [], TCH, false, false⟩
def an72 : AnnG := (.seq .leaf (.seq .leaf .leaf))
def F72 (sa : Option Addr) (sl : Nat) (sc : Nat) (v_1 : ByteArray) (g : G) (R : Value → G → Prop) : Prop :=
  (CallsP Tryd.prog 86 #[(.slice sa sl sc), (.string v_1)] g fun v g1 =>
  ∃ x : Int, v = (.int .i64 x) ∧ ∀ g2 : G, Ex g1 g2 →
  R (.bool (leI (0 : Int) x)) g2)
theorem F72_eq (sa : Option Addr) (sl : Nat) (sc : Nat) (v_1 : ByteArray) (g : G) (R : Value → G → Prop) : fnG cfg72 9 [.tmp 4] c72 an72 [(.slice sa sl sc), (.string v_1)] g nobody R = F72 sa sl sc v_1 g R := by kernel_rfl
theorem call72 (sa : Option Addr) (sl : Nat) (sc : Nat) (v_1 : ByteArray) (g : G) (R : Value → G → Prop) (hF : F72 sa sl sc v_1 g R) : CallsG Tryd.prog 72 #[(.slice sa sl sc), (.string v_1)] g nobody R :=
  fn_soundG (c := cfg72) TTok FNSok mixed Tryd.func72 (show Tryd.f72.body = some c72 by kernel_rfl) (show Tryd.f72.ntmps = 9 by kernel_rfl) (show Tryd.f72.results.toList = [.tmp 4] by kernel_rfl) rfl ((F72_eq sa sl sc v_1 g R).mpr hF)

/- 73 pilaster/syntax.many$1 -/
noncomputable def c73 : Code := match Tryd.f73.body with
  | some c => c
  | none => .skip
noncomputable def cfg73 : Cfg := ⟨Tryd.prog, TT, FNS, [2], [(2, 2)], [], TCH, false, false⟩
def an73 : AnnG := (.seq .leaf (.seq .leaf .leaf))
def F73 (x0 : Int) (x1 : Int) (x2 : ByteArray) (x3a : Option Addr) (x3l : Nat) (x3c : Nat) (x4a : Option Addr) (x4l : Nat) (x4c : Nat) (c0 : Option Addr) (g : G) (R : Value → G → Prop) : Prop :=
  ∀ g1 : G, Ex g g1 →
  derefP c0 fun ad => ∃ x : Int, g1.w.cell? ad = some (.int .i64 x) ∧ (CallsP Tryd.prog 31 #[(.int .i64 x), (.agg ⟨[(.int .i64 x0), (.int .i64 x1), (.string x2), (.slice x3a x3l x3c), (.slice x4a x4l x4c)]⟩)] g1 fun v g2 =>
  ∃ x_1 : Bool, v = (.bool x_1) ∧ ∀ g3 : G, Ex g2 g3 →
  R (.bool (!x_1)) g3)
theorem F73_eq (x0 : Int) (x1 : Int) (x2 : ByteArray) (x3a : Option Addr) (x3l : Nat) (x3c : Nat) (x4a : Option Addr) (x4l : Nat) (x4c : Nat) (c0 : Option Addr) (g : G) (R : Value → G → Prop) : fnG cfg73 8 [.tmp 3] c73 an73 [(.agg ⟨[(.int .i64 x0), (.int .i64 x1), (.string x2), (.slice x3a x3l x3c), (.slice x4a x4l x4c)]⟩), (.pointer c0)] g nobody R = F73 x0 x1 x2 x3a x3l x3c x4a x4l x4c c0 g R := by kernel_rfl
theorem call73 (x0 : Int) (x1 : Int) (x2 : ByteArray) (x3a : Option Addr) (x3l : Nat) (x3c : Nat) (x4a : Option Addr) (x4l : Nat) (x4c : Nat) (c0 : Option Addr) (g : G) (R : Value → G → Prop) (hF : F73 x0 x1 x2 x3a x3l x3c x4a x4l x4c c0 g R) : CallsG Tryd.prog 73 #[(.agg ⟨[(.int .i64 x0), (.int .i64 x1), (.string x2), (.slice x3a x3l x3c), (.slice x4a x4l x4c)]⟩), (.pointer c0)] g nobody R :=
  fn_soundG (c := cfg73) TTok FNSok mixed Tryd.func73 (show Tryd.f73.body = some c73 by kernel_rfl) (show Tryd.f73.ntmps = 8 by kernel_rfl) (show Tryd.f73.results.toList = [.tmp 3] by kernel_rfl) rfl ((F73_eq x0 x1 x2 x3a x3l x3c x4a x4l x4c c0 g R).mpr hF)

/- 74 pilaster/syntax.only$1 -/
noncomputable def c74 : Code := match Tryd.f74.body with
  | some c => c
  | none => .skip
noncomputable def cfg74 : Cfg := ⟨Tryd.prog, TT, FNS, [2], [(2, 2), (5, 2)], [], TCH, false, false⟩
def an74 : AnnG := (.seq .leaf (.seq .leaf .leaf))
def F74 (x0 : Int) (x1 : Int) (x2 : ByteArray) (x3a : Option Addr) (x3l : Nat) (x3c : Nat) (x4a : Option Addr) (x4l : Nat) (x4c : Nat) (c0 : Option Addr) (g : G) (R : Value → G → Prop) : Prop :=
  ∀ g1 : G, Ex g g1 →
  derefP c0 fun ad => ∃ xa : Option Addr, ∃ xl : Nat, ∃ xc : Nat, g1.w.cell? ad = some (.slice xa xl xc) ∧ (CallsP Tryd.prog 75 #[(.slice xa xl xc), (.int .i64 x0)] g1 fun v g2 =>
  ∃ x : Bool, v = (.bool x) ∧ ∀ g3 : G, Ex g2 g3 →
  R (.bool (!x)) g3)
theorem F74_eq (x0 : Int) (x1 : Int) (x2 : ByteArray) (x3a : Option Addr) (x3l : Nat) (x3c : Nat) (x4a : Option Addr) (x4l : Nat) (x4c : Nat) (c0 : Option Addr) (g : G) (R : Value → G → Prop) : fnG cfg74 9 [.tmp 3] c74 an74 [(.agg ⟨[(.int .i64 x0), (.int .i64 x1), (.string x2), (.slice x3a x3l x3c), (.slice x4a x4l x4c)]⟩), (.pointer c0)] g nobody R = F74 x0 x1 x2 x3a x3l x3c x4a x4l x4c c0 g R := by kernel_rfl
theorem call74 (x0 : Int) (x1 : Int) (x2 : ByteArray) (x3a : Option Addr) (x3l : Nat) (x3c : Nat) (x4a : Option Addr) (x4l : Nat) (x4c : Nat) (c0 : Option Addr) (g : G) (R : Value → G → Prop) (hF : F74 x0 x1 x2 x3a x3l x3c x4a x4l x4c c0 g R) : CallsG Tryd.prog 74 #[(.agg ⟨[(.int .i64 x0), (.int .i64 x1), (.string x2), (.slice x3a x3l x3c), (.slice x4a x4l x4c)]⟩), (.pointer c0)] g nobody R :=
  fn_soundG (c := cfg74) TTok FNSok mixed Tryd.func74 (show Tryd.f74.body = some c74 by kernel_rfl) (show Tryd.f74.ntmps = 9 by kernel_rfl) (show Tryd.f74.results.toList = [.tmp 3] by kernel_rfl) rfl ((F74_eq x0 x1 x2 x3a x3l x3c x4a x4l x4c c0 g R).mpr hF)

/- 75 slices.Contains[[]int,int] -/
noncomputable def c75 : Code := match Tryd.f75.body with
  | some c => c
  | none => .skip
noncomputable def cfg75 : Cfg := ⟨Tryd.prog, TT, FNS, [], [], [], TCH, false, false⟩
def an75 : AnnG := (.seq .leaf (.seq .leaf .leaf))
def F75 (sa : Option Addr) (sl : Nat) (sc : Nat) (v_1 : Int) (g : G) (R : Value → G → Prop) : Prop :=
  (CallsP Tryd.prog 87 #[(.slice sa sl sc), (.int .i64 v_1)] g fun v g1 =>
  ∃ x : Int, v = (.int .i64 x) ∧ ∀ g2 : G, Ex g1 g2 →
  R (.bool (leI (0 : Int) x)) g2)
theorem F75_eq (sa : Option Addr) (sl : Nat) (sc : Nat) (v_1 : Int) (g : G) (R : Value → G → Prop) : fnG cfg75 9 [.tmp 4] c75 an75 [(.slice sa sl sc), (.int .i64 v_1)] g nobody R = F75 sa sl sc v_1 g R := by kernel_rfl
theorem call75 (sa : Option Addr) (sl : Nat) (sc : Nat) (v_1 : Int) (g : G) (R : Value → G → Prop) (hF : F75 sa sl sc v_1 g R) : CallsG Tryd.prog 75 #[(.slice sa sl sc), (.int .i64 v_1)] g nobody R :=
  fn_soundG (c := cfg75) TTok FNSok mixed Tryd.func75 (show Tryd.f75.body = some c75 by kernel_rfl) (show Tryd.f75.ntmps = 9 by kernel_rfl) (show Tryd.f75.results.toList = [.tmp 4] by kernel_rfl) rfl ((F75_eq sa sl sc v_1 g R).mpr hF)

/- 76 pilaster/syntax.differ$1 -/
noncomputable def c76 : Code := match Tryd.f76.body with
  | some c => c
  | none => .skip
noncomputable def cfg76 : Cfg := ⟨Tryd.prog, TT, FNS, [2], [(2, 2), (6, 2)], [], TCH, false, false⟩
def an76 : AnnG := (.seq .leaf (.seq .leaf .leaf))
def F76 (y0 : Int) (y1 : Int) (y2 : ByteArray) (y3a : Option Addr) (y3l : Nat) (y3c : Nat) (y4a : Option Addr) (y4l : Nat) (y4c : Nat) (c0 : Option Addr) (g : G) (R : Value → G → Prop) : Prop :=
  derefP c0 fun ad => ∀ g1 : G, Ex g g1 →
  ∃ x : ByteArray, g1.w.cell? (Addr.add ad 2) = some (.string x) ∧ ∀ g2 : G, Ex g1 g2 →
  R (.bool (strEq x y2)) g2
theorem F76_eq (y0 : Int) (y1 : Int) (y2 : ByteArray) (y3a : Option Addr) (y3l : Nat) (y3c : Nat) (y4a : Option Addr) (y4l : Nat) (y4c : Nat) (c0 : Option Addr) (g : G) (R : Value → G → Prop) : fnG cfg76 9 [.tmp 3] c76 an76 [(.agg ⟨[(.int .i64 y0), (.int .i64 y1), (.string y2), (.slice y3a y3l y3c), (.slice y4a y4l y4c)]⟩), (.pointer c0)] g nobody R = F76 y0 y1 y2 y3a y3l y3c y4a y4l y4c c0 g R := by kernel_rfl
theorem call76 (y0 : Int) (y1 : Int) (y2 : ByteArray) (y3a : Option Addr) (y3l : Nat) (y3c : Nat) (y4a : Option Addr) (y4l : Nat) (y4c : Nat) (c0 : Option Addr) (g : G) (R : Value → G → Prop) (hF : F76 y0 y1 y2 y3a y3l y3c y4a y4l y4c c0 g R) : CallsG Tryd.prog 76 #[(.agg ⟨[(.int .i64 y0), (.int .i64 y1), (.string y2), (.slice y3a y3l y3c), (.slice y4a y4l y4c)]⟩), (.pointer c0)] g nobody R :=
  fn_soundG (c := cfg76) TTok FNSok mixed Tryd.func76 (show Tryd.f76.body = some c76 by kernel_rfl) (show Tryd.f76.ntmps = 9 by kernel_rfl) (show Tryd.f76.results.toList = [.tmp 3] by kernel_rfl) rfl ((F76_eq y0 y1 y2 y3a y3l y3c y4a y4l y4c c0 g R).mpr hF)

/- 77 pilaster/pilasterref03.typeForm -/
noncomputable def c77 : Code := match Tryd.f77.body with
  | some c => c
  | none => .skip
noncomputable def cfg77 : Cfg := ⟨Tryd.prog, TT, FNS, [1], [(1, 1), (4, 1), (7, 1), (13, 1), (21, 1), (27, 1), (40, 1), (50, 1), (71, 1)], [], TCH, false, false⟩
def an77 : AnnG := (.seq .leaf (.seq .leaf (.seq (.seq .leaf (.cond (.seq .leaf .leaf) .leaf)) (.seq (.seq .leaf (.cond (.seq .leaf .leaf) .leaf)) (.seq (.seq .leaf (.cond (.seq .leaf .leaf) .leaf)) (.seq (.seq .leaf (.cond (.seq .leaf .leaf) .leaf)) (.seq .leaf .leaf)))))))
def F77 (t0 : Int) (t1 : Int) (t2 : ByteArray) (t3a : Option Addr) (t3l : Nat) (t3c : Nat) (t4a : Option Addr) (t4l : Nat) (t4c : Nat) (g : G) (R : Value → G → Prop) : Prop :=
  ifB (eqI t0 (1 : Int))
  (∀ g1 : G, Ex g g1 →
  (CallsP Tryd.prog 88 #[(.agg ⟨[(.int .i64 t0), (.int .i64 t1), (.string t2), (.slice t3a t3l t3c), (.slice t4a t4l t4c)]⟩), (.bool false), (.bool true), (.bool false)] g1 fun v g2 =>
  ∃ x : Bool, v = (.bool x) ∧ ifB x
  ((CallsP Tryd.prog 89 #[(.string t2)] g2 fun v g3 =>
  ∃ x_1 : Bool, v = (.bool x_1) ∧ ifB x_1
  (∀ g4 : G, Ex g3 g4 →
  R (.bool (eqI ((t4l : Nat) : Int) (0 : Int))) g4)
  (∀ g5 : G, Ex g3 g5 →
  R (.bool false) g5)))
  (∀ g6 : G, Ex g2 g6 →
  R (.bool false) g6)))
  (ifB (eqI t0 (2 : Int))
  (∀ g7 : G, Ex g g7 →
  (CallsP Tryd.prog 88 #[(.agg ⟨[(.int .i64 t0), (.int .i64 t1), (.string t2), (.slice t3a t3l t3c), (.slice t4a t4l t4c)]⟩), (.bool false), (.bool false), (.bool true)] g7 fun v g8 =>
  ∃ x_2 : Bool, v = (.bool x_2) ∧ ifB x_2
  ((CallsP Tryd.prog 90 #[(.slice t3a t3l t3c), (.bool true)] g8 fun v g9 =>
  ∃ x_3 : Bool, v = (.bool x_3) ∧ ifB x_3
  (ifB (leI ((t4l : Nat) : Int) (4 : Int))
  ((CallsP Tryd.prog 91 #[(.agg ⟨[(.int .i64 t0), (.int .i64 t1), (.string t2), (.slice t3a t3l t3c), (.slice t4a t4l t4c)]⟩), (.int .i64 (0 : Int)), (.int .i64 ((t4l : Nat) : Int)), (.int .i64 (1 : Int))] g9 fun v g10 =>
  ∃ x_4 : Bool, v = (.bool x_4) ∧ ∀ g11 : G, Ex g10 g11 →
  R (.bool x_4) g11))
  (∀ g12 : G, Ex g9 g12 →
  R (.bool false) g12))
  (∀ g13 : G, Ex g9 g13 →
  R (.bool false) g13)))
  (∀ g14 : G, Ex g8 g14 →
  R (.bool false) g14)))
  (ifB (eqI t0 (3 : Int))
  (∀ g15 : G, Ex g g15 →
  (CallsP Tryd.prog 88 #[(.agg ⟨[(.int .i64 t0), (.int .i64 t1), (.string t2), (.slice t3a t3l t3c), (.slice t4a t4l t4c)]⟩), (.bool false), (.bool false), (.bool false)] g15 fun v g16 =>
  ∃ x_5 : Bool, v = (.bool x_5) ∧ ifB x_5
  (∀ g17 : G, NewL g16 g17 3 [(.int .i64 (1 : Int)), (.int .i64 (1 : Int))] →
  (CallsP Tryd.prog 92 #[(.agg ⟨[(.int .i64 t0), (.int .i64 t1), (.string t2), (.slice t3a t3l t3c), (.slice t4a t4l t4c)]⟩), (.slice (some ⟨g16.w.heap.size, 0, none⟩) 2 2)] g17 fun v g18 =>
  ∃ x_6 : Bool, v = (.bool x_6) ∧ ∀ g19 : G, Ex g18 g19 →
  R (.bool x_6) g19))
  (∀ g20 : G, Ex g16 g20 →
  R (.bool false) g20)))
  (ifB (eqI t0 (4 : Int))
  (∀ g21 : G, Ex g g21 →
  (CallsP Tryd.prog 88 #[(.agg ⟨[(.int .i64 t0), (.int .i64 t1), (.string t2), (.slice t3a t3l t3c), (.slice t4a t4l t4c)]⟩), (.bool false), (.bool false), (.bool false)] g21 fun v g22 =>
  ∃ x_7 : Bool, v = (.bool x_7) ∧ ifB x_7
  (ifB (leI (2 : Int) ((t4l : Nat) : Int))
  (ifB (leI ((t4l : Nat) : Int) (9 : Int))
  ((CallsP Tryd.prog 91 #[(.agg ⟨[(.int .i64 t0), (.int .i64 t1), (.string t2), (.slice t3a t3l t3c), (.slice t4a t4l t4c)]⟩), (.int .i64 (0 : Int)), (.int .i64 ((t4l : Nat) : Int)), (.int .i64 (1 : Int))] g22 fun v g23 =>
  ∃ x_8 : Bool, v = (.bool x_8) ∧ ∀ g24 : G, Ex g23 g24 →
  R (.bool x_8) g24))
  (∀ g25 : G, Ex g22 g25 →
  R (.bool false) g25))
  (∀ g26 : G, Ex g22 g26 →
  R (.bool false) g26))
  (∀ g27 : G, Ex g22 g27 →
  R (.bool false) g27)))
  (∀ g28 : G, Ex g g28 →
  (CallsP Tryd.prog 88 #[(.agg ⟨[(.int .i64 t0), (.int .i64 t1), (.string t2), (.slice t3a t3l t3c), (.slice t4a t4l t4c)]⟩), (.bool false), (.bool false), (.bool true)] g28 fun v g29 =>
  ∃ x_9 : Bool, v = (.bool x_9) ∧ ifB x_9
  ((CallsP Tryd.prog 90 #[(.slice t3a t3l t3c), (.bool false)] g29 fun v g30 =>
  ∃ x_10 : Bool, v = (.bool x_10) ∧ ifB x_10
  (∀ g31 : G, Ex g30 g31 →
  R (.bool (eqI ((t4l : Nat) : Int) (0 : Int))) g31)
  (∀ g32 : G, Ex g30 g32 →
  R (.bool false) g32)))
  (∀ g33 : G, Ex g29 g33 →
  R (.bool false) g33))))))
theorem F77_eq (t0 : Int) (t1 : Int) (t2 : ByteArray) (t3a : Option Addr) (t3l : Nat) (t3c : Nat) (t4a : Option Addr) (t4l : Nat) (t4c : Nat) (g : G) (R : Value → G → Prop) : fnG cfg77 79 [.tmp 2] c77 an77 [(.agg ⟨[(.int .i64 t0), (.int .i64 t1), (.string t2), (.slice t3a t3l t3c), (.slice t4a t4l t4c)]⟩)] g nobody R = F77 t0 t1 t2 t3a t3l t3c t4a t4l t4c g R := by kernel_rfl
theorem call77 (t0 : Int) (t1 : Int) (t2 : ByteArray) (t3a : Option Addr) (t3l : Nat) (t3c : Nat) (t4a : Option Addr) (t4l : Nat) (t4c : Nat) (g : G) (R : Value → G → Prop) (hF : F77 t0 t1 t2 t3a t3l t3c t4a t4l t4c g R) : CallsG Tryd.prog 77 #[(.agg ⟨[(.int .i64 t0), (.int .i64 t1), (.string t2), (.slice t3a t3l t3c), (.slice t4a t4l t4c)]⟩)] g nobody R :=
  fn_soundG (c := cfg77) TTok FNSok mixed Tryd.func77 (show Tryd.f77.body = some c77 by kernel_rfl) (show Tryd.f77.ntmps = 79 by kernel_rfl) (show Tryd.f77.results.toList = [.tmp 2] by kernel_rfl) rfl ((F77_eq t0 t1 t2 t3a t3l t3c t4a t4l t4c g R).mpr hF)

/- 78 pilaster/pilasterref03.patForm -/
noncomputable def c78 : Code := match Tryd.f78.body with
  | some c => c
  | none => .skip
noncomputable def cfg78 : Cfg := ⟨Tryd.prog, TT, FNS, [1], [(1, 1), (4, 1), (7, 1), (16, 1), (22, 1), (30, 1), (36, 1), (41, 1), (49, 1), (55, 1)], [], TCH, false, false⟩
def an78 : AnnG := (.seq .leaf (.seq .leaf (.seq (.seq .leaf (.cond (.seq .leaf .leaf) .leaf)) (.seq (.seq .leaf (.cond (.seq .leaf .leaf) .leaf)) (.seq (.seq .leaf (.cond (.seq .leaf .leaf) .leaf)) (.seq (.seq .leaf (.cond (.seq .leaf .leaf) .leaf)) (.seq .leaf .leaf)))))))
def F78 (t0 : Int) (t1 : Int) (t2 : ByteArray) (t3a : Option Addr) (t3l : Nat) (t3c : Nat) (t4a : Option Addr) (t4l : Nat) (t4c : Nat) (g : G) (R : Value → G → Prop) : Prop :=
  ifB (eqI t0 (11 : Int))
  (∀ g1 : G, Ex g g1 →
  (CallsP Tryd.prog 88 #[(.agg ⟨[(.int .i64 t0), (.int .i64 t1), (.string t2), (.slice t3a t3l t3c), (.slice t4a t4l t4c)]⟩), (.bool false), (.bool false), (.bool false)] g1 fun v g2 =>
  ∃ x : Bool, v = (.bool x) ∧ ifB x
  (∀ g3 : G, Ex g2 g3 →
  R (.bool (eqI ((t4l : Nat) : Int) (0 : Int))) g3)
  (∀ g4 : G, Ex g2 g4 →
  R (.bool false) g4)))
  (ifB (eqI t0 (12 : Int))
  (∀ g5 : G, Ex g g5 →
  (CallsP Tryd.prog 88 #[(.agg ⟨[(.int .i64 t0), (.int .i64 t1), (.string t2), (.slice t3a t3l t3c), (.slice t4a t4l t4c)]⟩), (.bool false), (.bool true), (.bool false)] g5 fun v g6 =>
  ∃ x_1 : Bool, v = (.bool x_1) ∧ ifB x_1
  ((CallsP Tryd.prog 93 #[(.string t2)] g6 fun v g7 =>
  ∃ x_2 : Bool, v = (.bool x_2) ∧ ifB x_2
  (∀ g8 : G, Ex g7 g8 →
  R (.bool (eqI ((t4l : Nat) : Int) (0 : Int))) g8)
  (∀ g9 : G, Ex g7 g9 →
  R (.bool false) g9)))
  (∀ g10 : G, Ex g6 g10 →
  R (.bool false) g10)))
  (ifB (eqI t0 (13 : Int))
  (∀ g11 : G, Ex g g11 →
  (CallsP Tryd.prog 88 #[(.agg ⟨[(.int .i64 t0), (.int .i64 t1), (.string t2), (.slice t3a t3l t3c), (.slice t4a t4l t4c)]⟩), (.bool true), (.bool false), (.bool false)] g11 fun v g12 =>
  ∃ x_3 : Bool, v = (.bool x_3) ∧ ifB x_3
  (ifB (leI (-4503599627370496 : Int) t1)
  (ifB (leI t1 (4503599627370496 : Int))
  (∀ g13 : G, Ex g12 g13 →
  R (.bool (eqI ((t4l : Nat) : Int) (0 : Int))) g13)
  (∀ g14 : G, Ex g12 g14 →
  R (.bool false) g14))
  (∀ g15 : G, Ex g12 g15 →
  R (.bool false) g15))
  (∀ g16 : G, Ex g12 g16 →
  R (.bool false) g16)))
  (ifB (eqI t0 (14 : Int))
  (∀ g17 : G, Ex g g17 →
  (CallsP Tryd.prog 88 #[(.agg ⟨[(.int .i64 t0), (.int .i64 t1), (.string t2), (.slice t3a t3l t3c), (.slice t4a t4l t4c)]⟩), (.bool false), (.bool false), (.bool true)] g17 fun v g18 =>
  ∃ x_4 : Bool, v = (.bool x_4) ∧ ifB x_4
  ((CallsP Tryd.prog 90 #[(.slice t3a t3l t3c), (.bool false)] g18 fun v g19 =>
  ∃ x_5 : Bool, v = (.bool x_5) ∧ ifB x_5
  (ifB (leI ((t4l : Nat) : Int) (1 : Int))
  ((CallsP Tryd.prog 91 #[(.agg ⟨[(.int .i64 t0), (.int .i64 t1), (.string t2), (.slice t3a t3l t3c), (.slice t4a t4l t4c)]⟩), (.int .i64 (0 : Int)), (.int .i64 ((t4l : Nat) : Int)), (.int .i64 (2 : Int))] g19 fun v g20 =>
  ∃ x_6 : Bool, v = (.bool x_6) ∧ ∀ g21 : G, Ex g20 g21 →
  R (.bool x_6) g21))
  (∀ g22 : G, Ex g19 g22 →
  R (.bool false) g22))
  (∀ g23 : G, Ex g19 g23 →
  R (.bool false) g23)))
  (∀ g24 : G, Ex g18 g24 →
  R (.bool false) g24)))
  (∀ g25 : G, Ex g g25 →
  (CallsP Tryd.prog 88 #[(.agg ⟨[(.int .i64 t0), (.int .i64 t1), (.string t2), (.slice t3a t3l t3c), (.slice t4a t4l t4c)]⟩), (.bool false), (.bool false), (.bool false)] g25 fun v g26 =>
  ∃ x_7 : Bool, v = (.bool x_7) ∧ ifB x_7
  (ifB (!eqI ((t4l : Nat) : Int) (1 : Int))
  (ifB (leI ((t4l : Nat) : Int) (9 : Int))
  ((CallsP Tryd.prog 91 #[(.agg ⟨[(.int .i64 t0), (.int .i64 t1), (.string t2), (.slice t3a t3l t3c), (.slice t4a t4l t4c)]⟩), (.int .i64 (0 : Int)), (.int .i64 ((t4l : Nat) : Int)), (.int .i64 (2 : Int))] g26 fun v g27 =>
  ∃ x_8 : Bool, v = (.bool x_8) ∧ ∀ g28 : G, Ex g27 g28 →
  R (.bool x_8) g28))
  (∀ g29 : G, Ex g26 g29 →
  R (.bool false) g29))
  (∀ g30 : G, Ex g26 g30 →
  R (.bool false) g30))
  (∀ g31 : G, Ex g26 g31 →
  R (.bool false) g31))))))
theorem F78_eq (t0 : Int) (t1 : Int) (t2 : ByteArray) (t3a : Option Addr) (t3l : Nat) (t3c : Nat) (t4a : Option Addr) (t4l : Nat) (t4c : Nat) (g : G) (R : Value → G → Prop) : fnG cfg78 83 [.tmp 2] c78 an78 [(.agg ⟨[(.int .i64 t0), (.int .i64 t1), (.string t2), (.slice t3a t3l t3c), (.slice t4a t4l t4c)]⟩)] g nobody R = F78 t0 t1 t2 t3a t3l t3c t4a t4l t4c g R := by kernel_rfl
theorem call78 (t0 : Int) (t1 : Int) (t2 : ByteArray) (t3a : Option Addr) (t3l : Nat) (t3c : Nat) (t4a : Option Addr) (t4l : Nat) (t4c : Nat) (g : G) (R : Value → G → Prop) (hF : F78 t0 t1 t2 t3a t3l t3c t4a t4l t4c g R) : CallsG Tryd.prog 78 #[(.agg ⟨[(.int .i64 t0), (.int .i64 t1), (.string t2), (.slice t3a t3l t3c), (.slice t4a t4l t4c)]⟩)] g nobody R :=
  fn_soundG (c := cfg78) TTok FNSok mixed Tryd.func78 (show Tryd.f78.body = some c78 by kernel_rfl) (show Tryd.f78.ntmps = 83 by kernel_rfl) (show Tryd.f78.results.toList = [.tmp 2] by kernel_rfl) rfl ((F78_eq t0 t1 t2 t3a t3l t3c t4a t4l t4c g R).mpr hF)

/- 79 pilaster/pilasterref03.exprForm -/
noncomputable def c79 : Code := match Tryd.f79.body with
  | some c => c
  | none => .skip
noncomputable def cfg79 : Cfg := ⟨Tryd.prog, TT, FNS, [1], [(1, 1), (6, 1), (9, 1), (15, 1), (20, 1), (28, 1), (34, 1), (42, 1), (48, 1), (56, 1), (62, 1), (70, 1), (76, 1), (80, 1), (90, 1), (100, 1), (118, 1), (128, 1), (148, 1), (155, 1), (165, 1), (189, 1), (197, 1), (206, 1), (214, 1), (217, 1), (230, 1), (235, 1), (244, 1), (257, 1)], [], TCH, false, false⟩
def an79 : AnnG := (.seq .leaf (.seq .leaf (.seq (.seq .leaf (.cond (.seq .leaf .leaf) .leaf)) (.seq (.seq .leaf (.cond (.seq .leaf .leaf) .leaf)) (.seq (.seq .leaf (.cond (.seq .leaf .leaf) .leaf)) (.seq (.seq .leaf (.cond (.seq .leaf .leaf) .leaf)) (.seq (.seq .leaf (.cond (.seq .leaf .leaf) .leaf)) (.seq (.seq .leaf (.cond (.seq .leaf .leaf) .leaf)) (.seq (.seq .leaf (.cond (.seq .leaf .leaf) .leaf)) (.seq (.seq .leaf (.cond (.seq .leaf .leaf) .leaf)) (.seq (.seq .leaf (.cond (.join ⟨[], [], []⟩ (.seq .leaf (.cond (.seq .leaf .leaf) .leaf)) (.seq (.seq .leaf (.blk (.loop ⟨[(4, .int .i64)], [], []⟩ (.seq (.seq .leaf (.cond .leaf .leaf)) (.seq (.blk (.seq .leaf (.cond (.seq .leaf .leaf) .leaf))) .leaf))))) (.seq .leaf .leaf))) .leaf)) (.seq (.seq .leaf (.cond (.seq .leaf .leaf) .leaf)) (.seq (.seq .leaf (.cond (.join ⟨[], [], []⟩ (.seq .leaf (.cond (.seq .leaf .leaf) .leaf)) (.seq (.seq .leaf (.blk (.loop ⟨[(5, .int .i64)], [], []⟩ (.seq (.seq .leaf (.cond .leaf .leaf)) (.seq (.blk (.seq .leaf (.cond (.seq .leaf .leaf) .leaf))) .leaf))))) (.seq .leaf .leaf))) .leaf)) (.seq (.seq .leaf (.cond (.seq (.seq .leaf (.cond (.seq .leaf .leaf) .leaf)) (.seq .leaf .leaf)) .leaf)) (.seq (.seq .leaf (.cond (.seq .leaf .leaf) .leaf)) (.seq .leaf .leaf))))))))))))))))
def F79 (t0 : Int) (t1 : Int) (t2 : ByteArray) (t3a : Option Addr) (t3l : Nat) (t3c : Nat) (t4a : Option Addr) (t4l : Nat) (t4c : Nat) (g : G) (R : Value → G → Prop) : Prop :=
  ifB (eqI t0 (21 : Int))
  (∀ g1 : G, Ex g g1 →
  (CallsP Tryd.prog 88 #[(.agg ⟨[(.int .i64 t0), (.int .i64 t1), (.string t2), (.slice t3a t3l t3c), (.slice t4a t4l t4c)]⟩), (.bool true), (.bool false), (.bool false)] g1 fun v g2 =>
  ∃ x : Bool, v = (.bool x) ∧ ifB x
  (ifB (leI (0 : Int) t1)
  (ifB (leI t1 (4503599627370496 : Int))
  (∀ g3 : G, Ex g2 g3 →
  R (.bool (eqI ((t4l : Nat) : Int) (0 : Int))) g3)
  (∀ g4 : G, Ex g2 g4 →
  R (.bool false) g4))
  (∀ g5 : G, Ex g2 g5 →
  R (.bool false) g5))
  (∀ g6 : G, Ex g2 g6 →
  R (.bool false) g6)))
  (ifB (eqI t0 (22 : Int))
  (∀ g7 : G, Ex g g7 →
  (CallsP Tryd.prog 88 #[(.agg ⟨[(.int .i64 t0), (.int .i64 t1), (.string t2), (.slice t3a t3l t3c), (.slice t4a t4l t4c)]⟩), (.bool false), (.bool true), (.bool false)] g7 fun v g8 =>
  ∃ x_1 : Bool, v = (.bool x_1) ∧ ifB x_1
  ((CallsP Tryd.prog 94 #[(.string t2)] g8 fun v g9 =>
  ∃ x_2 : Bool, v = (.bool x_2) ∧ ifB x_2
  (∀ g10 : G, Ex g9 g10 →
  R (.bool (eqI ((t4l : Nat) : Int) (0 : Int))) g10)
  (∀ g11 : G, Ex g9 g11 →
  R (.bool false) g11)))
  (∀ g12 : G, Ex g8 g12 →
  R (.bool false) g12)))
  (ifB (eqI t0 (23 : Int))
  (∀ g13 : G, Ex g g13 →
  (CallsP Tryd.prog 88 #[(.agg ⟨[(.int .i64 t0), (.int .i64 t1), (.string t2), (.slice t3a t3l t3c), (.slice t4a t4l t4c)]⟩), (.bool false), (.bool false), (.bool true)] g13 fun v g14 =>
  ∃ x_3 : Bool, v = (.bool x_3) ∧ ifB x_3
  ((CallsP Tryd.prog 90 #[(.slice t3a t3l t3c), (.bool true)] g14 fun v g15 =>
  ∃ x_4 : Bool, v = (.bool x_4) ∧ ifB x_4
  (∀ g16 : G, Ex g15 g16 →
  R (.bool (eqI ((t4l : Nat) : Int) (0 : Int))) g16)
  (∀ g17 : G, Ex g15 g17 →
  R (.bool false) g17)))
  (∀ g18 : G, Ex g14 g18 →
  R (.bool false) g18)))
  (ifB (eqI t0 (24 : Int))
  (∀ g19 : G, Ex g g19 →
  (CallsP Tryd.prog 88 #[(.agg ⟨[(.int .i64 t0), (.int .i64 t1), (.string t2), (.slice t3a t3l t3c), (.slice t4a t4l t4c)]⟩), (.bool false), (.bool false), (.bool true)] g19 fun v g20 =>
  ∃ x_5 : Bool, v = (.bool x_5) ∧ ifB x_5
  ((CallsP Tryd.prog 90 #[(.slice t3a t3l t3c), (.bool false)] g20 fun v g21 =>
  ∃ x_6 : Bool, v = (.bool x_6) ∧ ifB x_6
  (∀ g22 : G, Ex g21 g22 →
  R (.bool (eqI ((t4l : Nat) : Int) (0 : Int))) g22)
  (∀ g23 : G, Ex g21 g23 →
  R (.bool false) g23)))
  (∀ g24 : G, Ex g20 g24 →
  R (.bool false) g24)))
  (ifB (eqI t0 (25 : Int))
  (∀ g25 : G, Ex g g25 →
  (CallsP Tryd.prog 88 #[(.agg ⟨[(.int .i64 t0), (.int .i64 t1), (.string t2), (.slice t3a t3l t3c), (.slice t4a t4l t4c)]⟩), (.bool false), (.bool true), (.bool false)] g25 fun v g26 =>
  ∃ x_7 : Bool, v = (.bool x_7) ∧ ifB x_7
  (ifB (strEq t2 (bs []))
  (∀ g27 : G, NewL g26 g27 3 [(.int .i64 (3 : Int))] →
  (CallsP Tryd.prog 92 #[(.agg ⟨[(.int .i64 t0), (.int .i64 t1), (.string t2), (.slice t3a t3l t3c), (.slice t4a t4l t4c)]⟩), (.slice (some ⟨g26.w.heap.size, 0, none⟩) 1 1)] g27 fun v g28 =>
  ∃ x_8 : Bool, v = (.bool x_8) ∧ ∀ g29 : G, Ex g28 g29 →
  R (.bool x_8) g29))
  ((CallsP Tryd.prog 93 #[(.string t2)] g26 fun v g30 =>
  ∃ x_9 : Bool, v = (.bool x_9) ∧ ifB x_9
  (∀ g31 : G, NewL g30 g31 3 [(.int .i64 (3 : Int))] →
  (CallsP Tryd.prog 92 #[(.agg ⟨[(.int .i64 t0), (.int .i64 t1), (.string t2), (.slice t3a t3l t3c), (.slice t4a t4l t4c)]⟩), (.slice (some ⟨g30.w.heap.size, 0, none⟩) 1 1)] g31 fun v g32 =>
  ∃ x_10 : Bool, v = (.bool x_10) ∧ ∀ g33 : G, Ex g32 g33 →
  R (.bool x_10) g33))
  (∀ g34 : G, Ex g30 g34 →
  R (.bool false) g34))))
  (∀ g35 : G, Ex g26 g35 →
  R (.bool false) g35)))
  (ifB (eqI t0 (26 : Int))
  (∀ g36 : G, Ex g g36 →
  (CallsP Tryd.prog 88 #[(.agg ⟨[(.int .i64 t0), (.int .i64 t1), (.string t2), (.slice t3a t3l t3c), (.slice t4a t4l t4c)]⟩), (.bool false), (.bool false), (.bool false)] g36 fun v g37 =>
  ∃ x_11 : Bool, v = (.bool x_11) ∧ ifB x_11
  (∀ g38 : G, NewL g37 g38 3 [(.int .i64 (3 : Int)), (.int .i64 (3 : Int))] →
  (CallsP Tryd.prog 92 #[(.agg ⟨[(.int .i64 t0), (.int .i64 t1), (.string t2), (.slice t3a t3l t3c), (.slice t4a t4l t4c)]⟩), (.slice (some ⟨g37.w.heap.size, 0, none⟩) 2 2)] g38 fun v g39 =>
  ∃ x_12 : Bool, v = (.bool x_12) ∧ ∀ g40 : G, Ex g39 g40 →
  R (.bool x_12) g40))
  (∀ g41 : G, Ex g37 g41 →
  R (.bool false) g41)))
  (ifB (eqI t0 (27 : Int))
  (∀ g42 : G, Ex g g42 →
  (CallsP Tryd.prog 88 #[(.agg ⟨[(.int .i64 t0), (.int .i64 t1), (.string t2), (.slice t3a t3l t3c), (.slice t4a t4l t4c)]⟩), (.bool false), (.bool false), (.bool false)] g42 fun v g43 =>
  ∃ x_13 : Bool, v = (.bool x_13) ∧ ifB x_13
  (ifB (!eqI ((t4l : Nat) : Int) (1 : Int))
  (ifB (leI ((t4l : Nat) : Int) (9 : Int))
  ((CallsP Tryd.prog 91 #[(.agg ⟨[(.int .i64 t0), (.int .i64 t1), (.string t2), (.slice t3a t3l t3c), (.slice t4a t4l t4c)]⟩), (.int .i64 (0 : Int)), (.int .i64 ((t4l : Nat) : Int)), (.int .i64 (3 : Int))] g43 fun v g44 =>
  ∃ x_14 : Bool, v = (.bool x_14) ∧ ∀ g45 : G, Ex g44 g45 →
  R (.bool x_14) g45))
  (∀ g46 : G, Ex g43 g46 →
  R (.bool false) g46))
  (∀ g47 : G, Ex g43 g47 →
  R (.bool false) g47))
  (∀ g48 : G, Ex g43 g48 →
  R (.bool false) g48)))
  (ifB (eqI t0 (28 : Int))
  (∀ g49 : G, Ex g g49 →
  (CallsP Tryd.prog 88 #[(.agg ⟨[(.int .i64 t0), (.int .i64 t1), (.string t2), (.slice t3a t3l t3c), (.slice t4a t4l t4c)]⟩), (.bool false), (.bool false), (.bool false)] g49 fun v g50 =>
  ∃ x_15 : Bool, v = (.bool x_15) ∧ ifB x_15
  (∀ g51 : G, NewL g50 g51 3 [(.int .i64 (3 : Int)), (.int .i64 (3 : Int)), (.int .i64 (3 : Int))] →
  (CallsP Tryd.prog 92 #[(.agg ⟨[(.int .i64 t0), (.int .i64 t1), (.string t2), (.slice t3a t3l t3c), (.slice t4a t4l t4c)]⟩), (.slice (some ⟨g50.w.heap.size, 0, none⟩) 3 3)] g51 fun v g52 =>
  ∃ x_16 : Bool, v = (.bool x_16) ∧ ∀ g53 : G, Ex g52 g53 →
  R (.bool x_16) g53))
  (∀ g54 : G, Ex g50 g54 →
  R (.bool false) g54)))
  (ifB (eqI t0 (29 : Int))
  (∀ J : G → Prop,
  (∀ g55 : G, (∃ Inv : Nat → Int → G → Prop, ((∃ m0 : Nat, Inv m0 (1 : Int) g55)) ∧
  ∀ m : Nat, ∀ i : Int, ∀ g56 : G, Le g55 g56 → Inv m i g56 →
  ifB (ltI i ((t4l : Nat) : Int))
  ((0 ≤ i ∧ i < ((t4l : Nat) : Int)) ∧ derefP t4a fun ad => ∃ x_17 : Int, g56.w.cell? (Addr.add ad (Int.toNat i * 5)) = some (.int .i64 x_17) ∧ ifB (!eqI x_17 (30 : Int))
  (∀ g57 : G, Ex g56 g57 →
  R (.bool false) g57)
  (InI64 (i + (1 : Int)) ∧ (∃ m_1 : Nat, m_1 < m ∧ Inv m_1 (i + (1 : Int)) g56)))
  (∀ g58 : G, Ex g56 g58 →
  R (.bool true) g58)) → J g55) →
  ∀ g59 : G, Ex g g59 →
  (CallsP Tryd.prog 88 #[(.agg ⟨[(.int .i64 t0), (.int .i64 t1), (.string t2), (.slice t3a t3l t3c), (.slice t4a t4l t4c)]⟩), (.bool false), (.bool false), (.bool false)] g59 fun v g60 =>
  ∃ x_18 : Bool, v = (.bool x_18) ∧ ifB (!x_18)
  (∀ g61 : G, Ex g60 g61 →
  R (.bool false) g61)
  (ifB (ltI ((t4l : Nat) : Int) (2 : Int))
  (∀ g62 : G, Ex g60 g62 →
  R (.bool false) g62)
  ((CallsP Tryd.prog 91 #[(.agg ⟨[(.int .i64 t0), (.int .i64 t1), (.string t2), (.slice t3a t3l t3c), (.slice t4a t4l t4c)]⟩), (.int .i64 (0 : Int)), (.int .i64 (1 : Int)), (.int .i64 (3 : Int))] g60 fun v g63 =>
  ∃ x_19 : Bool, v = (.bool x_19) ∧ ifB (!x_19)
  (∀ g64 : G, Ex g63 g64 →
  R (.bool false) g64)
  (J g63))))))
  (ifB (eqI t0 (30 : Int))
  (∀ g65 : G, Ex g g65 →
  (CallsP Tryd.prog 88 #[(.agg ⟨[(.int .i64 t0), (.int .i64 t1), (.string t2), (.slice t3a t3l t3c), (.slice t4a t4l t4c)]⟩), (.bool false), (.bool false), (.bool false)] g65 fun v g66 =>
  ∃ x_20 : Bool, v = (.bool x_20) ∧ ifB x_20
  (∀ g67 : G, NewL g66 g67 3 [(.int .i64 (2 : Int)), (.int .i64 (3 : Int))] →
  (CallsP Tryd.prog 92 #[(.agg ⟨[(.int .i64 t0), (.int .i64 t1), (.string t2), (.slice t3a t3l t3c), (.slice t4a t4l t4c)]⟩), (.slice (some ⟨g66.w.heap.size, 0, none⟩) 2 2)] g67 fun v g68 =>
  ∃ x_21 : Bool, v = (.bool x_21) ∧ ∀ g69 : G, Ex g68 g69 →
  R (.bool x_21) g69))
  (∀ g70 : G, Ex g66 g70 →
  R (.bool false) g70)))
  (ifB (eqI t0 (31 : Int))
  (∀ J_1 : G → Prop,
  (∀ g71 : G, (∃ Inv_1 : Nat → Int → G → Prop, ((∃ m0 : Nat, Inv_1 m0 (0 : Int) g71)) ∧
  ∀ m_2 : Nat, ∀ i_1 : Int, ∀ g72 : G, Le g71 g72 → Inv_1 m_2 i_1 g72 →
  InI64 (((t4l : Nat) : Int) - (1 : Int)) ∧ ifB (ltI i_1 (((t4l : Nat) : Int) - (1 : Int)))
  ((0 ≤ i_1 ∧ i_1 < ((t4l : Nat) : Int)) ∧ derefP t4a fun ad_1 => ∃ x_22 : Int, g72.w.cell? (Addr.add ad_1 (Int.toNat i_1 * 5)) = some (.int .i64 x_22) ∧ ifB (!eqI x_22 (41 : Int))
  ((0 ≤ i_1 ∧ i_1 < ((t4l : Nat) : Int)) ∧ derefP t4a fun ad_2 => ∃ x_23 : Int, g72.w.cell? (Addr.add ad_2 (Int.toNat i_1 * 5)) = some (.int .i64 x_23) ∧ ifB (!eqI x_23 (42 : Int))
  ((0 ≤ i_1 ∧ i_1 < ((t4l : Nat) : Int)) ∧ derefP t4a fun ad_3 => ∃ x_24 : Int, g72.w.cell? (Addr.add ad_3 (Int.toNat i_1 * 5)) = some (.int .i64 x_24) ∧ ifB (!eqI x_24 (50 : Int))
  (∀ g73 : G, Ex g72 g73 →
  R (.bool false) g73)
  (InI64 (i_1 + (1 : Int)) ∧ (∃ m_3 : Nat, m_3 < m_2 ∧ Inv_1 m_3 (i_1 + (1 : Int)) g72)))
  (InI64 (i_1 + (1 : Int)) ∧ (∃ m_3 : Nat, m_3 < m_2 ∧ Inv_1 m_3 (i_1 + (1 : Int)) g72)))
  (InI64 (i_1 + (1 : Int)) ∧ (∃ m_3 : Nat, m_3 < m_2 ∧ Inv_1 m_3 (i_1 + (1 : Int)) g72)))
  (∀ g74 : G, Ex g72 g74 →
  R (.bool true) g74)) → J_1 g71) →
  ∀ g75 : G, Ex g g75 →
  (CallsP Tryd.prog 88 #[(.agg ⟨[(.int .i64 t0), (.int .i64 t1), (.string t2), (.slice t3a t3l t3c), (.slice t4a t4l t4c)]⟩), (.bool false), (.bool false), (.bool false)] g75 fun v g76 =>
  ∃ x_25 : Bool, v = (.bool x_25) ∧ ifB (!x_25)
  (∀ g77 : G, Ex g76 g77 →
  R (.bool false) g77)
  (ifB (ltI ((t4l : Nat) : Int) (1 : Int))
  (∀ g78 : G, Ex g76 g78 →
  R (.bool false) g78)
  (InI64 (((t4l : Nat) : Int) - (1 : Int)) ∧ (CallsP Tryd.prog 91 #[(.agg ⟨[(.int .i64 t0), (.int .i64 t1), (.string t2), (.slice t3a t3l t3c), (.slice t4a t4l t4c)]⟩), (.int .i64 (((t4l : Nat) : Int) - (1 : Int))), (.int .i64 ((t4l : Nat) : Int)), (.int .i64 (3 : Int))] g76 fun v g79 =>
  ∃ x_26 : Bool, v = (.bool x_26) ∧ ifB (!x_26)
  (∀ g80 : G, Ex g79 g80 →
  R (.bool false) g80)
  (J_1 g79))))))
  (ifB (eqI t0 (32 : Int))
  (ifB (eqI t1 (12 : Int))
  (∀ g81 : G, Ex g g81 →
  (CallsP Tryd.prog 88 #[(.agg ⟨[(.int .i64 t0), (.int .i64 t1), (.string t2), (.slice t3a t3l t3c), (.slice t4a t4l t4c)]⟩), (.bool true), (.bool false), (.bool false)] g81 fun v g82 =>
  ∃ x_27 : Bool, v = (.bool x_27) ∧ ifB x_27
  (∀ g83 : G, NewL g82 g83 3 [(.int .i64 (3 : Int))] →
  (CallsP Tryd.prog 92 #[(.agg ⟨[(.int .i64 t0), (.int .i64 t1), (.string t2), (.slice t3a t3l t3c), (.slice t4a t4l t4c)]⟩), (.slice (some ⟨g82.w.heap.size, 0, none⟩) 1 1)] g83 fun v g84 =>
  ∃ x_28 : Bool, v = (.bool x_28) ∧ ∀ g85 : G, Ex g84 g85 →
  R (.bool x_28) g85))
  (∀ g86 : G, Ex g82 g86 →
  R (.bool false) g86)))
  (∀ g87 : G, Ex g g87 →
  (CallsP Tryd.prog 88 #[(.agg ⟨[(.int .i64 t0), (.int .i64 t1), (.string t2), (.slice t3a t3l t3c), (.slice t4a t4l t4c)]⟩), (.bool true), (.bool false), (.bool false)] g87 fun v g88 =>
  ∃ x_29 : Bool, v = (.bool x_29) ∧ ifB x_29
  (ifB (leI (1 : Int) t1)
  (ifB (leI t1 (11 : Int))
  (∀ g89 : G, NewL g88 g89 3 [(.int .i64 (3 : Int)), (.int .i64 (3 : Int))] →
  (CallsP Tryd.prog 92 #[(.agg ⟨[(.int .i64 t0), (.int .i64 t1), (.string t2), (.slice t3a t3l t3c), (.slice t4a t4l t4c)]⟩), (.slice (some ⟨g88.w.heap.size, 0, none⟩) 2 2)] g89 fun v g90 =>
  ∃ x_30 : Bool, v = (.bool x_30) ∧ ∀ g91 : G, Ex g90 g91 →
  R (.bool x_30) g91))
  (∀ g92 : G, Ex g88 g92 →
  R (.bool false) g92))
  (∀ g93 : G, Ex g88 g93 →
  R (.bool false) g93))
  (∀ g94 : G, Ex g88 g94 →
  R (.bool false) g94))))
  (ifB (eqI t0 (33 : Int))
  (∀ g95 : G, Ex g g95 →
  (CallsP Tryd.prog 88 #[(.agg ⟨[(.int .i64 t0), (.int .i64 t1), (.string t2), (.slice t3a t3l t3c), (.slice t4a t4l t4c)]⟩), (.bool false), (.bool false), (.bool false)] g95 fun v g96 =>
  ∃ x_31 : Bool, v = (.bool x_31) ∧ ifB x_31
  (∀ g97 : G, NewL g96 g97 3 [(.int .i64 (3 : Int)), (.int .i64 (1 : Int))] →
  (CallsP Tryd.prog 92 #[(.agg ⟨[(.int .i64 t0), (.int .i64 t1), (.string t2), (.slice t3a t3l t3c), (.slice t4a t4l t4c)]⟩), (.slice (some ⟨g96.w.heap.size, 0, none⟩) 2 2)] g97 fun v g98 =>
  ∃ x_32 : Bool, v = (.bool x_32) ∧ ∀ g99 : G, Ex g98 g99 →
  R (.bool x_32) g99))
  (∀ g100 : G, Ex g96 g100 →
  R (.bool false) g100)))
  (∀ g101 : G, Ex g g101 →
  (CallsP Tryd.prog 88 #[(.agg ⟨[(.int .i64 t0), (.int .i64 t1), (.string t2), (.slice t3a t3l t3c), (.slice t4a t4l t4c)]⟩), (.bool false), (.bool false), (.bool true)] g101 fun v g102 =>
  ∃ x_33 : Bool, v = (.bool x_33) ∧ ifB x_33
  ((CallsP Tryd.prog 90 #[(.slice t3a t3l t3c), (.bool false)] g102 fun v g103 =>
  ∃ x_34 : Bool, v = (.bool x_34) ∧ ifB x_34
  (∀ g104 : G, NewL g103 g104 3 [(.int .i64 (0 : Int))] →
  (CallsP Tryd.prog 92 #[(.agg ⟨[(.int .i64 t0), (.int .i64 t1), (.string t2), (.slice t3a t3l t3c), (.slice t4a t4l t4c)]⟩), (.slice (some ⟨g103.w.heap.size, 0, none⟩) 1 1)] g104 fun v g105 =>
  ∃ x_35 : Bool, v = (.bool x_35) ∧ ∀ g106 : G, Ex g105 g106 →
  R (.bool x_35) g106))
  (∀ g107 : G, Ex g103 g107 →
  R (.bool false) g107)))
  (∀ g108 : G, Ex g102 g108 →
  R (.bool false) g108)))))))))))))))
theorem F79_eq (t0 : Int) (t1 : Int) (t2 : ByteArray) (t3a : Option Addr) (t3l : Nat) (t3c : Nat) (t4a : Option Addr) (t4l : Nat) (t4c : Nat) (g : G) (R : Value → G → Prop) : fnG cfg79 266 [.tmp 2] c79 an79 [(.agg ⟨[(.int .i64 t0), (.int .i64 t1), (.string t2), (.slice t3a t3l t3c), (.slice t4a t4l t4c)]⟩)] g nobody R = F79 t0 t1 t2 t3a t3l t3c t4a t4l t4c g R := by kernel_rfl
theorem call79 (t0 : Int) (t1 : Int) (t2 : ByteArray) (t3a : Option Addr) (t3l : Nat) (t3c : Nat) (t4a : Option Addr) (t4l : Nat) (t4c : Nat) (g : G) (R : Value → G → Prop) (hF : F79 t0 t1 t2 t3a t3l t3c t4a t4l t4c g R) : CallsG Tryd.prog 79 #[(.agg ⟨[(.int .i64 t0), (.int .i64 t1), (.string t2), (.slice t3a t3l t3c), (.slice t4a t4l t4c)]⟩)] g nobody R :=
  fn_soundG (c := cfg79) TTok FNSok mixed Tryd.func79 (show Tryd.f79.body = some c79 by kernel_rfl) (show Tryd.f79.ntmps = 266 by kernel_rfl) (show Tryd.f79.results.toList = [.tmp 2] by kernel_rfl) rfl ((F79_eq t0 t1 t2 t3a t3l t3c t4a t4l t4c g R).mpr hF)

/- 80 pilaster/pilasterref03.declForm -/
noncomputable def c80 : Code := match Tryd.f80.body with
  | some c => c
  | none => .skip
noncomputable def cfg80 : Cfg := ⟨Tryd.prog, TT, FNS, [1], [(1, 1), (7, 1), (10, 1), (16, 1), (25, 1), (32, 1), (38, 1), (44, 1), (50, 1), (56, 1), (66, 1), (72, 1), (76, 1), (82, 1), (91, 1), (98, 1), (104, 1), (118, 1), (130, 1), (136, 1), (143, 1), (149, 1), (162, 1), (168, 1), (177, 1), (183, 1), (192, 1), (196, 1), (203, 1), (214, 1)], [], TCH, false, false⟩
def an80 : AnnG := (.seq .leaf (.seq .leaf (.seq (.seq .leaf (.cond (.seq .leaf .leaf) .leaf)) (.seq (.seq .leaf (.cond (.join ⟨[], [], []⟩ (.seq .leaf (.cond (.seq .leaf .leaf) .leaf)) (.seq (.seq .leaf (.blk (.loop ⟨[(4, .int .i64)], [], []⟩ (.seq (.seq .leaf (.cond .leaf .leaf)) (.seq (.blk (.seq .leaf (.cond (.seq .leaf .leaf) .leaf))) .leaf))))) (.seq .leaf .leaf))) .leaf)) (.seq (.seq .leaf (.cond (.seq .leaf .leaf) .leaf)) (.seq (.seq .leaf (.cond (.join ⟨[], [], []⟩ (.seq .leaf (.cond (.seq .leaf .leaf) .leaf)) (.seq (.seq .leaf (.blk (.loop ⟨[(5, .int .i64)], [], []⟩ (.seq (.seq .leaf (.cond .leaf .leaf)) (.seq (.blk (.seq (.seq .leaf (.cond (.seq .leaf .leaf) .leaf)) (.seq .leaf (.blk (.loop ⟨[(6, .int .i64)], [], []⟩ (.seq (.seq .leaf (.cond .leaf .leaf)) (.seq (.blk (.seq (.tree 12 (.quiet 0 (.quiet 1 (.quiet 2 (.quiet 3 (.quiet 4 (.quiet 5 (.quiet 6 (.quiet 7 (.quiet 8 (.quiet 9 (.quiet 10 (.quiet 11 .fin))))))))))))) (.cond (.seq .leaf .leaf) .leaf))) .leaf))))))) .leaf))))) (.seq .leaf .leaf))) .leaf)) (.seq (.seq .leaf (.cond (.seq .leaf .leaf) .leaf)) (.seq (.seq .leaf (.cond (.seq .leaf .leaf) .leaf)) (.seq (.seq .leaf (.cond (.seq .leaf .leaf) .leaf)) (.seq (.join ⟨[(199, .bool)], [], []⟩ .leaf (.cond (.seq .leaf .leaf) .leaf)) (.seq .leaf .leaf)))))))))))
def F80 (t0 : Int) (t1 : Int) (t2 : ByteArray) (t3a : Option Addr) (t3l : Nat) (t3c : Nat) (t4a : Option Addr) (t4l : Nat) (t4c : Nat) (g : G) (R : Value → G → Prop) : Prop :=
  ifB (eqI t0 (41 : Int))
  (∀ g1 : G, Ex g g1 →
  (CallsP Tryd.prog 88 #[(.agg ⟨[(.int .i64 t0), (.int .i64 t1), (.string t2), (.slice t3a t3l t3c), (.slice t4a t4l t4c)]⟩), (.bool false), (.bool true), (.bool false)] g1 fun v g2 =>
  ∃ x : Bool, v = (.bool x) ∧ ifB x
  ((CallsP Tryd.prog 93 #[(.string t2)] g2 fun v g3 =>
  ∃ x_1 : Bool, v = (.bool x_1) ∧ ifB x_1
  (∀ g4 : G, NewL g3 g4 3 [(.int .i64 (3 : Int))] →
  (CallsP Tryd.prog 92 #[(.agg ⟨[(.int .i64 t0), (.int .i64 t1), (.string t2), (.slice t3a t3l t3c), (.slice t4a t4l t4c)]⟩), (.slice (some ⟨g3.w.heap.size, 0, none⟩) 1 1)] g4 fun v g5 =>
  ∃ x_2 : Bool, v = (.bool x_2) ∧ ∀ g6 : G, Ex g5 g6 →
  R (.bool x_2) g6))
  (∀ g7 : G, Ex g3 g7 →
  R (.bool false) g7)))
  (∀ g8 : G, Ex g2 g8 →
  R (.bool false) g8)))
  (ifB (eqI t0 (42 : Int))
  (∀ J : G → Prop,
  (∀ g9 : G, (∃ Inv : Nat → Int → G → Prop, ((∃ m0 : Nat, Inv m0 (0 : Int) g9)) ∧
  ∀ m : Nat, ∀ i : Int, ∀ g10 : G, Le g9 g10 → Inv m i g10 →
  ifB (ltI i ((t3l : Nat) : Int))
  ((0 ≤ i ∧ i < ((t3l : Nat) : Int)) ∧ derefP t3a fun ad => ∃ x_3 : ByteArray, g10.w.cell? (Addr.add ad (Int.toNat i * 1)) = some (.string x_3) ∧ (CallsP Tryd.prog 93 #[(.string x_3)] g10 fun v g11 =>
  ∃ x_4 : Bool, v = (.bool x_4) ∧ ifB (!x_4)
  (∀ g12 : G, Ex g11 g12 →
  R (.bool false) g12)
  (InI64 (i + (1 : Int)) ∧ (∃ m_1 : Nat, m_1 < m ∧ Inv m_1 (i + (1 : Int)) g11))))
  (∀ g13 : G, NewL g10 g13 3 [(.int .i64 (3 : Int))] →
  (CallsP Tryd.prog 92 #[(.agg ⟨[(.int .i64 t0), (.int .i64 t1), (.string t2), (.slice t3a t3l t3c), (.slice t4a t4l t4c)]⟩), (.slice (some ⟨g10.w.heap.size, 0, none⟩) 1 1)] g13 fun v g14 =>
  ∃ x_5 : Bool, v = (.bool x_5) ∧ ∀ g15 : G, Ex g14 g15 →
  R (.bool x_5) g15))) → J g9) →
  ∀ g16 : G, Ex g g16 →
  (CallsP Tryd.prog 88 #[(.agg ⟨[(.int .i64 t0), (.int .i64 t1), (.string t2), (.slice t3a t3l t3c), (.slice t4a t4l t4c)]⟩), (.bool false), (.bool true), (.bool true)] g16 fun v g17 =>
  ∃ x_6 : Bool, v = (.bool x_6) ∧ ifB (!x_6)
  (∀ g18 : G, Ex g17 g18 →
  R (.bool false) g18)
  ((CallsP Tryd.prog 93 #[(.string t2)] g17 fun v g19 =>
  ∃ x_7 : Bool, v = (.bool x_7) ∧ ifB (!x_7)
  (∀ g20 : G, Ex g19 g20 →
  R (.bool false) g20)
  (ifB (ltI ((t3l : Nat) : Int) (1 : Int))
  (∀ g21 : G, Ex g19 g21 →
  R (.bool false) g21)
  (ifB (ltI (9 : Int) ((t3l : Nat) : Int))
  (∀ g22 : G, Ex g19 g22 →
  R (.bool false) g22)
  (J g19)))))))
  (ifB (eqI t0 (43 : Int))
  (∀ g23 : G, Ex g g23 →
  (CallsP Tryd.prog 88 #[(.agg ⟨[(.int .i64 t0), (.int .i64 t1), (.string t2), (.slice t3a t3l t3c), (.slice t4a t4l t4c)]⟩), (.bool false), (.bool true), (.bool true)] g23 fun v g24 =>
  ∃ x_8 : Bool, v = (.bool x_8) ∧ ifB x_8
  (ifB (strEq t2 (bs []))
  ((CallsP Tryd.prog 95 #[(.slice t3a t3l t3c)] g24 fun v g25 =>
  ∃ x_9 : Bool, v = (.bool x_9) ∧ ifB x_9
  (∀ g26 : G, NewL g25 g26 3 [(.int .i64 (1 : Int))] →
  (CallsP Tryd.prog 92 #[(.agg ⟨[(.int .i64 t0), (.int .i64 t1), (.string t2), (.slice t3a t3l t3c), (.slice t4a t4l t4c)]⟩), (.slice (some ⟨g25.w.heap.size, 0, none⟩) 1 1)] g26 fun v g27 =>
  ∃ x_10 : Bool, v = (.bool x_10) ∧ ∀ g28 : G, Ex g27 g28 →
  R (.bool x_10) g28))
  (∀ g29 : G, Ex g25 g29 →
  R (.bool false) g29)))
  ((CallsP Tryd.prog 93 #[(.string t2)] g24 fun v g30 =>
  ∃ x_11 : Bool, v = (.bool x_11) ∧ ifB x_11
  ((CallsP Tryd.prog 95 #[(.slice t3a t3l t3c)] g30 fun v g31 =>
  ∃ x_12 : Bool, v = (.bool x_12) ∧ ifB x_12
  (∀ g32 : G, NewL g31 g32 3 [(.int .i64 (1 : Int))] →
  (CallsP Tryd.prog 92 #[(.agg ⟨[(.int .i64 t0), (.int .i64 t1), (.string t2), (.slice t3a t3l t3c), (.slice t4a t4l t4c)]⟩), (.slice (some ⟨g31.w.heap.size, 0, none⟩) 1 1)] g32 fun v g33 =>
  ∃ x_13 : Bool, v = (.bool x_13) ∧ ∀ g34 : G, Ex g33 g34 →
  R (.bool x_13) g34))
  (∀ g35 : G, Ex g31 g35 →
  R (.bool false) g35)))
  (∀ g36 : G, Ex g30 g36 →
  R (.bool false) g36))))
  (∀ g37 : G, Ex g24 g37 →
  R (.bool false) g37)))
  (ifB (eqI t0 (44 : Int))
  (∀ J_1 : G → Prop,
  (∀ g38 : G, (∃ Inv_1 : Nat → Int → G → Prop, ((∃ m0 : Nat, Inv_1 m0 (0 : Int) g38)) ∧
  ∀ m_2 : Nat, ∀ i_1 : Int, ∀ g39 : G, Le g38 g39 → Inv_1 m_2 i_1 g39 →
  ifB (ltI i_1 ((t4l : Nat) : Int))
  ((0 ≤ i_1 ∧ i_1 < ((t4l : Nat) : Int)) ∧ derefP t4a fun ad_1 => ∃ x_14 : Int, g39.w.cell? (Addr.add ad_1 (Int.toNat i_1 * 5)) = some (.int .i64 x_14) ∧ ifB (!eqI x_14 (45 : Int))
  (∀ g40 : G, Ex g39 g40 →
  R (.bool false) g40)
  (∃ Inv_2 : Nat → Int → G → Prop, ((∃ m0 : Nat, Inv_2 m0 (0 : Int) g39)) ∧
  ∀ m_4 : Nat, ∀ j : Int, ∀ g41 : G, Le g39 g41 → Inv_2 m_4 j g41 →
  ifB (ltI j i_1)
  (∀ g42 : G, Ex g41 g42 →
  (0 ≤ i_1 ∧ i_1 < ((t4l : Nat) : Int)) ∧ derefP t4a fun ad_2 => ∃ x_15 : ByteArray, g42.w.cell? (Addr.add (Addr.add ad_2 (Int.toNat i_1 * 5)) 2) = some (.string x_15) ∧ (0 ≤ j ∧ j < ((t4l : Nat) : Int)) ∧ derefP t4a fun ad_3 => ∃ x_16 : ByteArray, g42.w.cell? (Addr.add (Addr.add ad_3 (Int.toNat j * 5)) 2) = some (.string x_16) ∧ ifB (strEq x_15 x_16)
  (∀ g43 : G, Ex g42 g43 →
  R (.bool false) g43)
  (InI64 (j + (1 : Int)) ∧ (∃ m_5 : Nat, m_5 < m_4 ∧ Inv_2 m_5 (j + (1 : Int)) g42)))
  (InI64 (i_1 + (1 : Int)) ∧ (∃ m_3 : Nat, m_3 < m_2 ∧ Inv_1 m_3 (i_1 + (1 : Int)) g41))))
  (∀ g44 : G, Ex g39 g44 →
  R (.bool true) g44)) → J_1 g38) →
  ∀ g45 : G, Ex g g45 →
  (CallsP Tryd.prog 88 #[(.agg ⟨[(.int .i64 t0), (.int .i64 t1), (.string t2), (.slice t3a t3l t3c), (.slice t4a t4l t4c)]⟩), (.bool false), (.bool true), (.bool true)] g45 fun v g46 =>
  ∃ x_17 : Bool, v = (.bool x_17) ∧ ifB (!x_17)
  (∀ g47 : G, Ex g46 g47 →
  R (.bool false) g47)
  ((CallsP Tryd.prog 93 #[(.string t2)] g46 fun v g48 =>
  ∃ x_18 : Bool, v = (.bool x_18) ∧ ifB (!x_18)
  (∀ g49 : G, Ex g48 g49 →
  R (.bool false) g49)
  ((CallsP Tryd.prog 95 #[(.slice t3a t3l t3c)] g48 fun v g50 =>
  ∃ x_19 : Bool, v = (.bool x_19) ∧ ifB (!x_19)
  (∀ g51 : G, Ex g50 g51 →
  R (.bool false) g51)
  (ifB (ltI ((t4l : Nat) : Int) (1 : Int))
  (∀ g52 : G, Ex g50 g52 →
  R (.bool false) g52)
  (J_1 g50))))))))
  (ifB (eqI t0 (45 : Int))
  (∀ g53 : G, Ex g g53 →
  (CallsP Tryd.prog 88 #[(.agg ⟨[(.int .i64 t0), (.int .i64 t1), (.string t2), (.slice t3a t3l t3c), (.slice t4a t4l t4c)]⟩), (.bool false), (.bool true), (.bool false)] g53 fun v g54 =>
  ∃ x_20 : Bool, v = (.bool x_20) ∧ ifB x_20
  ((CallsP Tryd.prog 96 #[(.string t2)] g54 fun v g55 =>
  ∃ x_21 : Bool, v = (.bool x_21) ∧ ifB x_21
  (ifB (leI ((t4l : Nat) : Int) (1 : Int))
  ((CallsP Tryd.prog 91 #[(.agg ⟨[(.int .i64 t0), (.int .i64 t1), (.string t2), (.slice t3a t3l t3c), (.slice t4a t4l t4c)]⟩), (.int .i64 (0 : Int)), (.int .i64 ((t4l : Nat) : Int)), (.int .i64 (1 : Int))] g55 fun v g56 =>
  ∃ x_22 : Bool, v = (.bool x_22) ∧ ∀ g57 : G, Ex g56 g57 →
  R (.bool x_22) g57))
  (∀ g58 : G, Ex g55 g58 →
  R (.bool false) g58))
  (∀ g59 : G, Ex g55 g59 →
  R (.bool false) g59)))
  (∀ g60 : G, Ex g54 g60 →
  R (.bool false) g60)))
  (ifB (eqI t0 (46 : Int))
  (∀ g61 : G, Ex g g61 →
  (CallsP Tryd.prog 88 #[(.agg ⟨[(.int .i64 t0), (.int .i64 t1), (.string t2), (.slice t3a t3l t3c), (.slice t4a t4l t4c)]⟩), (.bool false), (.bool true), (.bool false)] g61 fun v g62 =>
  ∃ x_23 : Bool, v = (.bool x_23) ∧ ifB x_23
  ((CallsP Tryd.prog 96 #[(.string t2)] g62 fun v g63 =>
  ∃ x_24 : Bool, v = (.bool x_24) ∧ ifB x_24
  (∀ g64 : G, NewL g63 g64 3 [(.int .i64 (7 : Int))] →
  (CallsP Tryd.prog 92 #[(.agg ⟨[(.int .i64 t0), (.int .i64 t1), (.string t2), (.slice t3a t3l t3c), (.slice t4a t4l t4c)]⟩), (.slice (some ⟨g63.w.heap.size, 0, none⟩) 1 1)] g64 fun v g65 =>
  ∃ x_25 : Bool, v = (.bool x_25) ∧ ∀ g66 : G, Ex g65 g66 →
  R (.bool x_25) g66))
  (∀ g67 : G, Ex g63 g67 →
  R (.bool false) g67)))
  (∀ g68 : G, Ex g62 g68 →
  R (.bool false) g68)))
  (ifB (eqI t0 (47 : Int))
  (∀ g69 : G, Ex g g69 →
  (CallsP Tryd.prog 88 #[(.agg ⟨[(.int .i64 t0), (.int .i64 t1), (.string t2), (.slice t3a t3l t3c), (.slice t4a t4l t4c)]⟩), (.bool false), (.bool true), (.bool false)] g69 fun v g70 =>
  ∃ x_26 : Bool, v = (.bool x_26) ∧ ifB x_26
  ((CallsP Tryd.prog 96 #[(.string t2)] g70 fun v g71 =>
  ∃ x_27 : Bool, v = (.bool x_27) ∧ ifB x_27
  (∀ g72 : G, NewL g71 g72 3 [(.int .i64 (6 : Int))] →
  (CallsP Tryd.prog 92 #[(.agg ⟨[(.int .i64 t0), (.int .i64 t1), (.string t2), (.slice t3a t3l t3c), (.slice t4a t4l t4c)]⟩), (.slice (some ⟨g71.w.heap.size, 0, none⟩) 1 1)] g72 fun v g73 =>
  ∃ x_28 : Bool, v = (.bool x_28) ∧ ∀ g74 : G, Ex g73 g74 →
  R (.bool x_28) g74))
  (∀ g75 : G, Ex g71 g75 →
  R (.bool false) g75)))
  (∀ g76 : G, Ex g70 g76 →
  R (.bool false) g76)))
  (∀ J_2 : Bool → G → Prop,
  (∀ v_1 : Bool, ∀ g77 : G, (ifB v_1
  ((CallsP Tryd.prog 88 #[(.agg ⟨[(.int .i64 t0), (.int .i64 t1), (.string t2), (.slice t3a t3l t3c), (.slice t4a t4l t4c)]⟩), (.bool false), (.bool false), (.bool true)] g77 fun v g78 =>
  ∃ x_29 : Bool, v = (.bool x_29) ∧ ifB x_29
  ((CallsP Tryd.prog 90 #[(.slice t3a t3l t3c), (.bool false)] g78 fun v g79 =>
  ∃ x_30 : Bool, v = (.bool x_30) ∧ ifB x_30
  (∀ g80 : G, Ex g79 g80 →
  R (.bool (eqI ((t4l : Nat) : Int) (0 : Int))) g80)
  (∀ g81 : G, Ex g79 g81 →
  R (.bool false) g81)))
  (∀ g82 : G, Ex g78 g82 →
  R (.bool false) g82)))
  ((CallsP Tryd.prog 88 #[(.agg ⟨[(.int .i64 t0), (.int .i64 t1), (.string t2), (.slice t3a t3l t3c), (.slice t4a t4l t4c)]⟩), (.bool false), (.bool true), (.bool false)] g77 fun v g83 =>
  ∃ x_31 : Bool, v = (.bool x_31) ∧ ifB x_31
  ((CallsP Tryd.prog 96 #[(.string t2)] g83 fun v g84 =>
  ∃ x_32 : Bool, v = (.bool x_32) ∧ ifB x_32
  (∀ g85 : G, NewL g84 g85 3 [(.int .i64 (3 : Int)), (.int .i64 (0 : Int))] →
  (CallsP Tryd.prog 92 #[(.agg ⟨[(.int .i64 t0), (.int .i64 t1), (.string t2), (.slice t3a t3l t3c), (.slice t4a t4l t4c)]⟩), (.slice (some ⟨g84.w.heap.size, 0, none⟩) 2 2)] g85 fun v g86 =>
  ∃ x_33 : Bool, v = (.bool x_33) ∧ ∀ g87 : G, Ex g86 g87 →
  R (.bool x_33) g87))
  (∀ g88 : G, Ex g84 g88 →
  R (.bool false) g88)))
  (∀ g89 : G, Ex g83 g89 →
  R (.bool false) g89)))) → J_2 v_1 g77) →
  ifB (eqI t0 (48 : Int))
  (∀ g90 : G, Ex g g90 →
  J_2 true g90)
  (∀ g91 : G, Ex g g91 →
  J_2 (eqI t0 (49 : Int)) g91))))))))
theorem F80_eq (t0 : Int) (t1 : Int) (t2 : ByteArray) (t3a : Option Addr) (t3l : Nat) (t3c : Nat) (t4a : Option Addr) (t4l : Nat) (t4c : Nat) (g : G) (R : Value → G → Prop) : fnG cfg80 223 [.tmp 2] c80 an80 [(.agg ⟨[(.int .i64 t0), (.int .i64 t1), (.string t2), (.slice t3a t3l t3c), (.slice t4a t4l t4c)]⟩)] g nobody R = F80 t0 t1 t2 t3a t3l t3c t4a t4l t4c g R := by kernel_rfl
theorem call80 (t0 : Int) (t1 : Int) (t2 : ByteArray) (t3a : Option Addr) (t3l : Nat) (t3c : Nat) (t4a : Option Addr) (t4l : Nat) (t4c : Nat) (g : G) (R : Value → G → Prop) (hF : F80 t0 t1 t2 t3a t3l t3c t4a t4l t4c g R) : CallsG Tryd.prog 80 #[(.agg ⟨[(.int .i64 t0), (.int .i64 t1), (.string t2), (.slice t3a t3l t3c), (.slice t4a t4l t4c)]⟩)] g nobody R :=
  fn_soundG (c := cfg80) TTok FNSok mixed Tryd.func80 (show Tryd.f80.body = some c80 by kernel_rfl) (show Tryd.f80.ntmps = 223 by kernel_rfl) (show Tryd.f80.results.toList = [.tmp 2] by kernel_rfl) rfl ((F80_eq t0 t1 t2 t3a t3l t3c t4a t4l t4c g R).mpr hF)

/- 81 pilaster/pilasterref03.specForm -/
noncomputable def c81 : Code := match Tryd.f81.body with
  | some c => c
  | none => .skip
noncomputable def cfg81 : Cfg := ⟨Tryd.prog, TT, FNS, [1], [(1, 1), (4, 1), (7, 1), (13, 1), (22, 1), (28, 1), (33, 1), (41, 1), (45, 1), (52, 1), (61, 1), (71, 1), (77, 1), (86, 1), (94, 1), (102, 1), (112, 1), (118, 1), (126, 1), (132, 1), (136, 1), (142, 1), (154, 1), (167, 1), (175, 1)], [], TCH, false, false⟩
def an81 : AnnG := (.seq .leaf (.seq .leaf (.seq (.seq .leaf (.cond (.seq .leaf .leaf) .leaf)) (.seq (.seq .leaf (.cond (.seq .leaf .leaf) .leaf)) (.seq (.join ⟨[(48, .bool)], [], []⟩ .leaf (.cond (.seq .leaf .leaf) .leaf)) (.seq (.seq .leaf (.cond (.seq .leaf .leaf) .leaf)) (.seq (.seq .leaf (.cond (.seq .leaf .leaf) .leaf)) (.seq (.seq .leaf (.cond (.seq .leaf .leaf) .leaf)) (.seq (.seq .leaf (.cond (.seq .leaf .leaf) .leaf)) (.seq (.seq .leaf (.cond (.seq .leaf .leaf) .leaf)) (.seq .leaf .leaf)))))))))))
def F81 (t0 : Int) (t1 : Int) (t2 : ByteArray) (t3a : Option Addr) (t3l : Nat) (t3c : Nat) (t4a : Option Addr) (t4l : Nat) (t4c : Nat) (g : G) (R : Value → G → Prop) : Prop :=
  ifB (eqI t0 (61 : Int))
  (∀ g1 : G, Ex g g1 →
  (CallsP Tryd.prog 88 #[(.agg ⟨[(.int .i64 t0), (.int .i64 t1), (.string t2), (.slice t3a t3l t3c), (.slice t4a t4l t4c)]⟩), (.bool false), (.bool true), (.bool false)] g1 fun v g2 =>
  ∃ x : Bool, v = (.bool x) ∧ ifB x
  ((CallsP Tryd.prog 93 #[(.string t2)] g2 fun v g3 =>
  ∃ x_1 : Bool, v = (.bool x_1) ∧ ifB x_1
  (∀ g4 : G, NewL g3 g4 3 [(.int .i64 (1 : Int))] →
  (CallsP Tryd.prog 92 #[(.agg ⟨[(.int .i64 t0), (.int .i64 t1), (.string t2), (.slice t3a t3l t3c), (.slice t4a t4l t4c)]⟩), (.slice (some ⟨g3.w.heap.size, 0, none⟩) 1 1)] g4 fun v g5 =>
  ∃ x_2 : Bool, v = (.bool x_2) ∧ ∀ g6 : G, Ex g5 g6 →
  R (.bool x_2) g6))
  (∀ g7 : G, Ex g3 g7 →
  R (.bool false) g7)))
  (∀ g8 : G, Ex g2 g8 →
  R (.bool false) g8)))
  (ifB (eqI t0 (62 : Int))
  (∀ g9 : G, Ex g g9 →
  (CallsP Tryd.prog 88 #[(.agg ⟨[(.int .i64 t0), (.int .i64 t1), (.string t2), (.slice t3a t3l t3c), (.slice t4a t4l t4c)]⟩), (.bool false), (.bool true), (.bool true)] g9 fun v g10 =>
  ∃ x_3 : Bool, v = (.bool x_3) ∧ ifB x_3
  ((CallsP Tryd.prog 93 #[(.string t2)] g10 fun v g11 =>
  ∃ x_4 : Bool, v = (.bool x_4) ∧ ifB x_4
  ((CallsP Tryd.prog 95 #[(.slice t3a t3l t3c)] g11 fun v g12 =>
  ∃ x_5 : Bool, v = (.bool x_5) ∧ ifB x_5
  (∀ g13 : G, Ex g12 g13 →
  R (.bool (eqI ((t4l : Nat) : Int) (0 : Int))) g13)
  (∀ g14 : G, Ex g12 g14 →
  R (.bool false) g14)))
  (∀ g15 : G, Ex g11 g15 →
  R (.bool false) g15)))
  (∀ g16 : G, Ex g10 g16 →
  R (.bool false) g16)))
  (∀ J : Bool → G → Prop,
  (∀ v_1 : Bool, ∀ g17 : G, (ifB v_1
  ((CallsP Tryd.prog 88 #[(.agg ⟨[(.int .i64 t0), (.int .i64 t1), (.string t2), (.slice t3a t3l t3c), (.slice t4a t4l t4c)]⟩), (.bool false), (.bool true), (.bool false)] g17 fun v g18 =>
  ∃ x_6 : Bool, v = (.bool x_6) ∧ ifB x_6
  ((CallsP Tryd.prog 96 #[(.string t2)] g18 fun v g19 =>
  ∃ x_7 : Bool, v = (.bool x_7) ∧ ifB x_7
  (∀ g20 : G, NewL g19 g20 3 [(.int .i64 (6 : Int))] →
  (CallsP Tryd.prog 92 #[(.agg ⟨[(.int .i64 t0), (.int .i64 t1), (.string t2), (.slice t3a t3l t3c), (.slice t4a t4l t4c)]⟩), (.slice (some ⟨g19.w.heap.size, 0, none⟩) 1 1)] g20 fun v g21 =>
  ∃ x_8 : Bool, v = (.bool x_8) ∧ ∀ g22 : G, Ex g21 g22 →
  R (.bool x_8) g22))
  (∀ g23 : G, Ex g19 g23 →
  R (.bool false) g23)))
  (∀ g24 : G, Ex g18 g24 →
  R (.bool false) g24)))
  (ifB (eqI t0 (65 : Int))
  ((CallsP Tryd.prog 88 #[(.agg ⟨[(.int .i64 t0), (.int .i64 t1), (.string t2), (.slice t3a t3l t3c), (.slice t4a t4l t4c)]⟩), (.bool false), (.bool false), (.bool false)] g17 fun v g25 =>
  ∃ x_9 : Bool, v = (.bool x_9) ∧ ifB x_9
  (∀ g26 : G, NewL g25 g26 3 [(.int .i64 (6 : Int))] →
  (CallsP Tryd.prog 92 #[(.agg ⟨[(.int .i64 t0), (.int .i64 t1), (.string t2), (.slice t3a t3l t3c), (.slice t4a t4l t4c)]⟩), (.slice (some ⟨g25.w.heap.size, 0, none⟩) 1 1)] g26 fun v g27 =>
  ∃ x_10 : Bool, v = (.bool x_10) ∧ ∀ g28 : G, Ex g27 g28 →
  R (.bool x_10) g28))
  (∀ g29 : G, Ex g25 g29 →
  R (.bool false) g29)))
  (ifB (eqI t0 (66 : Int))
  ((CallsP Tryd.prog 88 #[(.agg ⟨[(.int .i64 t0), (.int .i64 t1), (.string t2), (.slice t3a t3l t3c), (.slice t4a t4l t4c)]⟩), (.bool false), (.bool false), (.bool true)] g17 fun v g30 =>
  ∃ x_11 : Bool, v = (.bool x_11) ∧ ifB x_11
  ((CallsP Tryd.prog 90 #[(.slice t3a t3l t3c), (.bool true)] g30 fun v g31 =>
  ∃ x_12 : Bool, v = (.bool x_12) ∧ ifB x_12
  (ifB (eqI ((t4l : Nat) : Int) (1 : Int))
  ((0 ≤ (0 : Int) ∧ (0 : Int) < ((t4l : Nat) : Int)) ∧ derefP t4a fun ad => ∃ x_13 : Int, g31.w.cell? (Addr.add ad (Int.toNat (0 : Int) * 5)) = some (.int .i64 x_13) ∧ ifB (eqI x_13 (2 : Int))
  ((0 ≤ (0 : Int) ∧ (0 : Int) < ((t4l : Nat) : Int)) ∧ derefP t4a fun ad_1 => ∃ xa : Option Addr, ∃ xl : Nat, ∃ xc : Nat, g31.w.cell? (Addr.add (Addr.add ad_1 (Int.toNat (0 : Int) * 5)) 4) = some (.slice xa xl xc) ∧ ∀ g32 : G, Ex g31 g32 →
  R (.bool (eqI ((xl : Nat) : Int) (0 : Int))) g32)
  (∀ g33 : G, Ex g31 g33 →
  R (.bool false) g33))
  (∀ g34 : G, Ex g31 g34 →
  R (.bool false) g34))
  (∀ g35 : G, Ex g31 g35 →
  R (.bool false) g35)))
  (∀ g36 : G, Ex g30 g36 →
  R (.bool false) g36)))
  (ifB (eqI t0 (71 : Int))
  ((CallsP Tryd.prog 88 #[(.agg ⟨[(.int .i64 t0), (.int .i64 t1), (.string t2), (.slice t3a t3l t3c), (.slice t4a t4l t4c)]⟩), (.bool false), (.bool false), (.bool false)] g17 fun v g37 =>
  ∃ x_14 : Bool, v = (.bool x_14) ∧ ifB x_14
  ((CallsP Tryd.prog 91 #[(.agg ⟨[(.int .i64 t0), (.int .i64 t1), (.string t2), (.slice t3a t3l t3c), (.slice t4a t4l t4c)]⟩), (.int .i64 (0 : Int)), (.int .i64 ((t4l : Nat) : Int)), (.int .i64 (5 : Int))] g37 fun v g38 =>
  ∃ x_15 : Bool, v = (.bool x_15) ∧ ∀ g39 : G, Ex g38 g39 →
  R (.bool x_15) g39))
  (∀ g40 : G, Ex g37 g40 →
  R (.bool false) g40)))
  (ifB (eqI t0 (72 : Int))
  ((CallsP Tryd.prog 88 #[(.agg ⟨[(.int .i64 t0), (.int .i64 t1), (.string t2), (.slice t3a t3l t3c), (.slice t4a t4l t4c)]⟩), (.bool false), (.bool false), (.bool true)] g17 fun v g41 =>
  ∃ x_16 : Bool, v = (.bool x_16) ∧ ifB x_16
  ((CallsP Tryd.prog 90 #[(.slice t3a t3l t3c), (.bool false)] g41 fun v g42 =>
  ∃ x_17 : Bool, v = (.bool x_17) ∧ ifB x_17
  (∀ g43 : G, Ex g42 g43 →
  R (.bool (eqI ((t4l : Nat) : Int) (0 : Int))) g43)
  (∀ g44 : G, Ex g42 g44 →
  R (.bool false) g44)))
  (∀ g45 : G, Ex g41 g45 →
  R (.bool false) g45)))
  (ifB (eqI t0 (73 : Int))
  ((CallsP Tryd.prog 88 #[(.agg ⟨[(.int .i64 t0), (.int .i64 t1), (.string t2), (.slice t3a t3l t3c), (.slice t4a t4l t4c)]⟩), (.bool true), (.bool true), (.bool false)] g17 fun v g46 =>
  ∃ x_18 : Bool, v = (.bool x_18) ∧ ifB x_18
  (ifB (eqI t1 (0 : Int))
  ((CallsP Tryd.prog 96 #[(.string t2)] g46 fun v g47 =>
  ∃ x_19 : Bool, v = (.bool x_19) ∧ ifB x_19
  (∀ g48 : G, NewL g47 g48 3 [(.int .i64 (6 : Int)), (.int .i64 (6 : Int))] →
  (CallsP Tryd.prog 92 #[(.agg ⟨[(.int .i64 t0), (.int .i64 t1), (.string t2), (.slice t3a t3l t3c), (.slice t4a t4l t4c)]⟩), (.slice (some ⟨g47.w.heap.size, 0, none⟩) 2 2)] g48 fun v g49 =>
  ∃ x_20 : Bool, v = (.bool x_20) ∧ ∀ g50 : G, Ex g49 g50 →
  R (.bool x_20) g50))
  (∀ g51 : G, Ex g47 g51 →
  R (.bool false) g51)))
  (ifB (eqI t1 (1 : Int))
  ((CallsP Tryd.prog 96 #[(.string t2)] g46 fun v g52 =>
  ∃ x_21 : Bool, v = (.bool x_21) ∧ ifB x_21
  (∀ g53 : G, NewL g52 g53 3 [(.int .i64 (6 : Int)), (.int .i64 (6 : Int))] →
  (CallsP Tryd.prog 92 #[(.agg ⟨[(.int .i64 t0), (.int .i64 t1), (.string t2), (.slice t3a t3l t3c), (.slice t4a t4l t4c)]⟩), (.slice (some ⟨g52.w.heap.size, 0, none⟩) 2 2)] g53 fun v g54 =>
  ∃ x_22 : Bool, v = (.bool x_22) ∧ ∀ g55 : G, Ex g54 g55 →
  R (.bool x_22) g55))
  (∀ g56 : G, Ex g52 g56 →
  R (.bool false) g56)))
  (∀ g57 : G, Ex g46 g57 →
  R (.bool false) g57)))
  (∀ g58 : G, Ex g46 g58 →
  R (.bool false) g58)))
  ((CallsP Tryd.prog 88 #[(.agg ⟨[(.int .i64 t0), (.int .i64 t1), (.string t2), (.slice t3a t3l t3c), (.slice t4a t4l t4c)]⟩), (.bool false), (.bool false), (.bool true)] g17 fun v g59 =>
  ∃ x_23 : Bool, v = (.bool x_23) ∧ ifB x_23
  ((CallsP Tryd.prog 90 #[(.slice t3a t3l t3c), (.bool true)] g59 fun v g60 =>
  ∃ x_24 : Bool, v = (.bool x_24) ∧ ifB x_24
  (ifB (eqI ((t4l : Nat) : Int) (2 : Int))
  ((CallsP Tryd.prog 91 #[(.agg ⟨[(.int .i64 t0), (.int .i64 t1), (.string t2), (.slice t3a t3l t3c), (.slice t4a t4l t4c)]⟩), (.int .i64 (0 : Int)), (.int .i64 (1 : Int)), (.int .i64 (6 : Int))] g60 fun v g61 =>
  ∃ x_25 : Bool, v = (.bool x_25) ∧ ifB x_25
  ((0 ≤ (1 : Int) ∧ (1 : Int) < ((t4l : Nat) : Int)) ∧ derefP t4a fun ad_2 => ∃ x_26 : Int, g61.w.cell? (Addr.add ad_2 (Int.toNat (1 : Int) * 5)) = some (.int .i64 x_26) ∧ ifB (eqI x_26 (43 : Int))
  ((0 ≤ (1 : Int) ∧ (1 : Int) < ((t4l : Nat) : Int)) ∧ derefP t4a fun ad_3 => ∃ x_27 : ByteArray, g61.w.cell? (Addr.add (Addr.add ad_3 (Int.toNat (1 : Int) * 5)) 2) = some (.string x_27) ∧ ∀ g62 : G, Ex g61 g62 →
  R (.bool (strEq x_27 (bs []))) g62)
  (∀ g63 : G, Ex g61 g63 →
  R (.bool false) g63))
  (∀ g64 : G, Ex g61 g64 →
  R (.bool false) g64)))
  (∀ g65 : G, Ex g60 g65 →
  R (.bool false) g65))
  (∀ g66 : G, Ex g60 g66 →
  R (.bool false) g66)))
  (∀ g67 : G, Ex g59 g67 →
  R (.bool false) g67))))))))) → J v_1 g17) →
  ifB (eqI t0 (63 : Int))
  (∀ g68 : G, Ex g g68 →
  J true g68)
  (∀ g69 : G, Ex g g69 →
  J (eqI t0 (64 : Int)) g69)))
theorem F81_eq (t0 : Int) (t1 : Int) (t2 : ByteArray) (t3a : Option Addr) (t3l : Nat) (t3c : Nat) (t4a : Option Addr) (t4l : Nat) (t4c : Nat) (g : G) (R : Value → G → Prop) : fnG cfg81 182 [.tmp 2] c81 an81 [(.agg ⟨[(.int .i64 t0), (.int .i64 t1), (.string t2), (.slice t3a t3l t3c), (.slice t4a t4l t4c)]⟩)] g nobody R = F81 t0 t1 t2 t3a t3l t3c t4a t4l t4c g R := by kernel_rfl
theorem call81 (t0 : Int) (t1 : Int) (t2 : ByteArray) (t3a : Option Addr) (t3l : Nat) (t3c : Nat) (t4a : Option Addr) (t4l : Nat) (t4c : Nat) (g : G) (R : Value → G → Prop) (hF : F81 t0 t1 t2 t3a t3l t3c t4a t4l t4c g R) : CallsG Tryd.prog 81 #[(.agg ⟨[(.int .i64 t0), (.int .i64 t1), (.string t2), (.slice t3a t3l t3c), (.slice t4a t4l t4c)]⟩)] g nobody R :=
  fn_soundG (c := cfg81) TTok FNSok mixed Tryd.func81 (show Tryd.f81.body = some c81 by kernel_rfl) (show Tryd.f81.ntmps = 182 by kernel_rfl) (show Tryd.f81.results.toList = [.tmp 2] by kernel_rfl) rfl ((F81_eq t0 t1 t2 t3a t3l t3c t4a t4l t4c g R).mpr hF)

/- 82 pilaster/pilasterref03.modForm -/
noncomputable def c82 : Code := match Tryd.f82.body with
  | some c => c
  | none => .skip
noncomputable def cfg82 : Cfg := ⟨Tryd.prog, TT, FNS, [1], [(1, 1), (4, 1), (7, 1), (17, 1), (23, 1), (31, 1), (37, 1), (41, 1), (47, 1), (56, 1), (66, 1), (70, 1), (81, 1)], [], TCH, false, false⟩
def an82 : AnnG := (.seq .leaf (.seq .leaf (.seq (.seq .leaf (.cond (.seq .leaf .leaf) .leaf)) (.seq (.seq .leaf (.cond (.seq .leaf .leaf) .leaf)) (.seq (.seq .leaf (.cond (.seq .leaf .leaf) .leaf)) (.seq (.seq .leaf (.cond (.seq .leaf .leaf) .leaf)) (.seq (.join ⟨[(73, .bool)], [], []⟩ .leaf (.cond (.seq .leaf .leaf) .leaf)) (.seq (.seq .leaf (.cond (.seq .leaf .leaf) .leaf)) (.seq .leaf .leaf)))))))))
def F82 (t0 : Int) (t1 : Int) (t2 : ByteArray) (t3a : Option Addr) (t3l : Nat) (t3c : Nat) (t4a : Option Addr) (t4l : Nat) (t4c : Nat) (g : G) (R : Value → G → Prop) : Prop :=
  ifB (eqI t0 (81 : Int))
  (∀ g1 : G, Ex g g1 →
  (CallsP Tryd.prog 88 #[(.agg ⟨[(.int .i64 t0), (.int .i64 t1), (.string t2), (.slice t3a t3l t3c), (.slice t4a t4l t4c)]⟩), (.bool false), (.bool false), (.bool false)] g1 fun v g2 =>
  ∃ x : Bool, v = (.bool x) ∧ ifB x
  ((CallsP Tryd.prog 91 #[(.agg ⟨[(.int .i64 t0), (.int .i64 t1), (.string t2), (.slice t3a t3l t3c), (.slice t4a t4l t4c)]⟩), (.int .i64 (0 : Int)), (.int .i64 ((t4l : Nat) : Int)), (.int .i64 (4 : Int))] g2 fun v g3 =>
  ∃ x_1 : Bool, v = (.bool x_1) ∧ ∀ g4 : G, Ex g3 g4 →
  R (.bool x_1) g4))
  (∀ g5 : G, Ex g2 g5 →
  R (.bool false) g5)))
  (ifB (eqI t0 (82 : Int))
  (∀ g6 : G, Ex g g6 →
  (CallsP Tryd.prog 88 #[(.agg ⟨[(.int .i64 t0), (.int .i64 t1), (.string t2), (.slice t3a t3l t3c), (.slice t4a t4l t4c)]⟩), (.bool false), (.bool false), (.bool true)] g6 fun v g7 =>
  ∃ x_2 : Bool, v = (.bool x_2) ∧ ifB x_2
  ((CallsP Tryd.prog 90 #[(.slice t3a t3l t3c), (.bool false)] g7 fun v g8 =>
  ∃ x_3 : Bool, v = (.bool x_3) ∧ ifB x_3
  (∀ g9 : G, Ex g8 g9 →
  R (.bool (eqI ((t4l : Nat) : Int) (0 : Int))) g9)
  (∀ g10 : G, Ex g8 g10 →
  R (.bool false) g10)))
  (∀ g11 : G, Ex g7 g11 →
  R (.bool false) g11)))
  (ifB (eqI t0 (83 : Int))
  (∀ g12 : G, Ex g g12 →
  (CallsP Tryd.prog 88 #[(.agg ⟨[(.int .i64 t0), (.int .i64 t1), (.string t2), (.slice t3a t3l t3c), (.slice t4a t4l t4c)]⟩), (.bool true), (.bool true), (.bool false)] g12 fun v g13 =>
  ∃ x_4 : Bool, v = (.bool x_4) ∧ ifB x_4
  (ifB (eqI t1 (0 : Int))
  ((CallsP Tryd.prog 96 #[(.string t2)] g13 fun v g14 =>
  ∃ x_5 : Bool, v = (.bool x_5) ∧ ifB x_5
  (∀ g15 : G, NewL g14 g15 3 [(.int .i64 (6 : Int)), (.int .i64 (7 : Int))] →
  (CallsP Tryd.prog 92 #[(.agg ⟨[(.int .i64 t0), (.int .i64 t1), (.string t2), (.slice t3a t3l t3c), (.slice t4a t4l t4c)]⟩), (.slice (some ⟨g14.w.heap.size, 0, none⟩) 2 2)] g15 fun v g16 =>
  ∃ x_6 : Bool, v = (.bool x_6) ∧ ∀ g17 : G, Ex g16 g17 →
  R (.bool x_6) g17))
  (∀ g18 : G, Ex g14 g18 →
  R (.bool false) g18)))
  (ifB (eqI t1 (1 : Int))
  ((CallsP Tryd.prog 96 #[(.string t2)] g13 fun v g19 =>
  ∃ x_7 : Bool, v = (.bool x_7) ∧ ifB x_7
  (∀ g20 : G, NewL g19 g20 3 [(.int .i64 (6 : Int)), (.int .i64 (7 : Int))] →
  (CallsP Tryd.prog 92 #[(.agg ⟨[(.int .i64 t0), (.int .i64 t1), (.string t2), (.slice t3a t3l t3c), (.slice t4a t4l t4c)]⟩), (.slice (some ⟨g19.w.heap.size, 0, none⟩) 2 2)] g20 fun v g21 =>
  ∃ x_8 : Bool, v = (.bool x_8) ∧ ∀ g22 : G, Ex g21 g22 →
  R (.bool x_8) g22))
  (∀ g23 : G, Ex g19 g23 →
  R (.bool false) g23)))
  (∀ g24 : G, Ex g13 g24 →
  R (.bool false) g24)))
  (∀ g25 : G, Ex g13 g25 →
  R (.bool false) g25)))
  (ifB (eqI t0 (84 : Int))
  (∀ g26 : G, Ex g g26 →
  (CallsP Tryd.prog 88 #[(.agg ⟨[(.int .i64 t0), (.int .i64 t1), (.string t2), (.slice t3a t3l t3c), (.slice t4a t4l t4c)]⟩), (.bool false), (.bool false), (.bool false)] g26 fun v g27 =>
  ∃ x_9 : Bool, v = (.bool x_9) ∧ ifB x_9
  (∀ g28 : G, NewL g27 g28 3 [(.int .i64 (7 : Int)), (.int .i64 (7 : Int))] →
  (CallsP Tryd.prog 92 #[(.agg ⟨[(.int .i64 t0), (.int .i64 t1), (.string t2), (.slice t3a t3l t3c), (.slice t4a t4l t4c)]⟩), (.slice (some ⟨g27.w.heap.size, 0, none⟩) 2 2)] g28 fun v g29 =>
  ∃ x_10 : Bool, v = (.bool x_10) ∧ ∀ g30 : G, Ex g29 g30 →
  R (.bool x_10) g30))
  (∀ g31 : G, Ex g27 g31 →
  R (.bool false) g31)))
  (∀ J : Bool → G → Prop,
  (∀ v_1 : Bool, ∀ g32 : G, (ifB v_1
  ((CallsP Tryd.prog 88 #[(.agg ⟨[(.int .i64 t0), (.int .i64 t1), (.string t2), (.slice t3a t3l t3c), (.slice t4a t4l t4c)]⟩), (.bool false), (.bool false), (.bool false)] g32 fun v g33 =>
  ∃ x_11 : Bool, v = (.bool x_11) ∧ ifB x_11
  (∀ g34 : G, NewL g33 g34 3 [(.int .i64 (7 : Int)), (.int .i64 (6 : Int))] →
  (CallsP Tryd.prog 92 #[(.agg ⟨[(.int .i64 t0), (.int .i64 t1), (.string t2), (.slice t3a t3l t3c), (.slice t4a t4l t4c)]⟩), (.slice (some ⟨g33.w.heap.size, 0, none⟩) 2 2)] g34 fun v g35 =>
  ∃ x_12 : Bool, v = (.bool x_12) ∧ ∀ g36 : G, Ex g35 g36 →
  R (.bool x_12) g36))
  (∀ g37 : G, Ex g33 g37 →
  R (.bool false) g37)))
  (ifB (eqI t0 (87 : Int))
  ((CallsP Tryd.prog 88 #[(.agg ⟨[(.int .i64 t0), (.int .i64 t1), (.string t2), (.slice t3a t3l t3c), (.slice t4a t4l t4c)]⟩), (.bool false), (.bool false), (.bool false)] g32 fun v g38 =>
  ∃ x_13 : Bool, v = (.bool x_13) ∧ ifB x_13
  (ifB (leI (1 : Int) ((t4l : Nat) : Int))
  (InI64 (((t4l : Nat) : Int) - (1 : Int)) ∧ (CallsP Tryd.prog 91 #[(.agg ⟨[(.int .i64 t0), (.int .i64 t1), (.string t2), (.slice t3a t3l t3c), (.slice t4a t4l t4c)]⟩), (.int .i64 (0 : Int)), (.int .i64 (((t4l : Nat) : Int) - (1 : Int))), (.int .i64 (4 : Int))] g38 fun v g39 =>
  ∃ x_14 : Bool, v = (.bool x_14) ∧ ifB x_14
  (InI64 (((t4l : Nat) : Int) - (1 : Int)) ∧ (CallsP Tryd.prog 91 #[(.agg ⟨[(.int .i64 t0), (.int .i64 t1), (.string t2), (.slice t3a t3l t3c), (.slice t4a t4l t4c)]⟩), (.int .i64 (((t4l : Nat) : Int) - (1 : Int))), (.int .i64 ((t4l : Nat) : Int)), (.int .i64 (7 : Int))] g39 fun v g40 =>
  ∃ x_15 : Bool, v = (.bool x_15) ∧ ∀ g41 : G, Ex g40 g41 →
  R (.bool x_15) g41))
  (∀ g42 : G, Ex g39 g42 →
  R (.bool false) g42)))
  (∀ g43 : G, Ex g38 g43 →
  R (.bool false) g43))
  (∀ g44 : G, Ex g38 g44 →
  R (.bool false) g44)))
  ((CallsP Tryd.prog 88 #[(.agg ⟨[(.int .i64 t0), (.int .i64 t1), (.string t2), (.slice t3a t3l t3c), (.slice t4a t4l t4c)]⟩), (.bool false), (.bool false), (.bool false)] g32 fun v g45 =>
  ∃ x_16 : Bool, v = (.bool x_16) ∧ ifB x_16
  (∀ g46 : G, NewL g45 g46 3 [(.int .i64 (3 : Int)), (.int .i64 (0 : Int))] →
  (CallsP Tryd.prog 92 #[(.agg ⟨[(.int .i64 t0), (.int .i64 t1), (.string t2), (.slice t3a t3l t3c), (.slice t4a t4l t4c)]⟩), (.slice (some ⟨g45.w.heap.size, 0, none⟩) 2 2)] g46 fun v g47 =>
  ∃ x_17 : Bool, v = (.bool x_17) ∧ ∀ g48 : G, Ex g47 g48 →
  R (.bool x_17) g48))
  (∀ g49 : G, Ex g45 g49 →
  R (.bool false) g49))))) → J v_1 g32) →
  ifB (eqI t0 (85 : Int))
  (∀ g50 : G, Ex g g50 →
  J true g50)
  (∀ g51 : G, Ex g g51 →
  J (eqI t0 (86 : Int)) g51)))))
theorem F82_eq (t0 : Int) (t1 : Int) (t2 : ByteArray) (t3a : Option Addr) (t3l : Nat) (t3c : Nat) (t4a : Option Addr) (t4l : Nat) (t4c : Nat) (g : G) (R : Value → G → Prop) : fnG cfg82 110 [.tmp 2] c82 an82 [(.agg ⟨[(.int .i64 t0), (.int .i64 t1), (.string t2), (.slice t3a t3l t3c), (.slice t4a t4l t4c)]⟩)] g nobody R = F82 t0 t1 t2 t3a t3l t3c t4a t4l t4c g R := by kernel_rfl
theorem call82 (t0 : Int) (t1 : Int) (t2 : ByteArray) (t3a : Option Addr) (t3l : Nat) (t3c : Nat) (t4a : Option Addr) (t4l : Nat) (t4c : Nat) (g : G) (R : Value → G → Prop) (hF : F82 t0 t1 t2 t3a t3l t3c t4a t4l t4c g R) : CallsG Tryd.prog 82 #[(.agg ⟨[(.int .i64 t0), (.int .i64 t1), (.string t2), (.slice t3a t3l t3c), (.slice t4a t4l t4c)]⟩)] g nobody R :=
  fn_soundG (c := cfg82) TTok FNSok mixed Tryd.func82 (show Tryd.f82.body = some c82 by kernel_rfl) (show Tryd.f82.ntmps = 110 by kernel_rfl) (show Tryd.f82.results.toList = [.tmp 2] by kernel_rfl) rfl ((F82_eq t0 t1 t2 t3a t3l t3c t4a t4l t4c g R).mpr hF)

/- 83 internal/stringslite.CutPrefix -/
noncomputable def c83 : Code := match Tryd.f83.body with
  | some c => c
  | none => .skip
noncomputable def cfg83 : Cfg := ⟨Tryd.prog, TT, FNS, [], [], [], TCH, false, false⟩
def an83 : AnnG := (.seq .leaf (.seq (.seq .leaf (.cond (.seq .leaf .leaf) .leaf)) (.seq .leaf .leaf)))
def F83 (s : ByteArray) (prefix0 : ByteArray) (g : G) (R : Value → G → Prop) : Prop :=
  (CallsP Tryd.prog 97 #[(.string s), (.string prefix0)] g fun v g1 =>
  ∃ x : Bool, v = (.bool x) ∧ ifB (!x)
  (∀ g2 : G, Ex g1 g2 →
  R (.tuple ⟨[(.string s), (.bool false)]⟩) g2)
  ((0 ≤ ((prefix0.size : Nat) : Int) ∧ ((prefix0.size : Nat) : Int) ≤ ((s.size : Nat) : Int)) ∧ ∀ g3 : G, Ex g1 g3 →
  R (.tuple ⟨[(.string (ByteArray.extract s (Int.toNat ((prefix0.size : Nat) : Int)) s.size)), (.bool true)]⟩) g3))
theorem F83_eq (s : ByteArray) (prefix0 : ByteArray) (g : G) (R : Value → G → Prop) : fnG cfg83 15 [.tmp 4, .tmp 5] c83 an83 [(.string s), (.string prefix0)] g nobody R = F83 s prefix0 g R := by kernel_rfl
theorem call83 (s : ByteArray) (prefix0 : ByteArray) (g : G) (R : Value → G → Prop) (hF : F83 s prefix0 g R) : CallsG Tryd.prog 83 #[(.string s), (.string prefix0)] g nobody R :=
  fn_soundG (c := cfg83) TTok FNSok mixed Tryd.func83 (show Tryd.f83.body = some c83 by kernel_rfl) (show Tryd.f83.ntmps = 15 by kernel_rfl) (show Tryd.f83.results.toList = [.tmp 4, .tmp 5] by kernel_rfl) rfl ((F83_eq s prefix0 g R).mpr hF)

/- 84 pilaster/ident.of -/
noncomputable def c84 : Code := match Tryd.f84.body with
  | some c => c
  | none => .skip
noncomputable def cfg84 : Cfg := ⟨Tryd.prog, TT, FNS, [], [], [], TCH, false, false⟩
def an84 : AnnG := (.seq .leaf (.seq (.blk (.join ⟨[(3, .bool)], [], []⟩ .leaf (.cond (.seq .leaf .leaf) (.join ⟨[(10, .bool)], [], []⟩ .leaf (.cond (.seq .leaf .leaf) (.join ⟨[(17, .bool)], [], []⟩ .leaf (.cond (.seq .leaf .leaf) (.seq .leaf (.cond (.seq .leaf .leaf) (.seq .leaf (.cond (.seq .leaf .leaf) .leaf))))))))))) (.seq .leaf .leaf)))
def F84 (c : Int) (g : G) (R : Value → G → Prop) : Prop :=
  ∀ J : Bool → G → Prop,
  (∀ v_1 : Bool, ∀ g1 : G, (ifB v_1
  (∀ g2 : G, Ex g1 g2 →
  R (.int .i64 (1 : Int)) g2)
  (∀ J_1 : Bool → G → Prop,
  (∀ v_2 : Bool, ∀ g3 : G, (ifB v_2
  (∀ g4 : G, Ex g3 g4 →
  R (.int .i64 (2 : Int)) g4)
  (∀ J_2 : Bool → G → Prop,
  (∀ v_3 : Bool, ∀ g5 : G, (ifB v_3
  (∀ g6 : G, Ex g5 g6 →
  R (.int .i64 (3 : Int)) g6)
  (ifB (eqI c (95 : Int))
  (∀ g7 : G, Ex g5 g7 →
  R (.int .i64 (4 : Int)) g7)
  (ifB (eqI c (46 : Int))
  (∀ g8 : G, Ex g5 g8 →
  R (.int .i64 (5 : Int)) g8)
  (∀ g9 : G, Ex g5 g9 →
  R (.int .i64 (0 : Int)) g9)))) → J_2 v_3 g5) →
  ifB (leI (48 : Int) c)
  (J_2 (leI c (57 : Int)) g3)
  (J_2 false g3))) → J_1 v_2 g3) →
  ifB (leI (65 : Int) c)
  (J_1 (leI c (90 : Int)) g1)
  (J_1 false g1))) → J v_1 g1) →
  ifB (leI (97 : Int) c)
  (J (leI c (122 : Int)) g)
  (J false g)
theorem F84_eq (c : Int) (g : G) (R : Value → G → Prop) : fnG cfg84 30 [.tmp 2] c84 an84 [(.int .u8 c)] g nobody R = F84 c g R := by kernel_rfl
theorem call84 (c : Int) (g : G) (R : Value → G → Prop) (hF : F84 c g R) : CallsG Tryd.prog 84 #[(.int .u8 c)] g nobody R :=
  fn_soundG (c := cfg84) TTok FNSok mixed Tryd.func84 (show Tryd.f84.body = some c84 by kernel_rfl) (show Tryd.f84.ntmps = 30 by kernel_rfl) (show Tryd.f84.results.toList = [.tmp 2] by kernel_rfl) rfl ((F84_eq c g R).mpr hF)

/- 86 slices.Index[[]string,string] -/
noncomputable def c86 : Code := match Tryd.f86.body with
  | some c => c
  | none => .skip
noncomputable def cfg86 : Cfg := ⟨Tryd.prog, TT, FNS, [], [], [], TCH, false, false⟩
def an86 : AnnG := (.seq .leaf (.seq (.seq .leaf (.blk (.loop ⟨[(8, .int .i64)], [], []⟩ (.seq .leaf (.seq (.cond .leaf .leaf) (.seq (.blk (.seq .leaf (.seq .leaf (.cond (.seq .leaf .leaf) .leaf)))) .leaf)))))) (.seq .leaf .leaf)))
def F86 (sa : Option Addr) (sl : Nat) (sc : Nat) (v_1 : ByteArray) (g : G) (R : Value → G → Prop) : Prop :=
  ∃ Inv : Nat → Int → G → Prop, ((∃ m0 : Nat, Inv m0 (0 : Int) g)) ∧
  ∀ m : Nat, ∀ v_2 : Int, ∀ g1 : G, Le g g1 → Inv m v_2 g1 →
  ifB (ltI v_2 ((sl : Nat) : Int))
  ((0 ≤ v_2 ∧ v_2 < ((sl : Nat) : Int)) ∧ derefP sa fun ad => ∃ x : ByteArray, g1.w.cell? (Addr.add ad (Int.toNat v_2 * 1)) = some (.string x) ∧ ifB (strEq v_1 x)
  (∀ g2 : G, Ex g1 g2 →
  R (.int .i64 v_2) g2)
  (InI64 (v_2 + (1 : Int)) ∧ (∃ m_1 : Nat, m_1 < m ∧ Inv m_1 (v_2 + (1 : Int)) g1)))
  (∀ g3 : G, Ex g1 g3 →
  R (.int .i64 (-1 : Int)) g3)
theorem F86_eq (sa : Option Addr) (sl : Nat) (sc : Nat) (v_1 : ByteArray) (g : G) (R : Value → G → Prop) : fnG cfg86 19 [.tmp 4] c86 an86 [(.slice sa sl sc), (.string v_1)] g nobody R = F86 sa sl sc v_1 g R := by kernel_rfl
theorem call86 (sa : Option Addr) (sl : Nat) (sc : Nat) (v_1 : ByteArray) (g : G) (R : Value → G → Prop) (hF : F86 sa sl sc v_1 g R) : CallsG Tryd.prog 86 #[(.slice sa sl sc), (.string v_1)] g nobody R :=
  fn_soundG (c := cfg86) TTok FNSok mixed Tryd.func86 (show Tryd.f86.body = some c86 by kernel_rfl) (show Tryd.f86.ntmps = 19 by kernel_rfl) (show Tryd.f86.results.toList = [.tmp 4] by kernel_rfl) rfl ((F86_eq sa sl sc v_1 g R).mpr hF)

/- 87 slices.Index[[]int,int] -/
noncomputable def c87 : Code := match Tryd.f87.body with
  | some c => c
  | none => .skip
noncomputable def cfg87 : Cfg := ⟨Tryd.prog, TT, FNS, [], [], [], TCH, false, false⟩
def an87 : AnnG := (.seq .leaf (.seq (.seq .leaf (.blk (.loop ⟨[(8, .int .i64)], [], []⟩ (.seq .leaf (.seq (.cond .leaf .leaf) (.seq (.blk (.seq .leaf (.seq .leaf (.cond (.seq .leaf .leaf) .leaf)))) .leaf)))))) (.seq .leaf .leaf)))
def F87 (sa : Option Addr) (sl : Nat) (sc : Nat) (v_1 : Int) (g : G) (R : Value → G → Prop) : Prop :=
  ∃ Inv : Nat → Int → G → Prop, ((∃ m0 : Nat, Inv m0 (0 : Int) g)) ∧
  ∀ m : Nat, ∀ v_2 : Int, ∀ g1 : G, Le g g1 → Inv m v_2 g1 →
  ifB (ltI v_2 ((sl : Nat) : Int))
  ((0 ≤ v_2 ∧ v_2 < ((sl : Nat) : Int)) ∧ derefP sa fun ad => ∃ x : Int, g1.w.cell? (Addr.add ad (Int.toNat v_2 * 1)) = some (.int .i64 x) ∧ ifB (eqI v_1 x)
  (∀ g2 : G, Ex g1 g2 →
  R (.int .i64 v_2) g2)
  (InI64 (v_2 + (1 : Int)) ∧ (∃ m_1 : Nat, m_1 < m ∧ Inv m_1 (v_2 + (1 : Int)) g1)))
  (∀ g3 : G, Ex g1 g3 →
  R (.int .i64 (-1 : Int)) g3)
theorem F87_eq (sa : Option Addr) (sl : Nat) (sc : Nat) (v_1 : Int) (g : G) (R : Value → G → Prop) : fnG cfg87 19 [.tmp 4] c87 an87 [(.slice sa sl sc), (.int .i64 v_1)] g nobody R = F87 sa sl sc v_1 g R := by kernel_rfl
theorem call87 (sa : Option Addr) (sl : Nat) (sc : Nat) (v_1 : Int) (g : G) (R : Value → G → Prop) (hF : F87 sa sl sc v_1 g R) : CallsG Tryd.prog 87 #[(.slice sa sl sc), (.int .i64 v_1)] g nobody R :=
  fn_soundG (c := cfg87) TTok FNSok mixed Tryd.func87 (show Tryd.f87.body = some c87 by kernel_rfl) (show Tryd.f87.ntmps = 19 by kernel_rfl) (show Tryd.f87.results.toList = [.tmp 4] by kernel_rfl) rfl ((F87_eq sa sl sc v_1 g R).mpr hF)

/- 88 pilaster/pilasterref03.bare -/
noncomputable def c88 : Code := match Tryd.f88.body with
  | some c => c
  | none => .skip
noncomputable def cfg88 : Cfg := ⟨Tryd.prog, TT, FNS, [4], [(4, 4), (11, 4), (18, 4), (26, 4)], [], TCH, false, false⟩
def an88 : AnnG := (.seq .leaf (.seq .leaf .leaf))
def F88 (t0 : Int) (t1 : Int) (t2 : ByteArray) (t3a : Option Addr) (t3l : Nat) (t3c : Nat) (t4a : Option Addr) (t4l : Nat) (t4c : Nat) (n : Bool) (s : Bool) (names : Bool) (g : G) (R : Value → G → Prop) : Prop :=
  ifB n
  (ifB s
  (ifB names
  (∀ g1 : G, Ex g g1 →
  R (.bool true) g1)
  (∀ g2 : G, Ex g g2 →
  R (.bool (eqI ((t3l : Nat) : Int) (0 : Int))) g2))
  (ifB (strEq t2 (bs []))
  (ifB names
  (∀ g3 : G, Ex g g3 →
  R (.bool true) g3)
  (∀ g4 : G, Ex g g4 →
  R (.bool (eqI ((t3l : Nat) : Int) (0 : Int))) g4))
  (∀ g5 : G, Ex g g5 →
  R (.bool false) g5)))
  (ifB (eqI t1 (0 : Int))
  (ifB s
  (ifB names
  (∀ g6 : G, Ex g g6 →
  R (.bool true) g6)
  (∀ g7 : G, Ex g g7 →
  R (.bool (eqI ((t3l : Nat) : Int) (0 : Int))) g7))
  (ifB (strEq t2 (bs []))
  (ifB names
  (∀ g8 : G, Ex g g8 →
  R (.bool true) g8)
  (∀ g9 : G, Ex g g9 →
  R (.bool (eqI ((t3l : Nat) : Int) (0 : Int))) g9))
  (∀ g10 : G, Ex g g10 →
  R (.bool false) g10)))
  (∀ g11 : G, Ex g g11 →
  R (.bool false) g11))
theorem F88_eq (t0 : Int) (t1 : Int) (t2 : ByteArray) (t3a : Option Addr) (t3l : Nat) (t3c : Nat) (t4a : Option Addr) (t4l : Nat) (t4c : Nat) (n : Bool) (s : Bool) (names : Bool) (g : G) (R : Value → G → Prop) : fnG cfg88 32 [.tmp 8] c88 an88 [(.agg ⟨[(.int .i64 t0), (.int .i64 t1), (.string t2), (.slice t3a t3l t3c), (.slice t4a t4l t4c)]⟩), (.bool n), (.bool s), (.bool names)] g nobody R = F88 t0 t1 t2 t3a t3l t3c t4a t4l t4c n s names g R := by kernel_rfl
theorem call88 (t0 : Int) (t1 : Int) (t2 : ByteArray) (t3a : Option Addr) (t3l : Nat) (t3c : Nat) (t4a : Option Addr) (t4l : Nat) (t4c : Nat) (n : Bool) (s : Bool) (names : Bool) (g : G) (R : Value → G → Prop) (hF : F88 t0 t1 t2 t3a t3l t3c t4a t4l t4c n s names g R) : CallsG Tryd.prog 88 #[(.agg ⟨[(.int .i64 t0), (.int .i64 t1), (.string t2), (.slice t3a t3l t3c), (.slice t4a t4l t4c)]⟩), (.bool n), (.bool s), (.bool names)] g nobody R :=
  fn_soundG (c := cfg88) TTok FNSok mixed Tryd.func88 (show Tryd.f88.body = some c88 by kernel_rfl) (show Tryd.f88.ntmps = 32 by kernel_rfl) (show Tryd.f88.results.toList = [.tmp 8] by kernel_rfl) rfl ((F88_eq t0 t1 t2 t3a t3l t3c t4a t4l t4c n s names g R).mpr hF)

/- 89 pilaster/pilasterref03.Variable -/
noncomputable def c89 : Code := match Tryd.f89.body with
  | some c => c
  | none => .skip
noncomputable def cfg89 : Cfg := ⟨Tryd.prog, TT, FNS, [], [], [], TCH, false, false⟩
def an89 : AnnG := (.seq .leaf (.seq .leaf .leaf))
def F89 (s : ByteArray) (g : G) (R : Value → G → Prop) : Prop :=
  (CallsP Tryd.prog 100 #[(.string s)] g fun v g1 =>
  ∃ x : Bool, v = (.bool x) ∧ ∀ g2 : G, Ex g1 g2 →
  R (.bool x) g2)
theorem F89_eq (s : ByteArray) (g : G) (R : Value → G → Prop) : fnG cfg89 5 [.tmp 2] c89 an89 [(.string s)] g nobody R = F89 s g R := by kernel_rfl
theorem call89 (s : ByteArray) (g : G) (R : Value → G → Prop) (hF : F89 s g R) : CallsG Tryd.prog 89 #[(.string s)] g nobody R :=
  fn_soundG (c := cfg89) TTok FNSok mixed Tryd.func89 (show Tryd.f89.body = some c89 by kernel_rfl) (show Tryd.f89.ntmps = 5 by kernel_rfl) (show Tryd.f89.results.toList = [.tmp 2] by kernel_rfl) rfl ((F89_eq s g R).mpr hF)

/- 90 pilaster/pilasterref03.path -/
noncomputable def c90 : Code := match Tryd.f90.body with
  | some c => c
  | none => .skip
noncomputable def cfg90 : Cfg := ⟨Tryd.prog, TT, FNS, [], [], [], TCH, false, false⟩
def an90 : AnnG := (.seq .leaf (.join ⟨[], [], []⟩ (.seq .leaf (.cond (.seq .leaf .leaf) .leaf)) (.seq (.seq .leaf (.blk (.loop ⟨[(5, .int .i64)], [], []⟩ (.seq (.seq .leaf (.cond .leaf .leaf)) (.seq (.blk (.join ⟨[(27, .bool)], [], []⟩ .leaf (.cond (.seq .leaf (.cond (.seq .leaf .leaf) .leaf)) (.seq .leaf (.cond (.seq .leaf .leaf) .leaf))))) .leaf))))) (.seq .leaf .leaf))))
def F90 (la : Option Addr) (ll : Nat) (lc : Nat) (low : Bool) (g : G) (R : Value → G → Prop) : Prop :=
  ∀ J : G → Prop,
  (∀ g1 : G, (∃ Inv : Nat → Int → G → Prop, ((∃ m0 : Nat, Inv m0 (0 : Int) g1)) ∧
  ∀ m : Nat, ∀ i : Int, ∀ g2 : G, Le g1 g2 → Inv m i g2 →
  ifB (ltI i ((ll : Nat) : Int))
  (∀ J_1 : Bool → G → Prop,
  (∀ v_1 : Bool, ∀ g3 : G, (ifB v_1
  ((0 ≤ i ∧ i < ((ll : Nat) : Int)) ∧ derefP la fun ad => ∃ x : ByteArray, g3.w.cell? (Addr.add ad (Int.toNat i * 1)) = some (.string x) ∧ (CallsP Tryd.prog 93 #[(.string x)] g3 fun v g4 =>
  ∃ x_1 : Bool, v = (.bool x_1) ∧ ifB (!x_1)
  (∀ g5 : G, Ex g4 g5 →
  R (.bool false) g5)
  (InI64 (i + (1 : Int)) ∧ (∃ m_1 : Nat, m_1 < m ∧ Inv m_1 (i + (1 : Int)) g4))))
  ((0 ≤ i ∧ i < ((ll : Nat) : Int)) ∧ derefP la fun ad_1 => ∃ x_2 : ByteArray, g3.w.cell? (Addr.add ad_1 (Int.toNat i * 1)) = some (.string x_2) ∧ (CallsP Tryd.prog 96 #[(.string x_2)] g3 fun v g6 =>
  ∃ x_3 : Bool, v = (.bool x_3) ∧ ifB (!x_3)
  (∀ g7 : G, Ex g6 g7 →
  R (.bool false) g7)
  (InI64 (i + (1 : Int)) ∧ (∃ m_1 : Nat, m_1 < m ∧ Inv m_1 (i + (1 : Int)) g6))))) → J_1 v_1 g3) →
  ifB low
  (InI64 (((ll : Nat) : Int) - (1 : Int)) ∧ J_1 (eqI i (((ll : Nat) : Int) - (1 : Int))) g2)
  (J_1 false g2))
  (∀ g8 : G, Ex g2 g8 →
  R (.bool true) g8)) → J g1) →
  ifB (ltI ((ll : Nat) : Int) (1 : Int))
  (∀ g9 : G, Ex g g9 →
  R (.bool false) g9)
  (ifB (ltI (8 : Int) ((ll : Nat) : Int))
  (∀ g10 : G, Ex g g10 →
  R (.bool false) g10)
  (J g))
theorem F90_eq (la : Option Addr) (ll : Nat) (lc : Nat) (low : Bool) (g : G) (R : Value → G → Prop) : fnG cfg90 40 [.tmp 4] c90 an90 [(.slice la ll lc), (.bool low)] g nobody R = F90 la ll lc low g R := by kernel_rfl
theorem call90 (la : Option Addr) (ll : Nat) (lc : Nat) (low : Bool) (g : G) (R : Value → G → Prop) (hF : F90 la ll lc low g R) : CallsG Tryd.prog 90 #[(.slice la ll lc), (.bool low)] g nobody R :=
  fn_soundG (c := cfg90) TTok FNSok mixed Tryd.func90 (show Tryd.f90.body = some c90 by kernel_rfl) (show Tryd.f90.ntmps = 40 by kernel_rfl) (show Tryd.f90.results.toList = [.tmp 4] by kernel_rfl) rfl ((F90_eq la ll lc low g R).mpr hF)

/- 91 pilaster/pilasterref03.all -/
noncomputable def c91 : Code := match Tryd.f91.body with
  | some c => c
  | none => .skip
noncomputable def cfg91 : Cfg := ⟨Tryd.prog, TT, FNS, [4], [(4, 4), (16, 4)], [], TCH, false, false⟩
def an91 : AnnG := (.seq .leaf (.seq (.seq .leaf (.blk (.loop ⟨[(9, .int .i64)], [], []⟩ (.seq (.seq .leaf (.cond .leaf .leaf)) (.seq (.blk (.seq .leaf (.cond (.seq .leaf .leaf) .leaf))) .leaf))))) (.seq .leaf .leaf)))
def F91 (t0 : Int) (t1 : Int) (t2 : ByteArray) (t3a : Option Addr) (t3l : Nat) (t3c : Nat) (t4a : Option Addr) (t4l : Nat) (t4c : Nat) (from0 : Int) (to : Int) (cat : Int) (g : G) (R : Value → G → Prop) : Prop :=
  ∃ Inv : Nat → Int → G → Prop, (∀ g1 : G, Ex g g1 →
  (∃ m0 : Nat, Inv m0 from0 g1)) ∧
  ∀ m : Nat, ∀ i : Int, ∀ g2 : G, Le g g2 → Inv m i g2 →
  ifB (ltI i to)
  ((0 ≤ i ∧ i < ((t4l : Nat) : Int)) ∧ derefP t4a fun ad => ∃ x : Int, g2.w.cell? (Addr.add ad (Int.toNat i * 5)) = some (.int .i64 x) ∧ (CallsP Tryd.prog 33 #[(.int .i64 x), (.int .i64 cat)] g2 fun v g3 =>
  ∃ x_1 : Bool, v = (.bool x_1) ∧ ifB (!x_1)
  (∀ g4 : G, Ex g3 g4 →
  R (.bool false) g4)
  (InI64 (i + (1 : Int)) ∧ (∃ m_1 : Nat, m_1 < m ∧ Inv m_1 (i + (1 : Int)) g3))))
  (∀ g5 : G, Ex g2 g5 →
  R (.bool true) g5)
theorem F91_eq (t0 : Int) (t1 : Int) (t2 : ByteArray) (t3a : Option Addr) (t3l : Nat) (t3c : Nat) (t4a : Option Addr) (t4l : Nat) (t4c : Nat) (from0 : Int) (to : Int) (cat : Int) (g : G) (R : Value → G → Prop) : fnG cfg91 25 [.tmp 8] c91 an91 [(.agg ⟨[(.int .i64 t0), (.int .i64 t1), (.string t2), (.slice t3a t3l t3c), (.slice t4a t4l t4c)]⟩), (.int .i64 from0), (.int .i64 to), (.int .i64 cat)] g nobody R = F91 t0 t1 t2 t3a t3l t3c t4a t4l t4c from0 to cat g R := by kernel_rfl
theorem call91 (t0 : Int) (t1 : Int) (t2 : ByteArray) (t3a : Option Addr) (t3l : Nat) (t3c : Nat) (t4a : Option Addr) (t4l : Nat) (t4c : Nat) (from0 : Int) (to : Int) (cat : Int) (g : G) (R : Value → G → Prop) (hF : F91 t0 t1 t2 t3a t3l t3c t4a t4l t4c from0 to cat g R) : CallsG Tryd.prog 91 #[(.agg ⟨[(.int .i64 t0), (.int .i64 t1), (.string t2), (.slice t3a t3l t3c), (.slice t4a t4l t4c)]⟩), (.int .i64 from0), (.int .i64 to), (.int .i64 cat)] g nobody R :=
  fn_soundG (c := cfg91) TTok FNSok mixed Tryd.func91 (show Tryd.f91.body = some c91 by kernel_rfl) (show Tryd.f91.ntmps = 25 by kernel_rfl) (show Tryd.f91.results.toList = [.tmp 8] by kernel_rfl) rfl ((F91_eq t0 t1 t2 t3a t3l t3c t4a t4l t4c from0 to cat g R).mpr hF)

/- 92 pilaster/pilasterref03.exact -/
noncomputable def c92 : Code := match Tryd.f92.body with
  | some c => c
  | none => .skip
noncomputable def cfg92 : Cfg := ⟨Tryd.prog, TT, FNS, [2], [(2, 2), (6, 2), (24, 2), (39, 2)], [], TCH, false, false⟩
def an92 : AnnG := (.seq .leaf (.seq (.seq .leaf (.cond (.seq .leaf .leaf) .leaf)) (.seq (.seq .leaf (.blk (.loop ⟨[(5, .int .i64)], [], []⟩ (.seq (.seq .leaf (.cond .leaf .leaf)) (.join ⟨[], [], []⟩ (.blk (.seq (.tree 31 (.quiet 0 (.quiet 1 (.quiet 2 (.quiet 3 (.quiet 4 (.quiet 5 (.quiet 6 (.quiet 7 (.quiet 8 (.quiet 9 (.quiet 10 (.quiet 11 (.quiet 12 (.quiet 13 (.quiet 14 (.quiet 15 (.quiet 16 (.quiet 17 (.quiet 18 (.quiet 19 (.quiet 20 (.quiet 21 (.quiet 22 (.quiet 23 (.quiet 24 (.quiet 25 (.quiet 26 (.quiet 27 (.quiet 28 (.quiet 29 (.quiet 30 .fin)))))))))))))))))))))))))))))))) (.cond (.seq .leaf .leaf) .leaf))) .leaf))))) (.seq .leaf .leaf))))
def F92 (t0 : Int) (t1 : Int) (t2 : ByteArray) (t3a : Option Addr) (t3l : Nat) (t3c : Nat) (t4a : Option Addr) (t4l : Nat) (t4c : Nat) (catsa : Option Addr) (catsl : Nat) (catsc : Nat) (g : G) (R : Value → G → Prop) : Prop :=
  ifB (!eqI ((t4l : Nat) : Int) ((catsl : Nat) : Int))
  (∀ g1 : G, Ex g g1 →
  R (.bool false) g1)
  (∃ Inv : Nat → Int → G → Prop, (∀ g2 : G, Ex g g2 →
  (∃ m0 : Nat, Inv m0 (0 : Int) g2)) ∧
  ∀ m : Nat, ∀ i : Int, ∀ g3 : G, Le g g3 → Inv m i g3 →
  ifB (ltI i ((catsl : Nat) : Int))
  (∀ J : G → Prop,
  (∀ g4 : G, (InI64 (i + (1 : Int)) ∧ (∃ m_1 : Nat, m_1 < m ∧ Inv m_1 (i + (1 : Int)) g4)) → J g4) →
  ∀ g5 : G, Ex g3 g5 →
  (0 ≤ i ∧ i < ((catsl : Nat) : Int)) ∧ derefP catsa fun ad => ∃ x : Int, g5.w.cell? (Addr.add ad (Int.toNat i * 1)) = some (.int .i64 x) ∧ ifB (eqI x (0 : Int))
  ((0 ≤ i ∧ i < ((t4l : Nat) : Int)) ∧ derefP t4a fun ad_1 => ∃ x_1 : Int, g5.w.cell? (Addr.add ad_1 (Int.toNat i * 5)) = some (.int .i64 x_1) ∧ ifB (!eqI x_1 (72 : Int))
  (∀ g6 : G, Ex g5 g6 →
  R (.bool false) g6)
  ((0 ≤ i ∧ i < ((catsl : Nat) : Int)) ∧ derefP catsa fun ad_2 => ∃ x_2 : Int, g5.w.cell? (Addr.add ad_2 (Int.toNat i * 1)) = some (.int .i64 x_2) ∧ ifB (!eqI x_2 (0 : Int))
  ((0 ≤ i ∧ i < ((t4l : Nat) : Int)) ∧ derefP t4a fun ad_3 => ∃ x_3 : Int, g5.w.cell? (Addr.add ad_3 (Int.toNat i * 5)) = some (.int .i64 x_3) ∧ (0 ≤ i ∧ i < ((catsl : Nat) : Int)) ∧ derefP catsa fun ad_4 => ∃ x_4 : Int, g5.w.cell? (Addr.add ad_4 (Int.toNat i * 1)) = some (.int .i64 x_4) ∧ (CallsP Tryd.prog 33 #[(.int .i64 x_3), (.int .i64 x_4)] g5 fun v g7 =>
  ∃ x_5 : Bool, v = (.bool x_5) ∧ ifB (!x_5)
  (∀ g8 : G, Ex g7 g8 →
  R (.bool false) g8)
  (J g7)))
  (J g5)))
  ((0 ≤ i ∧ i < ((catsl : Nat) : Int)) ∧ derefP catsa fun ad_5 => ∃ x_6 : Int, g5.w.cell? (Addr.add ad_5 (Int.toNat i * 1)) = some (.int .i64 x_6) ∧ ifB (!eqI x_6 (0 : Int))
  ((0 ≤ i ∧ i < ((t4l : Nat) : Int)) ∧ derefP t4a fun ad_6 => ∃ x_7 : Int, g5.w.cell? (Addr.add ad_6 (Int.toNat i * 5)) = some (.int .i64 x_7) ∧ (0 ≤ i ∧ i < ((catsl : Nat) : Int)) ∧ derefP catsa fun ad_7 => ∃ x_8 : Int, g5.w.cell? (Addr.add ad_7 (Int.toNat i * 1)) = some (.int .i64 x_8) ∧ (CallsP Tryd.prog 33 #[(.int .i64 x_7), (.int .i64 x_8)] g5 fun v g9 =>
  ∃ x_9 : Bool, v = (.bool x_9) ∧ ifB (!x_9)
  (∀ g10 : G, Ex g9 g10 →
  R (.bool false) g10)
  (J g9)))
  (J g5)))
  (∀ g11 : G, Ex g3 g11 →
  R (.bool true) g11))
theorem F92_eq (t0 : Int) (t1 : Int) (t2 : ByteArray) (t3a : Option Addr) (t3l : Nat) (t3c : Nat) (t4a : Option Addr) (t4l : Nat) (t4c : Nat) (catsa : Option Addr) (catsl : Nat) (catsc : Nat) (g : G) (R : Value → G → Prop) : fnG cfg92 53 [.tmp 4] c92 an92 [(.agg ⟨[(.int .i64 t0), (.int .i64 t1), (.string t2), (.slice t3a t3l t3c), (.slice t4a t4l t4c)]⟩), (.slice catsa catsl catsc)] g nobody R = F92 t0 t1 t2 t3a t3l t3c t4a t4l t4c catsa catsl catsc g R := by kernel_rfl
theorem call92 (t0 : Int) (t1 : Int) (t2 : ByteArray) (t3a : Option Addr) (t3l : Nat) (t3c : Nat) (t4a : Option Addr) (t4l : Nat) (t4c : Nat) (catsa : Option Addr) (catsl : Nat) (catsc : Nat) (g : G) (R : Value → G → Prop) (hF : F92 t0 t1 t2 t3a t3l t3c t4a t4l t4c catsa catsl catsc g R) : CallsG Tryd.prog 92 #[(.agg ⟨[(.int .i64 t0), (.int .i64 t1), (.string t2), (.slice t3a t3l t3c), (.slice t4a t4l t4c)]⟩), (.slice catsa catsl catsc)] g nobody R :=
  fn_soundG (c := cfg92) TTok FNSok mixed Tryd.func92 (show Tryd.f92.body = some c92 by kernel_rfl) (show Tryd.f92.ntmps = 53 by kernel_rfl) (show Tryd.f92.results.toList = [.tmp 4] by kernel_rfl) rfl ((F92_eq t0 t1 t2 t3a t3l t3c t4a t4l t4c catsa catsl catsc g R).mpr hF)

/- 93 pilaster/pilasterref03.Lower -/
noncomputable def c93 : Code := match Tryd.f93.body with
  | some c => c
  | none => .skip
noncomputable def cfg93 : Cfg := ⟨Tryd.prog, TT, FNS, [], [], [], TCH, false, false⟩
def an93 : AnnG := (.seq .leaf (.seq .leaf .leaf))
def F93 (s : ByteArray) (g : G) (R : Value → G → Prop) : Prop :=
  (CallsP Tryd.prog 101 #[(.string s)] g fun v g1 =>
  ∃ x : Bool, v = (.bool x) ∧ ∀ g2 : G, Ex g1 g2 →
  R (.bool x) g2)
theorem F93_eq (s : ByteArray) (g : G) (R : Value → G → Prop) : fnG cfg93 5 [.tmp 2] c93 an93 [(.string s)] g nobody R = F93 s g R := by kernel_rfl
theorem call93 (s : ByteArray) (g : G) (R : Value → G → Prop) (hF : F93 s g R) : CallsG Tryd.prog 93 #[(.string s)] g nobody R :=
  fn_soundG (c := cfg93) TTok FNSok mixed Tryd.func93 (show Tryd.f93.body = some c93 by kernel_rfl) (show Tryd.f93.ntmps = 5 by kernel_rfl) (show Tryd.f93.results.toList = [.tmp 2] by kernel_rfl) rfl ((F93_eq s g R).mpr hF)

/- 94 pilaster/pilasterref03.text -/
noncomputable def c94 : Code := match Tryd.f94.body with
  | some c => c
  | none => .skip
noncomputable def cfg94 : Cfg := ⟨Tryd.prog, TT, FNS, [], [], [], TCH, false, false⟩
def an94 : AnnG := (.seq .leaf (.seq (.seq .leaf (.blk (.loop ⟨[(3, .int .i64)], [], []⟩ (.seq (.seq .leaf (.cond .leaf .leaf)) (.seq (.blk (.seq .leaf (.cond (.seq .leaf .leaf) .leaf))) .leaf))))) (.seq .leaf .leaf)))
def F94 (s : ByteArray) (g : G) (R : Value → G → Prop) : Prop :=
  ∃ Inv : Nat → Int → G → Prop, ((∃ m0 : Nat, Inv m0 (0 : Int) g)) ∧
  ∀ m : Nat, ∀ i : Int, ∀ g1 : G, Le g g1 → Inv m i g1 →
  ifB (ltI i ((s.size : Nat) : Int))
  (∃ b : UInt8, (0 ≤ i ∧ s[Int.toNat i]? = some b) ∧ ifB (!eqI ((b.toNat : Nat) : Int) (10 : Int))
  (∃ b_1 : UInt8, (0 ≤ i ∧ s[Int.toNat i]? = some b_1) ∧ ifB (ltI ((b_1.toNat : Nat) : Int) (32 : Int))
  (∀ g2 : G, Ex g1 g2 →
  R (.bool false) g2)
  (∃ b_2 : UInt8, (0 ≤ i ∧ s[Int.toNat i]? = some b_2) ∧ ifB (ltI (126 : Int) ((b_2.toNat : Nat) : Int))
  (∀ g3 : G, Ex g1 g3 →
  R (.bool false) g3)
  (InI64 (i + (1 : Int)) ∧ (∃ m_1 : Nat, m_1 < m ∧ Inv m_1 (i + (1 : Int)) g1))))
  (InI64 (i + (1 : Int)) ∧ (∃ m_1 : Nat, m_1 < m ∧ Inv m_1 (i + (1 : Int)) g1)))
  (∀ g4 : G, Ex g1 g4 →
  R (.bool (leI ((s.size : Nat) : Int) (16384 : Int))) g4)
theorem F94_eq (s : ByteArray) (g : G) (R : Value → G → Prop) : fnG cfg94 29 [.tmp 2] c94 an94 [(.string s)] g nobody R = F94 s g R := by kernel_rfl
theorem call94 (s : ByteArray) (g : G) (R : Value → G → Prop) (hF : F94 s g R) : CallsG Tryd.prog 94 #[(.string s)] g nobody R :=
  fn_soundG (c := cfg94) TTok FNSok mixed Tryd.func94 (show Tryd.f94.body = some c94 by kernel_rfl) (show Tryd.f94.ntmps = 29 by kernel_rfl) (show Tryd.f94.results.toList = [.tmp 2] by kernel_rfl) rfl ((F94_eq s g R).mpr hF)

/- 95 pilaster/pilasterref03.params -/
noncomputable def c95 : Code := match Tryd.f95.body with
  | some c => c
  | none => .skip
noncomputable def cfg95 : Cfg := ⟨Tryd.prog, TT, FNS, [], [], [], TCH, false, false⟩
def an95 : AnnG := (.seq .leaf (.seq (.seq .leaf (.blk (.loop ⟨[(3, .int .i64)], [], []⟩ (.seq (.seq .leaf (.cond .leaf .leaf)) (.seq (.blk (.seq (.seq .leaf (.cond (.seq .leaf .leaf) .leaf)) (.seq .leaf (.blk (.loop ⟨[(4, .int .i64)], [], []⟩ (.seq (.seq .leaf (.cond .leaf .leaf)) (.seq (.blk (.seq (.tree 8 (.quiet 0 (.quiet 1 (.quiet 2 (.quiet 3 (.quiet 4 (.quiet 5 (.quiet 6 (.quiet 7 .fin))))))))) (.cond (.seq .leaf .leaf) .leaf))) .leaf))))))) .leaf))))) (.seq .leaf .leaf)))
def F95 (la : Option Addr) (ll : Nat) (lc : Nat) (g : G) (R : Value → G → Prop) : Prop :=
  ∃ Inv : Nat → Int → G → Prop, ((∃ m0 : Nat, Inv m0 (0 : Int) g)) ∧
  ∀ m : Nat, ∀ i : Int, ∀ g1 : G, Le g g1 → Inv m i g1 →
  ifB (ltI i ((ll : Nat) : Int))
  ((0 ≤ i ∧ i < ((ll : Nat) : Int)) ∧ derefP la fun ad => ∃ x : ByteArray, g1.w.cell? (Addr.add ad (Int.toNat i * 1)) = some (.string x) ∧ (CallsP Tryd.prog 89 #[(.string x)] g1 fun v g2 =>
  ∃ x_1 : Bool, v = (.bool x_1) ∧ ifB (!x_1)
  (∀ g3 : G, Ex g2 g3 →
  R (.bool false) g3)
  (∃ Inv_1 : Nat → Int → G → Prop, ((∃ m0 : Nat, Inv_1 m0 (0 : Int) g2)) ∧
  ∀ m_2 : Nat, ∀ j : Int, ∀ g4 : G, Le g2 g4 → Inv_1 m_2 j g4 →
  ifB (ltI j i)
  (∀ g5 : G, Ex g4 g5 →
  (0 ≤ i ∧ i < ((ll : Nat) : Int)) ∧ derefP la fun ad_1 => ∃ x_2 : ByteArray, g5.w.cell? (Addr.add ad_1 (Int.toNat i * 1)) = some (.string x_2) ∧ (0 ≤ j ∧ j < ((ll : Nat) : Int)) ∧ derefP la fun ad_2 => ∃ x_3 : ByteArray, g5.w.cell? (Addr.add ad_2 (Int.toNat j * 1)) = some (.string x_3) ∧ ifB (strEq x_2 x_3)
  (∀ g6 : G, Ex g5 g6 →
  R (.bool false) g6)
  (InI64 (j + (1 : Int)) ∧ (∃ m_3 : Nat, m_3 < m_2 ∧ Inv_1 m_3 (j + (1 : Int)) g5)))
  (InI64 (i + (1 : Int)) ∧ (∃ m_1 : Nat, m_1 < m ∧ Inv m_1 (i + (1 : Int)) g4)))))
  (∀ g7 : G, Ex g1 g7 →
  R (.bool (leI ((ll : Nat) : Int) (4 : Int))) g7)
theorem F95_eq (la : Option Addr) (ll : Nat) (lc : Nat) (g : G) (R : Value → G → Prop) : fnG cfg95 34 [.tmp 2] c95 an95 [(.slice la ll lc)] g nobody R = F95 la ll lc g R := by kernel_rfl
theorem call95 (la : Option Addr) (ll : Nat) (lc : Nat) (g : G) (R : Value → G → Prop) (hF : F95 la ll lc g R) : CallsG Tryd.prog 95 #[(.slice la ll lc)] g nobody R :=
  fn_soundG (c := cfg95) TTok FNSok mixed Tryd.func95 (show Tryd.f95.body = some c95 by kernel_rfl) (show Tryd.f95.ntmps = 34 by kernel_rfl) (show Tryd.f95.results.toList = [.tmp 2] by kernel_rfl) rfl ((F95_eq la ll lc g R).mpr hF)

/- 96 pilaster/pilasterref03.Upper -/
noncomputable def c96 : Code := match Tryd.f96.body with
  | some c => c
  | none => .skip
noncomputable def cfg96 : Cfg := ⟨Tryd.prog, TT, FNS, [], [], [], TCH, false, false⟩
def an96 : AnnG := (.seq .leaf (.seq .leaf .leaf))
def F96 (s : ByteArray) (g : G) (R : Value → G → Prop) : Prop :=
  (CallsP Tryd.prog 102 #[(.string s)] g fun v g1 =>
  ∃ x : Bool, v = (.bool x) ∧ ∀ g2 : G, Ex g1 g2 →
  R (.bool x) g2)
theorem F96_eq (s : ByteArray) (g : G) (R : Value → G → Prop) : fnG cfg96 5 [.tmp 2] c96 an96 [(.string s)] g nobody R = F96 s g R := by kernel_rfl
theorem call96 (s : ByteArray) (g : G) (R : Value → G → Prop) (hF : F96 s g R) : CallsG Tryd.prog 96 #[(.string s)] g nobody R :=
  fn_soundG (c := cfg96) TTok FNSok mixed Tryd.func96 (show Tryd.f96.body = some c96 by kernel_rfl) (show Tryd.f96.ntmps = 5 by kernel_rfl) (show Tryd.f96.results.toList = [.tmp 2] by kernel_rfl) rfl ((F96_eq s g R).mpr hF)

/- 97 internal/stringslite.HasPrefix -/
noncomputable def c97 : Code := match Tryd.f97.body with
  | some c => c
  | none => .skip
noncomputable def cfg97 : Cfg := ⟨Tryd.prog, TT, FNS, [], [], [], TCH, false, false⟩
def an97 : AnnG := (.seq .leaf (.seq .leaf .leaf))
def F97 (s : ByteArray) (prefix0 : ByteArray) (g : G) (R : Value → G → Prop) : Prop :=
  ifB (leI ((prefix0.size : Nat) : Int) ((s.size : Nat) : Int))
  ((0 ≤ ((prefix0.size : Nat) : Int) ∧ ((prefix0.size : Nat) : Int) ≤ ((s.size : Nat) : Int)) ∧ ∀ g1 : G, Ex g g1 →
  R (.bool (strEq (ByteArray.extract s 0 (Int.toNat ((prefix0.size : Nat) : Int))) prefix0)) g1)
  (∀ g2 : G, Ex g g2 →
  R (.bool false) g2)
theorem F97_eq (s : ByteArray) (prefix0 : ByteArray) (g : G) (R : Value → G → Prop) : fnG cfg97 18 [.tmp 4] c97 an97 [(.string s), (.string prefix0)] g nobody R = F97 s prefix0 g R := by kernel_rfl
theorem call97 (s : ByteArray) (prefix0 : ByteArray) (g : G) (R : Value → G → Prop) (hF : F97 s prefix0 g R) : CallsG Tryd.prog 97 #[(.string s), (.string prefix0)] g nobody R :=
  fn_soundG (c := cfg97) TTok FNSok mixed Tryd.func97 (show Tryd.f97.body = some c97 by kernel_rfl) (show Tryd.f97.ntmps = 18 by kernel_rfl) (show Tryd.f97.results.toList = [.tmp 4] by kernel_rfl) rfl ((F97_eq s prefix0 g R).mpr hF)

/- 100 pilaster/pilasterref01.IsVar -/
noncomputable def c100 : Code := match Tryd.f100.body with
  | some c => c
  | none => .skip
noncomputable def cfg100 : Cfg := ⟨Tryd.prog, TT, FNS, [], [], [], TCH, false, false⟩
def an100 : AnnG := (.seq .leaf (.seq .leaf .leaf))
def F100 (s : ByteArray) (g : G) (R : Value → G → Prop) : Prop :=
  ifB (leI (2 : Int) ((s.size : Nat) : Int))
  (ifB (leI ((s.size : Nat) : Int) (24 : Int))
  (∃ b : UInt8, (0 ≤ (0 : Int) ∧ s[Int.toNat (0 : Int)]? = some b) ∧ ifB (eqI ((b.toNat : Nat) : Int) (39 : Int))
  (∃ b_1 : UInt8, (0 ≤ (1 : Int) ∧ s[Int.toNat (1 : Int)]? = some b_1) ∧ (CallsP Tryd.prog 104 #[(.int .u8 ((b_1.toNat : Nat) : Int))] g fun v g1 =>
  ∃ x : Bool, v = (.bool x) ∧ ifB x
  ((0 ≤ (1 : Int) ∧ (1 : Int) ≤ ((s.size : Nat) : Int)) ∧ (CallsP Tryd.prog 105 #[(.string (ByteArray.extract s (Int.toNat (1 : Int)) s.size))] g1 fun v g2 =>
  ∃ x_1 : Bool, v = (.bool x_1) ∧ ∀ g3 : G, Ex g2 g3 →
  R (.bool x_1) g3))
  (∀ g4 : G, Ex g1 g4 →
  R (.bool false) g4)))
  (∀ g5 : G, Ex g g5 →
  R (.bool false) g5))
  (∀ g6 : G, Ex g g6 →
  R (.bool false) g6))
  (∀ g7 : G, Ex g g7 →
  R (.bool false) g7)
theorem F100_eq (s : ByteArray) (g : G) (R : Value → G → Prop) : fnG cfg100 26 [.tmp 2] c100 an100 [(.string s)] g nobody R = F100 s g R := by kernel_rfl
theorem call100 (s : ByteArray) (g : G) (R : Value → G → Prop) (hF : F100 s g R) : CallsG Tryd.prog 100 #[(.string s)] g nobody R :=
  fn_soundG (c := cfg100) TTok FNSok mixed Tryd.func100 (show Tryd.f100.body = some c100 by kernel_rfl) (show Tryd.f100.ntmps = 26 by kernel_rfl) (show Tryd.f100.results.toList = [.tmp 2] by kernel_rfl) rfl ((F100_eq s g R).mpr hF)

/- 101 pilaster/pilasterref01.IsLower -/
noncomputable def c101 : Code := match Tryd.f101.body with
  | some c => c
  | none => .skip
noncomputable def cfg101 : Cfg := ⟨Tryd.prog, TT, FNS, [], [], [], TCH, false, false⟩
def an101 : AnnG := (.seq .leaf (.seq .leaf .leaf))
def F101 (s : ByteArray) (g : G) (R : Value → G → Prop) : Prop :=
  (CallsP Tryd.prog 106 #[(.string s)] g fun v g1 =>
  ∃ x : Bool, v = (.bool x) ∧ ifB x
  (∃ b : UInt8, (0 ≤ (0 : Int) ∧ s[Int.toNat (0 : Int)]? = some b) ∧ (CallsP Tryd.prog 104 #[(.int .u8 ((b.toNat : Nat) : Int))] g1 fun v g2 =>
  ∃ x_1 : Bool, v = (.bool x_1) ∧ ifB x_1
  ((CallsP Tryd.prog 108 #[] g2 fun v g3 =>
  ∃ xa : Option Addr, ∃ xl : Nat, ∃ xc : Nat, v = (.slice xa xl xc) ∧ (CallsP Tryd.prog 107 #[(.slice xa xl xc), (.string s)] g3 fun v g4 =>
  ∃ x_2 : Int, v = (.int .i64 x_2) ∧ ∀ g5 : G, Ex g4 g5 →
  R (.bool (ltI x_2 (0 : Int))) g5)))
  (∀ g6 : G, Ex g2 g6 →
  R (.bool false) g6)))
  (∀ g7 : G, Ex g1 g7 →
  R (.bool false) g7))
theorem F101_eq (s : ByteArray) (g : G) (R : Value → G → Prop) : fnG cfg101 16 [.tmp 2] c101 an101 [(.string s)] g nobody R = F101 s g R := by kernel_rfl
theorem call101 (s : ByteArray) (g : G) (R : Value → G → Prop) (hF : F101 s g R) : CallsG Tryd.prog 101 #[(.string s)] g nobody R :=
  fn_soundG (c := cfg101) TTok FNSok mixed Tryd.func101 (show Tryd.f101.body = some c101 by kernel_rfl) (show Tryd.f101.ntmps = 16 by kernel_rfl) (show Tryd.f101.results.toList = [.tmp 2] by kernel_rfl) rfl ((F101_eq s g R).mpr hF)

/- 102 pilaster/pilasterref01.IsUpper -/
noncomputable def c102 : Code := match Tryd.f102.body with
  | some c => c
  | none => .skip
noncomputable def cfg102 : Cfg := ⟨Tryd.prog, TT, FNS, [], [], [], TCH, false, false⟩
def an102 : AnnG := (.seq .leaf (.seq .leaf .leaf))
def F102 (s : ByteArray) (g : G) (R : Value → G → Prop) : Prop :=
  (CallsP Tryd.prog 106 #[(.string s)] g fun v g1 =>
  ∃ x : Bool, v = (.bool x) ∧ ifB x
  (∃ b : UInt8, (0 ≤ (0 : Int) ∧ s[Int.toNat (0 : Int)]? = some b) ∧ (CallsP Tryd.prog 109 #[(.int .u8 ((b.toNat : Nat) : Int))] g1 fun v g2 =>
  ∃ x_1 : Bool, v = (.bool x_1) ∧ ∀ g3 : G, Ex g2 g3 →
  R (.bool x_1) g3))
  (∀ g4 : G, Ex g1 g4 →
  R (.bool false) g4))
theorem F102_eq (s : ByteArray) (g : G) (R : Value → G → Prop) : fnG cfg102 10 [.tmp 2] c102 an102 [(.string s)] g nobody R = F102 s g R := by kernel_rfl
theorem call102 (s : ByteArray) (g : G) (R : Value → G → Prop) (hF : F102 s g R) : CallsG Tryd.prog 102 #[(.string s)] g nobody R :=
  fn_soundG (c := cfg102) TTok FNSok mixed Tryd.func102 (show Tryd.f102.body = some c102 by kernel_rfl) (show Tryd.f102.ntmps = 10 by kernel_rfl) (show Tryd.f102.results.toList = [.tmp 2] by kernel_rfl) rfl ((F102_eq s g R).mpr hF)

/- 104 pilaster/pilasterref01.Small -/
noncomputable def c104 : Code := match Tryd.f104.body with
  | some c => c
  | none => .skip
noncomputable def cfg104 : Cfg := ⟨Tryd.prog, TT, FNS, [], [], [], TCH, false, false⟩
def an104 : AnnG := (.seq .leaf (.seq .leaf .leaf))
def F104 (c : Int) (g : G) (R : Value → G → Prop) : Prop :=
  ifB (leI (97 : Int) c)
  (∀ g1 : G, Ex g g1 →
  R (.bool (leI c (122 : Int))) g1)
  (∀ g2 : G, Ex g g2 →
  R (.bool false) g2)
theorem F104_eq (c : Int) (g : G) (R : Value → G → Prop) : fnG cfg104 9 [.tmp 2] c104 an104 [(.int .u8 c)] g nobody R = F104 c g R := by kernel_rfl
theorem call104 (c : Int) (g : G) (R : Value → G → Prop) (hF : F104 c g R) : CallsG Tryd.prog 104 #[(.int .u8 c)] g nobody R :=
  fn_soundG (c := cfg104) TTok FNSok mixed Tryd.func104 (show Tryd.f104.body = some c104 by kernel_rfl) (show Tryd.f104.ntmps = 9 by kernel_rfl) (show Tryd.f104.results.toList = [.tmp 2] by kernel_rfl) rfl ((F104_eq c g R).mpr hF)

/- 105 pilaster/pilasterref01.inner -/
noncomputable def c105 : Code := match Tryd.f105.body with
  | some c => c
  | none => .skip
noncomputable def cfg105 : Cfg := ⟨Tryd.prog, TT, FNS, [], [], [], TCH, false, false⟩
def an105 : AnnG := (.seq .leaf (.seq (.seq .leaf (.blk (.loop ⟨[(3, .int .i64)], [], []⟩ (.seq (.seq .leaf (.cond .leaf .leaf)) (.seq (.blk (.seq .leaf (.cond (.seq .leaf .leaf) .leaf))) .leaf))))) (.seq .leaf .leaf)))
def F105 (s : ByteArray) (g : G) (R : Value → G → Prop) : Prop :=
  ∃ Inv : Nat → Int → G → Prop, ((∃ m0 : Nat, Inv m0 (0 : Int) g)) ∧
  ∀ m : Nat, ∀ i : Int, ∀ g1 : G, Le g g1 → Inv m i g1 →
  ifB (ltI i ((s.size : Nat) : Int))
  (∃ b : UInt8, (0 ≤ i ∧ s[Int.toNat i]? = some b) ∧ (CallsP Tryd.prog 112 #[(.int .u8 ((b.toNat : Nat) : Int))] g1 fun v g2 =>
  ∃ x : Bool, v = (.bool x) ∧ ifB (!x)
  (∀ g3 : G, Ex g2 g3 →
  R (.bool false) g3)
  (InI64 (i + (1 : Int)) ∧ (∃ m_1 : Nat, m_1 < m ∧ Inv m_1 (i + (1 : Int)) g2))))
  (∀ g4 : G, Ex g1 g4 →
  R (.bool true) g4)
theorem F105_eq (s : ByteArray) (g : G) (R : Value → G → Prop) : fnG cfg105 15 [.tmp 2] c105 an105 [(.string s)] g nobody R = F105 s g R := by kernel_rfl
theorem call105 (s : ByteArray) (g : G) (R : Value → G → Prop) (hF : F105 s g R) : CallsG Tryd.prog 105 #[(.string s)] g nobody R :=
  fn_soundG (c := cfg105) TTok FNSok mixed Tryd.func105 (show Tryd.f105.body = some c105 by kernel_rfl) (show Tryd.f105.ntmps = 15 by kernel_rfl) (show Tryd.f105.results.toList = [.tmp 2] by kernel_rfl) rfl ((F105_eq s g R).mpr hF)

/- 106 pilaster/pilasterref01.Word -/
noncomputable def c106 : Code := match Tryd.f106.body with
  | some c => c
  | none => .skip
noncomputable def cfg106 : Cfg := ⟨Tryd.prog, TT, FNS, [], [], [], TCH, false, false⟩
def an106 : AnnG := (.seq .leaf (.seq .leaf .leaf))
def F106 (s : ByteArray) (g : G) (R : Value → G → Prop) : Prop :=
  ifB (leI (1 : Int) ((s.size : Nat) : Int))
  (ifB (leI ((s.size : Nat) : Int) (24 : Int))
  ((CallsP Tryd.prog 105 #[(.string s)] g fun v g1 =>
  ∃ x : Bool, v = (.bool x) ∧ ∀ g2 : G, Ex g1 g2 →
  R (.bool x) g2))
  (∀ g3 : G, Ex g g3 →
  R (.bool false) g3))
  (∀ g4 : G, Ex g g4 →
  R (.bool false) g4)
theorem F106_eq (s : ByteArray) (g : G) (R : Value → G → Prop) : fnG cfg106 15 [.tmp 2] c106 an106 [(.string s)] g nobody R = F106 s g R := by kernel_rfl
theorem call106 (s : ByteArray) (g : G) (R : Value → G → Prop) (hF : F106 s g R) : CallsG Tryd.prog 106 #[(.string s)] g nobody R :=
  fn_soundG (c := cfg106) TTok FNSok mixed Tryd.func106 (show Tryd.f106.body = some c106 by kernel_rfl) (show Tryd.f106.ntmps = 15 by kernel_rfl) (show Tryd.f106.results.toList = [.tmp 2] by kernel_rfl) rfl ((F106_eq s g R).mpr hF)

/- 107 pilaster/pilasterref01.Find -/
noncomputable def c107 : Code := match Tryd.f107.body with
  | some c => c
  | none => .skip
noncomputable def cfg107 : Cfg := ⟨Tryd.prog, TT, FNS, [], [], [], TCH, false, false⟩
def an107 : AnnG := (.seq .leaf (.seq (.seq .leaf (.blk (.loop ⟨[(5, .int .i64)], [], []⟩ (.seq (.seq .leaf (.cond .leaf .leaf)) (.seq (.blk (.seq .leaf (.cond (.seq .leaf .leaf) .leaf))) .leaf))))) (.seq .leaf .leaf)))
def F107 (la : Option Addr) (ll : Nat) (lc : Nat) (s : ByteArray) (g : G) (R : Value → G → Prop) : Prop :=
  ∃ Inv : Nat → Int → G → Prop, ((∃ m0 : Nat, Inv m0 (0 : Int) g)) ∧
  ∀ m : Nat, ∀ i : Int, ∀ g1 : G, Le g g1 → Inv m i g1 →
  ifB (ltI i ((ll : Nat) : Int))
  ((0 ≤ i ∧ i < ((ll : Nat) : Int)) ∧ derefP la fun ad => ∃ x : ByteArray, g1.w.cell? (Addr.add ad (Int.toNat i * 1)) = some (.string x) ∧ ifB (strEq x s)
  (∀ g2 : G, Ex g1 g2 →
  R (.int .i64 i) g2)
  (InI64 (i + (1 : Int)) ∧ (∃ m_1 : Nat, m_1 < m ∧ Inv m_1 (i + (1 : Int)) g1)))
  (∀ g3 : G, Ex g1 g3 →
  R (.int .i64 (-1 : Int)) g3)
theorem F107_eq (la : Option Addr) (ll : Nat) (lc : Nat) (s : ByteArray) (g : G) (R : Value → G → Prop) : fnG cfg107 19 [.tmp 4] c107 an107 [(.slice la ll lc), (.string s)] g nobody R = F107 la ll lc s g R := by kernel_rfl
theorem call107 (la : Option Addr) (ll : Nat) (lc : Nat) (s : ByteArray) (g : G) (R : Value → G → Prop) (hF : F107 la ll lc s g R) : CallsG Tryd.prog 107 #[(.slice la ll lc), (.string s)] g nobody R :=
  fn_soundG (c := cfg107) TTok FNSok mixed Tryd.func107 (show Tryd.f107.body = some c107 by kernel_rfl) (show Tryd.f107.ntmps = 19 by kernel_rfl) (show Tryd.f107.results.toList = [.tmp 4] by kernel_rfl) rfl ((F107_eq la ll lc s g R).mpr hF)

/- 108 pilaster/pilasterref01.Keys -/
noncomputable def c108 : Code := match Tryd.f108.body with
  | some c => c
  | none => .skip
noncomputable def cfg108 : Cfg := ⟨Tryd.prog, TT, FNS, [], [], [], TCH, false, false⟩
def an108 : AnnG := (.seq .leaf (.seq .leaf .leaf))
def F108 (g : G) (R : Value → G → Prop) : Prop :=
  ∀ g1 : G, NewL g g1 9 [(.string (bs [97, 110, 100, 97, 108, 115, 111])), (.string (bs [99, 97, 115, 101])), (.string (bs [100, 97, 116, 97])), (.string (bs [100, 105, 118])), (.string (bs [101, 108, 115, 101])), (.string (bs [101, 110, 100])), (.string (bs [102, 110])), (.string (bs [102, 117, 110])), (.string (bs [102, 117, 110, 99, 116, 111, 114])), (.string (bs [103, 101, 110, 101, 114, 97, 116, 105, 118, 101])), (.string (bs [105, 102])), (.string (bs [105, 109, 112, 111, 114, 116])), (.string (bs [105, 110])), (.string (bs [105, 110, 99, 108, 117, 100, 101])), (.string (bs [108, 101, 116])), (.string (bs [109, 111, 100])), (.string (bs [109, 111, 100, 117, 108, 101])), (.string (bs [111, 102])), (.string (bs [111, 112, 101, 110])), (.string (bs [111, 114, 101, 108, 115, 101])), (.string (bs [112, 97, 99, 107])), (.string (bs [115, 104, 97, 114, 105, 110, 103])), (.string (bs [115, 105, 103])), (.string (bs [115, 105, 103, 110, 97, 116, 117, 114, 101])), (.string (bs [115, 116, 114, 117, 99, 116])), (.string (bs [115, 116, 114, 117, 99, 116, 117, 114, 101])), (.string (bs [116, 104, 101, 110])), (.string (bs [116, 121, 112, 101])), (.string (bs [117, 110, 112, 97, 99, 107])), (.string (bs [118, 97, 108])), (.string (bs [119, 105, 116, 104]))] →
  ∀ g2 : G, Ex g1 g2 →
  R (.slice (some ⟨g.w.heap.size, 0, none⟩) 31 31) g2
theorem F108_eq (g : G) (R : Value → G → Prop) : fnG cfg108 2 [.tmp 0] c108 an108 [] g nobody R = F108 g R := by kernel_rfl
theorem call108 (g : G) (R : Value → G → Prop) (hF : F108 g R) : CallsG Tryd.prog 108 #[] g nobody R :=
  fn_soundG (c := cfg108) TTok FNSok mixed Tryd.func108 (show Tryd.f108.body = some c108 by kernel_rfl) (show Tryd.f108.ntmps = 2 by kernel_rfl) (show Tryd.f108.results.toList = [.tmp 0] by kernel_rfl) rfl ((F108_eq g R).mpr hF)

/- 109 pilaster/pilasterref01.Capital -/
noncomputable def c109 : Code := match Tryd.f109.body with
  | some c => c
  | none => .skip
noncomputable def cfg109 : Cfg := ⟨Tryd.prog, TT, FNS, [], [], [], TCH, false, false⟩
def an109 : AnnG := (.seq .leaf (.seq .leaf .leaf))
def F109 (c : Int) (g : G) (R : Value → G → Prop) : Prop :=
  ifB (leI (65 : Int) c)
  (∀ g1 : G, Ex g g1 →
  R (.bool (leI c (90 : Int))) g1)
  (∀ g2 : G, Ex g g2 →
  R (.bool false) g2)
theorem F109_eq (c : Int) (g : G) (R : Value → G → Prop) : fnG cfg109 9 [.tmp 2] c109 an109 [(.int .u8 c)] g nobody R = F109 c g R := by kernel_rfl
theorem call109 (c : Int) (g : G) (R : Value → G → Prop) (hF : F109 c g R) : CallsG Tryd.prog 109 #[(.int .u8 c)] g nobody R :=
  fn_soundG (c := cfg109) TTok FNSok mixed Tryd.func109 (show Tryd.f109.body = some c109 by kernel_rfl) (show Tryd.f109.ntmps = 9 by kernel_rfl) (show Tryd.f109.results.toList = [.tmp 2] by kernel_rfl) rfl ((F109_eq c g R).mpr hF)

/- 112 pilaster/pilasterref01.Inner -/
noncomputable def c112 : Code := match Tryd.f112.body with
  | some c => c
  | none => .skip
noncomputable def cfg112 : Cfg := ⟨Tryd.prog, TT, FNS, [], [], [], TCH, false, false⟩
def an112 : AnnG := (.seq .leaf (.seq .leaf .leaf))
def F112 (c : Int) (g : G) (R : Value → G → Prop) : Prop :=
  (CallsP Tryd.prog 104 #[(.int .u8 c)] g fun v g1 =>
  ∃ x : Bool, v = (.bool x) ∧ ifB x
  (∀ g2 : G, Ex g1 g2 →
  R (.bool true) g2)
  ((CallsP Tryd.prog 109 #[(.int .u8 c)] g1 fun v g3 =>
  ∃ x_1 : Bool, v = (.bool x_1) ∧ ifB x_1
  (∀ g4 : G, Ex g3 g4 →
  R (.bool true) g4)
  ((CallsP Tryd.prog 113 #[(.int .u8 c)] g3 fun v g5 =>
  ∃ x_2 : Bool, v = (.bool x_2) ∧ ifB x_2
  (∀ g6 : G, Ex g5 g6 →
  R (.bool true) g6)
  (∀ g7 : G, Ex g5 g7 →
  R (.bool (eqI c (95 : Int))) g7))))))
theorem F112_eq (c : Int) (g : G) (R : Value → G → Prop) : fnG cfg112 17 [.tmp 2] c112 an112 [(.int .u8 c)] g nobody R = F112 c g R := by kernel_rfl
theorem call112 (c : Int) (g : G) (R : Value → G → Prop) (hF : F112 c g R) : CallsG Tryd.prog 112 #[(.int .u8 c)] g nobody R :=
  fn_soundG (c := cfg112) TTok FNSok mixed Tryd.func112 (show Tryd.f112.body = some c112 by kernel_rfl) (show Tryd.f112.ntmps = 17 by kernel_rfl) (show Tryd.f112.results.toList = [.tmp 2] by kernel_rfl) rfl ((F112_eq c g R).mpr hF)

/- 113 pilaster/pilasterref01.Digit -/
noncomputable def c113 : Code := match Tryd.f113.body with
  | some c => c
  | none => .skip
noncomputable def cfg113 : Cfg := ⟨Tryd.prog, TT, FNS, [], [], [], TCH, false, false⟩
def an113 : AnnG := (.seq .leaf (.seq .leaf .leaf))
def F113 (c : Int) (g : G) (R : Value → G → Prop) : Prop :=
  ifB (leI (48 : Int) c)
  (∀ g1 : G, Ex g g1 →
  R (.bool (leI c (57 : Int))) g1)
  (∀ g2 : G, Ex g g2 →
  R (.bool false) g2)
theorem F113_eq (c : Int) (g : G) (R : Value → G → Prop) : fnG cfg113 9 [.tmp 2] c113 an113 [(.int .u8 c)] g nobody R = F113 c g R := by kernel_rfl
theorem call113 (c : Int) (g : G) (R : Value → G → Prop) (hF : F113 c g R) : CallsG Tryd.prog 113 #[(.int .u8 c)] g nobody R :=
  fn_soundG (c := cfg113) TTok FNSok mixed Tryd.func113 (show Tryd.f113.body = some c113 by kernel_rfl) (show Tryd.f113.ntmps = 9 by kernel_rfl) (show Tryd.f113.results.toList = [.tmp 2] by kernel_rfl) rfl ((F113_eq c g R).mpr hF)
end Go.Proofs.YtmakoecgogjemaaDoor
