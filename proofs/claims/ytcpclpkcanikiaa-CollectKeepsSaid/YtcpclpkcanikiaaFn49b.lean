/- Printed by a program (wip/tools/gen2.py): more functions. -/
import Derived.Test.YtcpclpkcanikiaaFn49
namespace Go.Proofs.Ytcpclpkcanikiaa
open Go Go.Vc Go.RowKit
set_option maxRecDepth 100000
set_option linter.unusedVariables false

/- 112 slices.IndexFunc[[]pilaster/api.Value,pilaster/api.Value] -/
noncomputable def c112 : Code := match Try.f112.body with
  | some c => c
  | none => .skip
noncomputable def cfg112 : Cfg := ⟨Try.prog, TT, FNS, [], [], [], TCH, false, false⟩
def an112 : AnnG := (.seq .leaf (.seq (.seq .leaf (.blk (.loop ⟨[(8, .int .i64)], [], []⟩ (.seq .leaf (.seq (.cond .leaf .leaf) (.seq (.blk (.seq .leaf (.seq .leaf (.cond (.seq .leaf .leaf) .leaf)))) .leaf)))))) (.seq .leaf .leaf)))
def F112 (sa : Option Addr) (sl : Nat) (sc : Nat) (ff : FuncId) (fc : Array Value) (g : G) (R : Value → G → Prop) : Prop :=
  ∃ Inv : Nat → Int → G → Prop, ((∃ m0 : Nat, Inv m0 (0 : Int) g)) ∧
  ∀ m : Nat, ∀ v_1 : Int, ∀ g1 : G, Le g g1 → Inv m v_1 g1 →
  ifB (ltI v_1 ((sl : Nat) : Int))
  ((0 ≤ v_1 ∧ v_1 < ((sl : Nat) : Int)) ∧ derefP sa fun ad => ∃ x0 : Int, ∃ x1 : Int, ∃ x2 : ByteArray, ∃ x3a : Option Addr, ∃ x3l : Nat, ∃ x3c : Nat, ∃ x4a : Option Addr, ∃ x4l : Nat, ∃ x4c : Nat, g1.w.cell? (Addr.add ad (Int.toNat v_1 * 5)) = some (.int .i64 x0) ∧ g1.w.cell? (Addr.add (Addr.add ad (Int.toNat v_1 * 5)) 1) = some (.int .i64 x1) ∧ g1.w.cell? (Addr.add (Addr.add ad (Int.toNat v_1 * 5)) 2) = some (.string x2) ∧ g1.w.cell? (Addr.add (Addr.add ad (Int.toNat v_1 * 5)) 3) = some (.slice x3a x3l x3c) ∧ g1.w.cell? (Addr.add (Addr.add ad (Int.toNat v_1 * 5)) 4) = some (.slice x4a x4l x4c) ∧ Enters Try.prog ff ∧ (CallsP Try.prog ff ((⟨[(.agg ⟨[(.int .i64 x0), (.int .i64 x1), (.string x2), (.slice x3a x3l x3c), (.slice x4a x4l x4c)]⟩)]⟩ : Array Value) ++ fc) g1 fun v g2 =>
  ∃ x : Bool, v = (.bool x) ∧ ifB x
  (∀ g3 : G, Ex g2 g3 →
  R (.int .i64 v_1) g3)
  (InI64 (v_1 + (1 : Int)) ∧ (∃ m_1 : Nat, m_1 < m ∧ Inv m_1 (v_1 + (1 : Int)) g2))))
  (∀ g4 : G, Ex g1 g4 →
  R (.int .i64 (-1 : Int)) g4)
theorem F112_eq (sa : Option Addr) (sl : Nat) (sc : Nat) (ff : FuncId) (fc : Array Value) (g : G) (R : Value → G → Prop) : fnG cfg112 19 [.tmp 4] c112 an112 [(.slice sa sl sc), (.func (.func ff) #[] fc)] g nobody R = F112 sa sl sc ff fc g R := by kernel_rfl
theorem call112 (sa : Option Addr) (sl : Nat) (sc : Nat) (ff : FuncId) (fc : Array Value) (g : G) (R : Value → G → Prop) (hF : F112 sa sl sc ff fc g R) : CallsG Try.prog 112 #[(.slice sa sl sc), (.func (.func ff) #[] fc)] g nobody R :=
  fn_soundG (c := cfg112) TTok FNSok mixed Try.func112 (show Try.f112.body = some c112 by kernel_rfl) (show Try.f112.ntmps = 19 by kernel_rfl) (show Try.f112.results.toList = [.tmp 4] by kernel_rfl) rfl ((F112_eq sa sl sc ff fc g R).mpr hF)

/- 113 cmp.Less[int] -/
noncomputable def c113 : Code := match Try.f113.body with
  | some c => c
  | none => .skip
noncomputable def cfg113 : Cfg := ⟨Try.prog, TT, FNS, [], [], [], TCH, false, false⟩
def an113 : AnnG := (.seq .leaf (.seq .leaf .leaf))
def F113 (x : Int) (y : Int) (g : G) (R : Value → G → Prop) : Prop :=
  (CallsP Try.prog 127 #[(.int .i64 x)] g fun v g1 =>
  ∃ x_1 : Bool, v = (.bool x_1) ∧ ifB x_1
  ((CallsP Try.prog 127 #[(.int .i64 y)] g1 fun v g2 =>
  ∃ x_2 : Bool, v = (.bool x_2) ∧ ifB (!x_2)
  (∀ g3 : G, Ex g2 g3 →
  R (.bool true) g3)
  (∀ g4 : G, Ex g2 g4 →
  R (.bool (ltI x y)) g4)))
  (∀ g5 : G, Ex g1 g5 →
  R (.bool (ltI x y)) g5))
theorem F113_eq (x : Int) (y : Int) (g : G) (R : Value → G → Prop) : fnG cfg113 17 [.tmp 4] c113 an113 [(.int .i64 x), (.int .i64 y)] g nobody R = F113 x y g R := by kernel_rfl
theorem call113 (x : Int) (y : Int) (g : G) (R : Value → G → Prop) (hF : F113 x y g R) : CallsG Try.prog 113 #[(.int .i64 x), (.int .i64 y)] g nobody R :=
  fn_soundG (c := cfg113) TTok FNSok mixed Try.func113 (show Try.f113.body = some c113 by kernel_rfl) (show Try.f113.ntmps = 17 by kernel_rfl) (show Try.f113.results.toList = [.tmp 4] by kernel_rfl) rfl ((F113_eq x y g R).mpr hF)

/- 114 slices.isNaN[int] -/
noncomputable def c114 : Code := match Try.f114.body with
  | some c => c
  | none => .skip
noncomputable def cfg114 : Cfg := ⟨Try.prog, TT, FNS, [], [], [], TCH, false, false⟩
def an114 : AnnG := (.seq .leaf (.seq .leaf .leaf))
def F114 (x : Int) (g : G) (R : Value → G → Prop) : Prop :=
  ∀ g1 : G, Ex g g1 →
  R (.bool (!eqI x x)) g1
theorem F114_eq (x : Int) (g : G) (R : Value → G → Prop) : fnG cfg114 6 [.tmp 2] c114 an114 [(.int .i64 x)] g nobody R = F114 x g R := by kernel_rfl
theorem call114 (x : Int) (g : G) (R : Value → G → Prop) (hF : F114 x g R) : CallsG Try.prog 114 #[(.int .i64 x)] g nobody R :=
  fn_soundG (c := cfg114) TTok FNSok mixed Try.func114 (show Try.f114.body = some c114 by kernel_rfl) (show Try.f114.ntmps = 6 by kernel_rfl) (show Try.f114.results.toList = [.tmp 2] by kernel_rfl) rfl ((F114_eq x g R).mpr hF)

/- 125 pilaster/heap.blocks$1 -/
noncomputable def c125 : Code := match Try.f125.body with
  | some c => c
  | none => .skip
noncomputable def cfg125 : Cfg := ⟨Try.prog, TT, FNS, [], [], [], TCH, false, false⟩
def an125 : AnnG := (.seq .leaf (.blk (.loop ⟨[(3, .int .i64)], [], []⟩ (.seq (.seq .leaf (.cond .leaf .leaf)) (.blk (.join ⟨[], [], []⟩ (.seq .leaf (.cond (.seq .leaf .leaf) .leaf)) (.seq .leaf (.join ⟨[], [], []⟩ (.seq .leaf (.cond (.seq .leaf .leaf) .leaf)) (.seq (.seq .leaf (.cond .leaf .leaf)) .leaf)))))))))
def F125 (yieldf : FuncId) (yieldc : Array Value) (c0 : Option Addr) (g : G) (R : Value → G → Prop) : Prop :=
  ∃ Inv : Nat → Int → G → Prop, ((∃ m0 : Nat, Inv m0 (0 : Int) g)) ∧
  ∀ m : Nat, ∀ at0 : Int, ∀ g1 : G, Le g g1 → Inv m at0 g1 →
  derefP c0 fun ad => ∃ xa : Option Addr, ∃ xl : Nat, ∃ xc : Nat, g1.w.cell? ad = some (.slice xa xl xc) ∧ ifB (ltI at0 ((xl : Nat) : Int))
  (∀ J : G → Prop,
  (∀ g2 : G, (derefP c0 fun ad_1 => ∃ xa_1 : Option Addr, ∃ xl_1 : Nat, ∃ xc_1 : Nat, g2.w.cell? ad_1 = some (.slice xa_1 xl_1 xc_1) ∧ InI64 (at0 + (2 : Int)) ∧ (0 ≤ (at0 + (2 : Int)) ∧ (at0 + (2 : Int)) < ((xl_1 : Nat) : Int)) ∧ derefP xa_1 fun ad_2 => ∃ n : Int, g2.w.cell? (Addr.add (Addr.add ad_2 (Int.toNat (at0 + (2 : Int)) * 2)) 1) = some (.int .i64 n) ∧ ∀ J_1 : G → Prop,
  (∀ g3 : G, (Enters Try.prog yieldf ∧ (CallsP Try.prog yieldf ((⟨[(.int .i64 at0), (.int .i64 n)]⟩ : Array Value) ++ yieldc) g3 fun v g4 =>
  ∃ x : Bool, v = (.bool x) ∧ ifB (!x)
  (∀ g5 : G, Ex g4 g5 →
  R (.tuple ⟨[]⟩) g5)
  (InI64 (n + (3 : Int)) ∧ InI64 (at0 + (n + (3 : Int))) ∧ (∃ m_1 : Nat, m_1 < m ∧ Inv m_1 (at0 + (n + (3 : Int))) g4)))) → J_1 g3) →
  ifB (ltI n (0 : Int))
  (Enters Try.prog yieldf ∧ (CallsP Try.prog yieldf ((⟨[(.int .i64 at0), (.int .i64 (-1 : Int))]⟩ : Array Value) ++ yieldc) g2 fun v g6 =>
  ∃ x_1 : Bool, v = (.bool x_1) ∧ ∀ g7 : G, Ex g6 g7 →
  R (.tuple ⟨[]⟩) g7))
  (derefP c0 fun ad_3 => ∃ xa_2 : Option Addr, ∃ xl_2 : Nat, ∃ xc_2 : Nat, g2.w.cell? ad_3 = some (.slice xa_2 xl_2 xc_2) ∧ InI64 (((xl_2 : Nat) : Int) - at0) ∧ InI64 ((((xl_2 : Nat) : Int) - at0) - (3 : Int)) ∧ ifB (ltI ((((xl_2 : Nat) : Int) - at0) - (3 : Int)) n)
  (Enters Try.prog yieldf ∧ (CallsP Try.prog yieldf ((⟨[(.int .i64 at0), (.int .i64 (-1 : Int))]⟩ : Array Value) ++ yieldc) g2 fun v g8 =>
  ∃ x_2 : Bool, v = (.bool x_2) ∧ ∀ g9 : G, Ex g8 g9 →
  R (.tuple ⟨[]⟩) g9))
  (J_1 g2))) → J g2) →
  derefP c0 fun ad_4 => ∃ xa_3 : Option Addr, ∃ xl_3 : Nat, ∃ xc_3 : Nat, g1.w.cell? ad_4 = some (.slice xa_3 xl_3 xc_3) ∧ InI64 (((xl_3 : Nat) : Int) - at0) ∧ ifB (ltI (((xl_3 : Nat) : Int) - at0) (3 : Int))
  (Enters Try.prog yieldf ∧ (CallsP Try.prog yieldf ((⟨[(.int .i64 at0), (.int .i64 (-1 : Int))]⟩ : Array Value) ++ yieldc) g1 fun v g10 =>
  ∃ x_3 : Bool, v = (.bool x_3) ∧ ∀ g11 : G, Ex g10 g11 →
  R (.tuple ⟨[]⟩) g11))
  (derefP c0 fun ad_5 => ∃ xa_4 : Option Addr, ∃ xl_4 : Nat, ∃ xc_4 : Nat, g1.w.cell? ad_5 = some (.slice xa_4 xl_4 xc_4) ∧ InI64 (at0 + (3 : Int)) ∧ (0 ≤ (at0 + (3 : Int)) ∧ (at0 + (3 : Int)) ≤ ((xc_4 : Nat) : Int)) ∧ (0 ≤ at0 ∧ at0 ≤ (((Int.toNat (at0 + (3 : Int))) : Nat) : Int)) ∧ (CallsP Try.prog 76 #[(.slice (slAddr xa_4 xc_4 (Int.toNat at0) 2) ((Int.toNat (at0 + (3 : Int))) - (Int.toNat at0)) (xc_4 - (Int.toNat at0))), (.func (.func 126) #[] #[])] g1 fun v g12 =>
  ∃ x_4 : Bool, v = (.bool x_4) ∧ ifB x_4
  (Enters Try.prog yieldf ∧ (CallsP Try.prog yieldf ((⟨[(.int .i64 at0), (.int .i64 (-1 : Int))]⟩ : Array Value) ++ yieldc) g12 fun v g13 =>
  ∃ x_5 : Bool, v = (.bool x_5) ∧ ∀ g14 : G, Ex g13 g14 →
  R (.tuple ⟨[]⟩) g14))
  (J g12))))
  (∀ g15 : G, Ex g1 g15 →
  R (.tuple ⟨[]⟩) g15)
theorem F125_eq (yieldf : FuncId) (yieldc : Array Value) (c0 : Option Addr) (g : G) (R : Value → G → Prop) : fnG cfg125 59 [] c125 an125 [(.func (.func yieldf) #[] yieldc), (.pointer c0)] g nobody R = F125 yieldf yieldc c0 g R := by kernel_rfl
theorem call125 (yieldf : FuncId) (yieldc : Array Value) (c0 : Option Addr) (g : G) (R : Value → G → Prop) (hF : F125 yieldf yieldc c0 g R) : CallsG Try.prog 125 #[(.func (.func yieldf) #[] yieldc), (.pointer c0)] g nobody R :=
  fn_soundG (c := cfg125) TTok FNSok mixed Try.func125 (show Try.f125.body = some c125 by kernel_rfl) (show Try.f125.ntmps = 59 by kernel_rfl) (show Try.f125.results.toList = [] by kernel_rfl) rfl ((F125_eq yieldf yieldc c0 g R).mpr hF)

/- 126 pilaster/heap.blocks$1$1 -/
noncomputable def c126 : Code := match Try.f126.body with
  | some c => c
  | none => .skip
noncomputable def cfg126 : Cfg := ⟨Try.prog, TT, FNS, [1], [(1, 1), (3, 1)], [], TCH, false, false⟩
def an126 : AnnG := (.seq .leaf (.seq .leaf .leaf))
def F126 (w0 : Bool) (w1 : Int) (g : G) (R : Value → G → Prop) : Prop :=
  ∀ g1 : G, Ex g g1 →
  R (.bool w0) g1
theorem F126_eq (w0 : Bool) (w1 : Int) (g : G) (R : Value → G → Prop) : fnG cfg126 5 [.tmp 2] c126 an126 [(.agg ⟨[(.bool w0), (.int .i64 w1)]⟩)] g nobody R = F126 w0 w1 g R := by kernel_rfl
theorem call126 (w0 : Bool) (w1 : Int) (g : G) (R : Value → G → Prop) (hF : F126 w0 w1 g R) : CallsG Try.prog 126 #[(.agg ⟨[(.bool w0), (.int .i64 w1)]⟩)] g nobody R :=
  fn_soundG (c := cfg126) TTok FNSok mixed Try.func126 (show Try.f126.body = some c126 by kernel_rfl) (show Try.f126.ntmps = 5 by kernel_rfl) (show Try.f126.results.toList = [.tmp 2] by kernel_rfl) rfl ((F126_eq w0 w1 g R).mpr hF)

/- 127 cmp.isNaN[int] -/
noncomputable def c127 : Code := match Try.f127.body with
  | some c => c
  | none => .skip
noncomputable def cfg127 : Cfg := ⟨Try.prog, TT, FNS, [], [], [], TCH, false, false⟩
def an127 : AnnG := (.seq .leaf (.seq .leaf .leaf))
def F127 (x : Int) (g : G) (R : Value → G → Prop) : Prop :=
  ∀ g1 : G, Ex g g1 →
  R (.bool (!eqI x x)) g1
theorem F127_eq (x : Int) (g : G) (R : Value → G → Prop) : fnG cfg127 6 [.tmp 2] c127 an127 [(.int .i64 x)] g nobody R = F127 x g R := by kernel_rfl
theorem call127 (x : Int) (g : G) (R : Value → G → Prop) (hF : F127 x g R) : CallsG Try.prog 127 #[(.int .i64 x)] g nobody R :=
  fn_soundG (c := cfg127) TTok FNSok mixed Try.func127 (show Try.f127.body = some c127 by kernel_rfl) (show Try.f127.ntmps = 6 by kernel_rfl) (show Try.f127.results.toList = [.tmp 2] by kernel_rfl) rfl ((F127_eq x g R).mpr hF)
end Go.Proofs.Ytcpclpkcanikiaa
