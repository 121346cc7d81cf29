/- Printed by a program (wip/tools/gen.py): for each function its condition as a plain formula, and that the formula gives the call. -/
import Derived.Test.YtmkcffflebdheaaDoorProg
import Derived.Test.YtmkcffflebdheaaDoorVc12
namespace Go.Proofs.YtmkcffflebdheaaDoor.Fl
open Go Go.Vc Go.RowKit
set_option maxRecDepth 100000
set_option linter.unusedVariables false
def TT : List TI := [
  ⟨3, .int .i64, 1, 8, some (.int .i64 (0 : Int)), (.e (.one (.int .i64)))⟩,
  ⟨4, .bool, 1, 1, some (.bool false), (.e (.one (.bool)))⟩,
  ⟨5, .int .u8, 1, 1, some (.int .u8 (0 : Int)), (.e (.one (.int .u8)))⟩,
  ⟨9, .string, 1, 16, some (.string (bs [])), (.e (.one (.str)))⟩,
  ⟨22, .slice 5, 1, 24, some (.slice none 0 0), (.e (.one (.sl)))⟩,
  ⟨29, .func #[9] #[4] false, 1, 8, some .nilFunc, (.e (.one (.fn)))⟩,
  ⟨32, .tuple #[9, 31], 1, 0, some (.tuple ⟨[(.string (bs [])), (.int .i64 (0 : Int))]⟩), (.tup [(.one (.str)), (.one (.int .i64))])⟩,
  ⟨34, .slice 9, 1, 24, some (.slice none 0 0), (.e (.one (.sl)))⟩,
  ⟨38, .tuple #[9, 3], 1, 0, some (.tuple ⟨[(.string (bs [])), (.int .i64 (0 : Int))]⟩), (.tup [(.one (.str)), (.one (.int .i64))])⟩]
theorem TTok : TOk Tryd.prog TT := tok_of (by kernel_rfl)
def FNS : List Nat := [8, 9, 16, 18, 20, 28, 29]
theorem FNSok : FOk Tryd.prog FNS := fok_of (by kernel_rfl)
theorem mixed : Tryd.prog.follows .mixedOrders = true := by kernel_rfl

/- 7 pilaster/pilasterlaw39.DigestLists -/
noncomputable def c7 : Code := match Tryd.f7.body with
  | some c => c
  | none => .skip
def an7 : Ann := (.seq .leaf (.seq (.seq .leaf (.cond (.seq .leaf .leaf) .leaf)) (.join [] (.seq .leaf (.cond (.seq .leaf .leaf) .leaf)) (.seq .leaf (.seq .leaf (.seq .leaf .leaf))))))
def F7 (la : Option Addr) (ll : Nat) (lc : Nat) (w : World) (R : Value → World → Prop) : Prop :=
  (Calls Tryd.prog 8 #[] w fun en w1 => ∃ x : Bool, en = .returned (.bool x) ∧ ifB (!x)
  (R (.bool false) w1)
  (∀ J : World → Prop,
  (∀ w2 : World, ((Calls Tryd.prog 16 #[(.slice la ll lc)] w2 fun en w3 => ∃ x0 : ByteArray, ∃ x1 : Int, en = .returned (.tuple ⟨[(.string x0), (.int .i64 x1)]⟩) ∧ (Calls Tryd.prog 20 #[(.slice la ll lc)] w3 fun en w4 => ∃ x0_1 : ByteArray, ∃ x1_1 : Int, en = .returned (.tuple ⟨[(.string x0_1), (.int .i64 x1_1)]⟩) ∧ ifB (strEq x0 x0_1)
  (R (.bool (eqI x1 x1_1)) w4)
  (R (.bool false) w4)))) → J w2) →
  ifB (ltI (100 : Int) ((ll : Nat) : Int))
  (ifB (leI ((ll : Nat) : Int) (1000 : Int))
  (R (.bool true) w1)
  (ifB (ltI (1005 : Int) ((ll : Nat) : Int))
  (R (.bool true) w1)
  ((Calls Tryd.prog 18 #[(.slice la ll lc), (.func (.func 19) #[] #[])] w1 fun en w5 => ∃ x_1 : Bool, en = .returned (.bool x_1) ∧ ifB x_1
  (R (.bool true) w5)
  (J w5)))))
  (ifB (ltI (1005 : Int) ((ll : Nat) : Int))
  (R (.bool true) w1)
  ((Calls Tryd.prog 18 #[(.slice la ll lc), (.func (.func 19) #[] #[])] w1 fun en w6 => ∃ x_2 : Bool, en = .returned (.bool x_2) ∧ ifB x_2
  (R (.bool true) w6)
  (J w6))))))
theorem F7_eq (la : Option Addr) (ll : Nat) (lc : Nat) (w : World) (R : Value → World → Prop) : fnVC true Tryd.prog TT FNS 44 [.tmp 2] c7 an7 [(.slice la ll lc)] w none R = F7 la ll lc w R := by kernel_rfl
theorem call7 (la : Option Addr) (ll : Nat) (lc : Nat) (w : World) (R : Value → World → Prop) (hF : F7 la ll lc w R) : Calls Tryd.prog 7 #[(.slice la ll lc)] w fun e w' => ∃ v, e = .returned v ∧ R v w' :=
  fn_calls TTok FNSok mixed Tryd.func7 (show Tryd.f7.body = some c7 by kernel_rfl) (show Tryd.f7.ntmps = 44 by kernel_rfl) (show Tryd.f7.results.toList = [.tmp 2] by kernel_rfl) rfl ((F7_eq la ll lc w R).symm ▸ hF)

/- 18 slices.ContainsFunc[[]string,string] -/
noncomputable def c18 : Code := match Tryd.f18.body with
  | some c => c
  | none => .skip
def an18 : Ann := (.seq .leaf (.seq .leaf .leaf))
def F18 (sa : Option Addr) (sl : Nat) (sc : Nat) (ff : FuncId) (fc : Array Value) (w : World) (R : Value → World → Prop) : Prop :=
  (Calls Tryd.prog 28 #[(.slice sa sl sc), (.func (.func ff) #[] fc)] w fun en w1 => ∃ x : Int, en = .returned (.int .i64 x) ∧ R (.bool (leI (0 : Int) x)) w1)
theorem F18_eq (sa : Option Addr) (sl : Nat) (sc : Nat) (ff : FuncId) (fc : Array Value) (w : World) (R : Value → World → Prop) : fnVC true Tryd.prog TT FNS 9 [.tmp 4] c18 an18 [(.slice sa sl sc), (.func (.func ff) #[] fc)] w none R = F18 sa sl sc ff fc w R := by kernel_rfl
theorem call18 (sa : Option Addr) (sl : Nat) (sc : Nat) (ff : FuncId) (fc : Array Value) (w : World) (R : Value → World → Prop) (hF : F18 sa sl sc ff fc w R) : Calls Tryd.prog 18 #[(.slice sa sl sc), (.func (.func ff) #[] fc)] w fun e w' => ∃ v, e = .returned v ∧ R v w' :=
  fn_calls TTok FNSok mixed Tryd.func18 (show Tryd.f18.body = some c18 by kernel_rfl) (show Tryd.f18.ntmps = 9 by kernel_rfl) (show Tryd.f18.results.toList = [.tmp 4] by kernel_rfl) rfl ((F18_eq sa sl sc ff fc w R).symm ▸ hF)

/- 19 pilaster/pilasterlaw39.DigestLists$1 -/
noncomputable def c19 : Code := match Tryd.f19.body with
  | some c => c
  | none => .skip
def an19 : Ann := (.seq .leaf (.seq .leaf .leaf))
def F19 (s : ByteArray) (w : World) (R : Value → World → Prop) : Prop :=
  ifB (ltI (1000 : Int) ((s.size : Nat) : Int))
  (ifB (ltI ((s.size : Nat) : Int) (1048576 : Int))
  (R (.bool true) w)
  (R (.bool (ltI (1048676 : Int) ((s.size : Nat) : Int))) w))
  (R (.bool (ltI (1048676 : Int) ((s.size : Nat) : Int))) w)
theorem F19_eq (s : ByteArray) (w : World) (R : Value → World → Prop) : fnVC true Tryd.prog TT FNS 16 [.tmp 2] c19 an19 [(.string s)] w none R = F19 s w R := by kernel_rfl
theorem call19 (s : ByteArray) (w : World) (R : Value → World → Prop) (hF : F19 s w R) : Calls Tryd.prog 19 #[(.string s)] w fun e w' => ∃ v, e = .returned v ∧ R v w' :=
  fn_calls TTok FNSok mixed Tryd.func19 (show Tryd.f19.body = some c19 by kernel_rfl) (show Tryd.f19.ntmps = 16 by kernel_rfl) (show Tryd.f19.results.toList = [.tmp 2] by kernel_rfl) rfl ((F19_eq s w R).symm ▸ hF)

/- 20 pilaster/pilasterref39.List -/
noncomputable def c20 : Code := match Tryd.f20.body with
  | some c => c
  | none => .skip
def an20 : Ann := (.seq .leaf (.seq (.seq .leaf (.cond (.seq .leaf .leaf) .leaf)) (.seq .leaf (.seq (.seq .leaf (.blk (.loop [(4, .int .i64), (5, .int .i64)] (.seq (.seq .leaf (.cond .leaf .leaf)) (.seq (.blk .leaf) .leaf))))) (.seq (.seq .leaf (.cond (.seq .leaf .leaf) .leaf)) (.seq .leaf (.seq (.seq .leaf (.blk (.loop [(6, .sl), (7, .int .i64)] (.seq (.seq .leaf (.cond .leaf .leaf)) (.seq (.blk (.drawB 13 [(0, true), (1, true), (2, true), (3, true), (4, true), (5, true), (9, true), (10, true), (11, true), (12, true), (6, false), (7, true), (8, false)])) .leaf))))) (.seq .leaf .leaf))))))))
def F20 (la : Option Addr) (ll : Nat) (lc : Nat) (w : World) (R : Value → World → Prop) : Prop :=
  ifB (ltI (1000 : Int) ((ll : Nat) : Int))
  (R (.tuple ⟨[(.string (bs [])), (.int .i64 (5 : Int))]⟩) w)
  (∃ (Inv : Int → Int → World → Prop) (mu : Int → Int → World → Nat), (Inv (0 : Int) (0 : Int) w) ∧
  ∀ total : Int, ∀ i : Int, ∀ w1 : World, Inv total i w1 →
  ifB (ltI i ((ll : Nat) : Int))
  ((0 ≤ i ∧ i < ((ll : Nat) : Int)) ∧ derefP la fun ad => ∃ x : ByteArray, w1.cell? (Addr.add ad (Int.toNat i * 1)) = some (.string x) ∧ InI64 (total + ((x.size : Nat) : Int)) ∧ InI64 (i + (1 : Int)) ∧ (Inv (total + ((x.size : Nat) : Int)) (i + (1 : Int)) w1 ∧ mu (total + ((x.size : Nat) : Int)) (i + (1 : Int)) w1 < mu total i w1))
  (ifB (ltI (1048576 : Int) total)
  (R (.tuple ⟨[(.string (bs [])), (.int .i64 (5 : Int))]⟩) w1)
  (∃ (Inv_1 : Option Addr → Nat → Nat → Int → World → Prop) (mu_1 : Option Addr → Nat → Nat → Int → World → Nat), (Inv_1 none 0 0 (0 : Int) w1) ∧
  ∀ ba : Option Addr, ∀ bl : Nat, ∀ bc : Nat, ∀ i_1 : Int, ∀ w2 : World, Inv_1 ba bl bc i_1 w2 →
  ifB (ltI i_1 ((ll : Nat) : Int))
  (∀ w3 : World, w3 = w2.drew →
  ∃ B1 : Nat, (0 ≤ i_1 ∧ i_1 < ((ll : Nat) : Int)) ∧ derefP la fun ad_1 => Addr.block (Addr.add ad_1 (Int.toNat i_1 * 1)) < B1 ∧ ∃ x_1 : ByteArray, w3.cell? (Addr.add ad_1 (Int.toNat i_1 * 1)) = some (.string x_1) ∧ (0 ≤ i_1 ∧ i_1 < ((ll : Nat) : Int)) ∧ derefP la fun ad_2 => Addr.block (Addr.add ad_2 (Int.toNat i_1 * 1)) < B1 ∧ ∃ x_2 : ByteArray, w3.cell? (Addr.add ad_2 (Int.toNat i_1 * 1)) = some (.string x_2) ∧ (Calls Tryd.prog 29 #[(.int .i64 ((x_1.size : Nat) : Int))] w3 fun en w4 => ∃ x_3 : ByteArray, en = .returned (.string x_3) ∧ Below B1 w3 w4 ∧ x_3.size + (bs [58]).size ≤ 9223372036854775807 ∧ ∃ xa : Option Addr, ∃ xl : Nat, ∃ xc : Nat, ∃ w5 : World, Sem.run Tryd.prog (Builtin.append_ #[22, 9] 22 #[(.slice ba bl bc), (.string (x_3 ++ (bs [58])))]) w4 = .ok (.slice xa xl xc) w5 ∧ Below B1 w3 w5 ∧ ∃ ba_1 : Option Addr, ∃ bl_1 : Nat, ∃ bc_1 : Nat, ∃ w6 : World, Sem.run Tryd.prog (Builtin.append_ #[22, 9] 22 #[(.slice xa xl xc), (.string x_2)]) w5 = .ok (.slice ba_1 bl_1 bc_1) w6 ∧ InI64 (i_1 + (1 : Int)) ∧ (Inv_1 ba_1 bl_1 bc_1 (i_1 + (1 : Int)) w6 ∧ mu_1 ba_1 bl_1 bc_1 (i_1 + (1 : Int)) w6 < mu_1 ba bl bc i_1 w2)))
  ((Calls Tryd.prog 9 #[(.slice ba bl bc)] w2 fun en w7 => ∃ x_4 : ByteArray, en = .returned (.string x_4) ∧ R (.tuple ⟨[(.string x_4), (.int .i64 (0 : Int))]⟩) w7)))))
theorem F20_eq (la : Option Addr) (ll : Nat) (lc : Nat) (w : World) (R : Value → World → Prop) : fnVC true Tryd.prog TT FNS 48 [.tmp 2, .tmp 3] c20 an20 [(.slice la ll lc)] w none R = F20 la ll lc w R := by kernel_rfl
theorem call20 (la : Option Addr) (ll : Nat) (lc : Nat) (w : World) (R : Value → World → Prop) (hF : F20 la ll lc w R) : Calls Tryd.prog 20 #[(.slice la ll lc)] w fun e w' => ∃ v, e = .returned v ∧ R v w' :=
  fn_calls TTok FNSok mixed Tryd.func20 (show Tryd.f20.body = some c20 by kernel_rfl) (show Tryd.f20.ntmps = 48 by kernel_rfl) (show Tryd.f20.results.toList = [.tmp 2, .tmp 3] by kernel_rfl) rfl ((F20_eq la ll lc w R).symm ▸ hF)

/- 28 slices.IndexFunc[[]string,string] -/
noncomputable def c28 : Code := match Tryd.f28.body with
  | some c => c
  | none => .skip
def an28 : Ann := (.seq .leaf (.seq (.seq .leaf (.blk (.loop [(8, .int .i64)] (.seq .leaf (.seq (.cond .leaf .leaf) (.seq (.blk (.seq .leaf (.seq .leaf (.cond (.seq .leaf .leaf) .leaf)))) .leaf)))))) (.seq .leaf .leaf)))
def F28 (sa : Option Addr) (sl : Nat) (sc : Nat) (ff : FuncId) (fc : Array Value) (w : World) (R : Value → World → Prop) : Prop :=
  ∃ (Inv : Int → World → Prop) (mu : Int → World → Nat), (Inv (0 : Int) w) ∧
  ∀ v : Int, ∀ w1 : World, Inv v w1 →
  ifB (ltI v ((sl : Nat) : Int))
  ((0 ≤ v ∧ v < ((sl : Nat) : Int)) ∧ derefP sa fun ad => ∃ x : ByteArray, w1.cell? (Addr.add ad (Int.toNat v * 1)) = some (.string x) ∧ Enters Tryd.prog ff ∧ (Calls Tryd.prog ff ((⟨[(.string x)]⟩ : Array Value) ++ fc) w1 fun en w2 => ∃ x_1 : Bool, en = .returned (.bool x_1) ∧ ifB x_1
  (R (.int .i64 v) w2)
  (InI64 (v + (1 : Int)) ∧ (Inv (v + (1 : Int)) w2 ∧ mu (v + (1 : Int)) w2 < mu v w1))))
  (R (.int .i64 (-1 : Int)) w1)
theorem F28_eq (sa : Option Addr) (sl : Nat) (sc : Nat) (ff : FuncId) (fc : Array Value) (w : World) (R : Value → World → Prop) : fnVC true Tryd.prog TT FNS 19 [.tmp 4] c28 an28 [(.slice sa sl sc), (.func (.func ff) #[] fc)] w none R = F28 sa sl sc ff fc w R := by kernel_rfl
theorem call28 (sa : Option Addr) (sl : Nat) (sc : Nat) (ff : FuncId) (fc : Array Value) (w : World) (R : Value → World → Prop) (hF : F28 sa sl sc ff fc w R) : Calls Tryd.prog 28 #[(.slice sa sl sc), (.func (.func ff) #[] fc)] w fun e w' => ∃ v, e = .returned v ∧ R v w' :=
  fn_calls TTok FNSok mixed Tryd.func28 (show Tryd.f28.body = some c28 by kernel_rfl) (show Tryd.f28.ntmps = 19 by kernel_rfl) (show Tryd.f28.results.toList = [.tmp 4] by kernel_rfl) rfl ((F28_eq sa sl sc ff fc w R).symm ▸ hF)

/- 29 pilaster/pilasterref39.decimal -/
noncomputable def c29 : Code := match Tryd.f29.body with
  | some c => c
  | none => .skip
def an29 : Ann := (.seq .leaf (.seq .leaf (.seq (.seq .leaf (.cond (.seq .leaf .leaf) .leaf)) (.seq .leaf .leaf))))
def F29 (n : Int) (w : World) (R : Value → World → Prop) : Prop :=
  (10 : Int) ≠ 0 ∧ InI64 ((48 : Int) + (Int.tmod n (10 : Int))) ∧ ∀ w1 : World, w1 = w.alloc (.cells ⟨[(.int .u8 (IntKind.u8.wrap ((48 : Int) + (Int.tmod n (10 : Int)))))]⟩ 5) →
  ∃ s : ByteArray, ∃ w2 : World, Sem.run Tryd.prog (convert 22 9 (.slice (some ⟨w.heap.size, 0, none⟩) 1 1)) w1 = .ok (.string s) w2 ∧ ifB (leI (10 : Int) n)
  ((10 : Int) ≠ 0 ∧ InI64 (Int.tdiv n (10 : Int)) ∧ (Calls Tryd.prog 29 #[(.int .i64 (Int.tdiv n (10 : Int)))] w2 fun en w3 => ∃ x : ByteArray, en = .returned (.string x) ∧ x.size + s.size ≤ 9223372036854775807 ∧ R (.string (x ++ s)) w3))
  (R (.string s) w2)
theorem F29_eq (n : Int) (w : World) (R : Value → World → Prop) : fnVC true Tryd.prog TT FNS 18 [.tmp 2] c29 an29 [(.int .i64 n)] w none R = F29 n w R := by kernel_rfl
theorem call29 (n : Int) (w : World) (R : Value → World → Prop) (hF : F29 n w R) : Calls Tryd.prog 29 #[(.int .i64 n)] w fun e w' => ∃ v, e = .returned v ∧ R v w' :=
  fn_calls TTok FNSok mixed Tryd.func29 (show Tryd.f29.body = some c29 by kernel_rfl) (show Tryd.f29.ntmps = 18 by kernel_rfl) (show Tryd.f29.results.toList = [.tmp 2] by kernel_rfl) rfl ((F29_eq n w R).symm ▸ hF)
end Go.Proofs.YtmkcffflebdheaaDoor.Fl
