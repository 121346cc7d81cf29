/- Printed by a program (wip/tools/gen2.py): for each function its condition as a plain formula, and that the formula gives the call. -/
import Derived.Test.YtkocjbgdmocmlaaGreatDoorProg
import Derived.Test.YtkocjbgdmocmlaaGreatDoorVda
namespace Go.Proofs.YtkocjbgdmocmlaaGreatDoor.P98
open Go Go.Vc Go.RowKit
set_option maxRecDepth 100000
set_option linter.unusedVariables false
def TT : List TI := [
  ⟨0, .tuple #[], 1, 0, some (.tuple ⟨[]⟩), (.tup [])⟩,
  ⟨3, .int .i64, 1, 8, some (.int .i64 (0 : Int)), (.e (.one (.int .i64)))⟩,
  ⟨4, .bool, 1, 1, some (.bool false), (.e (.one (.bool)))⟩,
  ⟨9, .string, 1, 16, some (.string (bs [])), (.e (.one (.str)))⟩,
  ⟨22, .slice 9, 1, 24, some (.slice none 0 0), (.e (.one (.sl)))⟩,
  ⟨23, .slice 25, 1, 24, some (.slice none 0 0), (.e (.one (.sl)))⟩,
  ⟨25, .struct #[{ name := "Op", type := 3, offset := 0, embedded := false, tag := "", pkgPath := "", byteOffset := 0 }, { name := "N", type := 3, offset := 1, embedded := false, tag := "", pkgPath := "", byteOffset := 8 }, { name := "S", type := 9, offset := 2, embedded := false, tag := "", pkgPath := "", byteOffset := 16 }, { name := "Names", type := 22, offset := 3, embedded := false, tag := "", pkgPath := "", byteOffset := 32 }, { name := "L", type := 23, offset := 4, embedded := false, tag := "", pkgPath := "", byteOffset := 56 }], 5, 80, some (.agg ⟨[(.int .i64 (0 : Int)), (.int .i64 (0 : Int)), (.string (bs [])), (.slice none 0 0), (.slice none 0 0)]⟩), (.e (.agg [(.int .i64), (.int .i64), (.str), (.sl), (.sl)]))⟩,
  ⟨28, .int .i64, 1, 8, some (.int .i64 (0 : Int)), (.e (.one (.int .i64)))⟩,
  ⟨83, .map 9 22, 1, 8, some (.map none), (.e (.one (.map)))⟩,
  ⟨87, .func #[36] #[] false, 1, 8, some .nilFunc, (.e (.one (.fn)))⟩,
  ⟨98, .map 9 4, 1, 8, some (.map none), (.e (.one (.map)))⟩]
theorem TTok : TOk Tryz.prog TT := tok_of (by kernel_rfl)
def FNS : List Nat := [17, 19, 20, 22, 58, 60, 61, 66, 74, 109, 110, 112, 135, 137]
theorem FNSok : FOk Tryz.prog FNS := fok_of (by kernel_rfl)
theorem mixed : Tryz.prog.follows .mixedOrders = true := by kernel_rfl
def TCH : List Nat := [20, 22]

/- 98 maps.Keys[map[string]bool,string,bool] -/
noncomputable def c98 : Code := match Tryz.f98.body with
  | some c => c
  | none => .skip
noncomputable def cfg98 : Cfg := ⟨Tryz.prog, TT, FNS, [], [], [1], TCH, false, false⟩
def an98 : AnnG := (.seq .leaf (.seq .leaf .leaf))
def F98 (m : Option Nat) (g : G) (R : Value → G → Prop) : Prop :=
  ∀ g1 : G, NewL g g1 98 ([(.map m)] : List Value) →
  ∀ g2 : G, Ex g1 g2 →
  R (.func (.func 129) #[] ⟨[(.pointer (some ⟨g.w.heap.size, 0, none⟩))]⟩) g2
theorem F98_eq (m : Option Nat) (g : G) (R : Value → G → Prop) : fnG cfg98 4 [.tmp 2] c98 an98 [(.map m)] g nobody R = F98 m g R := by kernel_rfl
theorem call98 (m : Option Nat) (g : G) (R : Value → G → Prop) (hF : F98 m g R) : CallsG Tryz.prog 98 #[(.map m)] g nobody R :=
  fn_soundG (c := cfg98) TTok FNSok mixed Tryz.func98 (show Tryz.f98.body = some c98 by kernel_rfl) (show Tryz.f98.ntmps = 4 by kernel_rfl) (show Tryz.f98.results.toList = [.tmp 2] by kernel_rfl) rfl ((F98_eq m g R).mpr hF)

/- 75 maps.Keys[map[string][]string,string,[]string] -/
noncomputable def c75 : Code := match Tryz.f75.body with
  | some c => c
  | none => .skip
noncomputable def cfg75 : Cfg := ⟨Tryz.prog, TT, FNS, [], [], [1], TCH, false, false⟩
def an75 : AnnG := (.seq .leaf (.seq .leaf .leaf))
def F75 (m : Option Nat) (g : G) (R : Value → G → Prop) : Prop :=
  ∀ g1 : G, NewL g g1 83 ([(.map m)] : List Value) →
  ∀ g2 : G, Ex g1 g2 →
  R (.func (.func 113) #[] ⟨[(.pointer (some ⟨g.w.heap.size, 0, none⟩))]⟩) g2
theorem F75_eq (m : Option Nat) (g : G) (R : Value → G → Prop) : fnG cfg75 4 [.tmp 2] c75 an75 [(.map m)] g nobody R = F75 m g R := by kernel_rfl
theorem call75 (m : Option Nat) (g : G) (R : Value → G → Prop) (hF : F75 m g R) : CallsG Tryz.prog 75 #[(.map m)] g nobody R :=
  fn_soundG (c := cfg75) TTok FNSok mixed Tryz.func75 (show Tryz.f75.body = some c75 by kernel_rfl) (show Tryz.f75.ntmps = 4 by kernel_rfl) (show Tryz.f75.results.toList = [.tmp 2] by kernel_rfl) rfl ((F75_eq m g R).mpr hF)

/- 74 slices.Sorted[string] -/
noncomputable def c74 : Code := match Tryz.f74.body with
  | some c => c
  | none => .skip
noncomputable def cfg74 : Cfg := ⟨Tryz.prog, TT, FNS, [], [], [], TCH, false, false⟩
def an74 : AnnG := (.seq .leaf (.seq .leaf (.seq .leaf (.seq .leaf .leaf))))
def F74 (seqf : FuncId) (seqc : Array Value) (g : G) (R : Value → G → Prop) : Prop :=
  (CallsP Tryz.prog 112 #[(.func (.func seqf) #[] seqc)] g fun v g1 =>
  ∃ sa : Option Addr, ∃ sl : Nat, ∃ sc : Nat, v = (.slice sa sl sc) ∧ ∃ M1 : Nat → Prop, (∀ b, b < g.w.heap.size → M1 b → nobody b) ∧ (CallsG Tryz.prog 20 #[(.slice sa sl sc)] g1 M1 fun v g2 =>
  v = (.tuple ⟨[]⟩) ∧ ∀ g3 : G, Ex g2 g3 →
  R (.slice sa sl sc) g3))
theorem F74_eq (seqf : FuncId) (seqc : Array Value) (g : G) (R : Value → G → Prop) : fnG cfg74 9 [.tmp 2] c74 an74 [(.func (.func seqf) #[] seqc)] g nobody R = F74 seqf seqc g R := by kernel_rfl
theorem call74 (seqf : FuncId) (seqc : Array Value) (g : G) (R : Value → G → Prop) (hF : F74 seqf seqc g R) : CallsG Tryz.prog 74 #[(.func (.func seqf) #[] seqc)] g nobody R :=
  fn_soundG (c := cfg74) TTok FNSok mixed Tryz.func74 (show Tryz.f74.body = some c74 by kernel_rfl) (show Tryz.f74.ntmps = 9 by kernel_rfl) (show Tryz.f74.results.toList = [.tmp 2] by kernel_rfl) rfl ((F74_eq seqf seqc g R).mpr hF)

/- 112 slices.Collect[string] -/
noncomputable def c112 : Code := match Tryz.f112.body with
  | some c => c
  | none => .skip
noncomputable def cfg112 : Cfg := ⟨Tryz.prog, TT, FNS, [], [], [], TCH, false, false⟩
def an112 : AnnG := (.seq .leaf (.seq .leaf .leaf))
def F112 (seqf : FuncId) (seqc : Array Value) (g : G) (R : Value → G → Prop) : Prop :=
  (CallsP Tryz.prog 137 #[(.slice none 0 0), (.func (.func seqf) #[] seqc)] g fun v g1 =>
  ∃ xa : Option Addr, ∃ xl : Nat, ∃ xc : Nat, v = (.slice xa xl xc) ∧ ∀ g2 : G, Ex g1 g2 →
  R (.slice xa xl xc) g2)
theorem F112_eq (seqf : FuncId) (seqc : Array Value) (g : G) (R : Value → G → Prop) : fnG cfg112 5 [.tmp 2] c112 an112 [(.func (.func seqf) #[] seqc)] g nobody R = F112 seqf seqc g R := by kernel_rfl
theorem call112 (seqf : FuncId) (seqc : Array Value) (g : G) (R : Value → G → Prop) (hF : F112 seqf seqc g R) : CallsG Tryz.prog 112 #[(.func (.func seqf) #[] seqc)] g nobody R :=
  fn_soundG (c := cfg112) TTok FNSok mixed Tryz.func112 (show Tryz.f112.body = some c112 by kernel_rfl) (show Tryz.f112.ntmps = 5 by kernel_rfl) (show Tryz.f112.results.toList = [.tmp 2] by kernel_rfl) rfl ((F112_eq seqf seqc g R).mpr hF)

/- 135 slices.Values[[]string,string] -/
noncomputable def c135 : Code := match Tryz.f135.body with
  | some c => c
  | none => .skip
noncomputable def cfg135 : Cfg := ⟨Tryz.prog, TT, FNS, [], [], [1], TCH, false, false⟩
def an135 : AnnG := (.seq .leaf (.seq .leaf .leaf))
def F135 (sa : Option Addr) (sl : Nat) (sc : Nat) (g : G) (R : Value → G → Prop) : Prop :=
  ∀ g1 : G, NewL g g1 22 ([(.slice sa sl sc)] : List Value) →
  ∀ g2 : G, Ex g1 g2 →
  R (.func (.func 154) #[] ⟨[(.pointer (some ⟨g.w.heap.size, 0, none⟩))]⟩) g2
theorem F135_eq (sa : Option Addr) (sl : Nat) (sc : Nat) (g : G) (R : Value → G → Prop) : fnG cfg135 4 [.tmp 2] c135 an135 [(.slice sa sl sc)] g nobody R = F135 sa sl sc g R := by kernel_rfl
theorem call135 (sa : Option Addr) (sl : Nat) (sc : Nat) (g : G) (R : Value → G → Prop) (hF : F135 sa sl sc g R) : CallsG Tryz.prog 135 #[(.slice sa sl sc)] g nobody R :=
  fn_soundG (c := cfg135) TTok FNSok mixed Tryz.func135 (show Tryz.f135.body = some c135 by kernel_rfl) (show Tryz.f135.ntmps = 4 by kernel_rfl) (show Tryz.f135.results.toList = [.tmp 2] by kernel_rfl) rfl ((F135_eq sa sl sc g R).mpr hF)

/- 109 pilaster/scope.twice -/
noncomputable def c109 : Code := match Tryz.f109.body with
  | some c => c
  | none => .skip
noncomputable def cfg109 : Cfg := ⟨Tryz.prog, TT, FNS, [], [], [], TCH, false, false⟩
def an109 : AnnG := (.seq .leaf (.seq .leaf (.seq .leaf .leaf)))
def F109 (la : Option Addr) (ll : Nat) (lc : Nat) (g : G) (R : Value → G → Prop) : Prop :=
  (CallsP Tryz.prog 135 #[(.slice la ll lc)] g fun v g1 =>
  ∃ xf : FuncId, ∃ xc : Array Value, v = (.func (.func xf) #[] xc) ∧ (CallsP Tryz.prog 74 #[(.func (.func xf) #[] xc)] g1 fun v g2 =>
  ∃ la_1 : Option Addr, ∃ ll_1 : Nat, ∃ lc_1 : Nat, v = (.slice la_1 ll_1 lc_1) ∧ (CallsP Tryz.prog 17 #[(.slice la_1 ll_1 lc_1)] g2 fun v g3 =>
  ∃ xa : Option Addr, ∃ xl : Nat, ∃ xc_1 : Nat, v = (.slice xa xl xc_1) ∧ ∃ M1 : Nat → Prop, (∀ b, b < g.w.heap.size → M1 b → nobody b) ∧ (CallsG Tryz.prog 22 #[(.slice xa xl xc_1)] g3 M1 fun v g4 =>
  ∃ xa_1 : Option Addr, ∃ xl_1 : Nat, ∃ xc_2 : Nat, v = (.slice xa_1 xl_1 xc_2) ∧ ∀ g5 : G, Ex g4 g5 →
  R (.bool (!eqI ((xl_1 : Nat) : Int) ((ll_1 : Nat) : Int))) g5))))
theorem F109_eq (la : Option Addr) (ll : Nat) (lc : Nat) (g : G) (R : Value → G → Prop) : fnG cfg109 13 [.tmp 2] c109 an109 [(.slice la ll lc)] g nobody R = F109 la ll lc g R := by kernel_rfl
theorem call109 (la : Option Addr) (ll : Nat) (lc : Nat) (g : G) (R : Value → G → Prop) (hF : F109 la ll lc g R) : CallsG Tryz.prog 109 #[(.slice la ll lc)] g nobody R :=
  fn_soundG (c := cfg109) TTok FNSok mixed Tryz.func109 (show Tryz.f109.body = some c109 by kernel_rfl) (show Tryz.f109.ntmps = 13 by kernel_rfl) (show Tryz.f109.results.toList = [.tmp 2] by kernel_rfl) rfl ((F109_eq la ll lc g R).mpr hF)

/- 14 pilaster/scope.Binds -/
noncomputable def c14 : Code := match Tryz.f14.body with
  | some c => c
  | none => .skip
noncomputable def cfg14 : Cfg := ⟨Tryz.prog, TT, FNS, [1], [(1, 1), (6, 1)], [], TCH, false, false⟩
def an14 : AnnG := (.seq .leaf (.seq .leaf (.join ⟨[], [], []⟩ (.seq .leaf (.cond (.seq .leaf .leaf) .leaf)) (.seq .leaf (.seq .leaf (.seq .leaf .leaf))))))
def F14 (t0 : Int) (t1 : Int) (t2 : ByteArray) (t3a : Option Addr) (t3l : Nat) (t3c : Nat) (t4a : Option Addr) (t4l : Nat) (t4c : Nat) (g : G) (R : Value → G → Prop) : Prop :=
  ∀ g1 : G, Ex g g1 →
  (CallsP Tryz.prog 60 #[(.int .i64 t0)] g1 fun v g2 =>
  ∃ cat : Int, v = (.int .i64 cat) ∧ ∀ J : G → Prop,
  (∀ g3 : G, ((CallsP Tryz.prog 61 #[(.agg ⟨[(.int .i64 t0), (.int .i64 t1), (.string t2), (.slice t3a t3l t3c), (.slice t4a t4l t4c)]⟩)] g3 fun v g4 =>
  ∃ la : Option Addr, ∃ ll : Nat, ∃ lc : Nat, v = (.slice la ll lc) ∧ ∃ M2 : Nat → Prop, (∀ b, b < g.w.heap.size → M2 b → nobody b) ∧ (CallsG Tryz.prog 20 #[(.slice la ll lc)] g4 M2 fun v g5 =>
  v = (.tuple ⟨[]⟩) ∧ ∃ M1 : Nat → Prop, (∀ b, b < g.w.heap.size → M1 b → nobody b) ∧ (CallsG Tryz.prog 22 #[(.slice la ll lc)] g5 M1 fun v g6 =>
  ∃ xa : Option Addr, ∃ xl : Nat, ∃ xc : Nat, v = (.slice xa xl xc) ∧ ∀ g7 : G, Ex g6 g7 →
  R (.tuple ⟨[(.slice xa xl xc), (.int .i64 (0 : Int))]⟩) g7)))) → J g3) →
  ifB (!eqI cat (2 : Int))
  (ifB (!eqI cat (4 : Int))
  (ifB (!eqI cat (5 : Int))
  (∀ g8 : G, Ex g2 g8 →
  R (.tuple ⟨[(.slice none 0 0), (.int .i64 (1 : Int))]⟩) g8)
  ((CallsP Tryz.prog 58 #[(.int .i64 cat), (.agg ⟨[(.int .i64 t0), (.int .i64 t1), (.string t2), (.slice t3a t3l t3c), (.slice t4a t4l t4c)]⟩)] g2 fun v g9 =>
  ∃ x : Bool, v = (.bool x) ∧ ifB (!x)
  (∀ g10 : G, Ex g9 g10 →
  R (.tuple ⟨[(.slice none 0 0), (.int .i64 (1 : Int))]⟩) g10)
  (J g9))))
  ((CallsP Tryz.prog 58 #[(.int .i64 cat), (.agg ⟨[(.int .i64 t0), (.int .i64 t1), (.string t2), (.slice t3a t3l t3c), (.slice t4a t4l t4c)]⟩)] g2 fun v g11 =>
  ∃ x_1 : Bool, v = (.bool x_1) ∧ ifB (!x_1)
  (∀ g12 : G, Ex g11 g12 →
  R (.tuple ⟨[(.slice none 0 0), (.int .i64 (1 : Int))]⟩) g12)
  (J g11))))
  ((CallsP Tryz.prog 58 #[(.int .i64 cat), (.agg ⟨[(.int .i64 t0), (.int .i64 t1), (.string t2), (.slice t3a t3l t3c), (.slice t4a t4l t4c)]⟩)] g2 fun v g13 =>
  ∃ x_2 : Bool, v = (.bool x_2) ∧ ifB (!x_2)
  (∀ g14 : G, Ex g13 g14 →
  R (.tuple ⟨[(.slice none 0 0), (.int .i64 (1 : Int))]⟩) g14)
  (J g13))))
theorem F14_eq (t0 : Int) (t1 : Int) (t2 : ByteArray) (t3a : Option Addr) (t3l : Nat) (t3c : Nat) (t4a : Option Addr) (t4l : Nat) (t4c : Nat) (g : G) (R : Value → G → Prop) : fnG cfg14 31 [.tmp 2, .tmp 3] c14 an14 [(.agg ⟨[(.int .i64 t0), (.int .i64 t1), (.string t2), (.slice t3a t3l t3c), (.slice t4a t4l t4c)]⟩)] g nobody R = F14 t0 t1 t2 t3a t3l t3c t4a t4l t4c g R := by kernel_rfl
theorem call14 (t0 : Int) (t1 : Int) (t2 : ByteArray) (t3a : Option Addr) (t3l : Nat) (t3c : Nat) (t4a : Option Addr) (t4l : Nat) (t4c : Nat) (g : G) (R : Value → G → Prop) (hF : F14 t0 t1 t2 t3a t3l t3c t4a t4l t4c g R) : CallsG Tryz.prog 14 #[(.agg ⟨[(.int .i64 t0), (.int .i64 t1), (.string t2), (.slice t3a t3l t3c), (.slice t4a t4l t4c)]⟩)] g nobody R :=
  fn_soundG (c := cfg14) TTok FNSok mixed Tryz.func14 (show Tryz.f14.body = some c14 by kernel_rfl) (show Tryz.f14.ntmps = 31 by kernel_rfl) (show Tryz.f14.results.toList = [.tmp 2, .tmp 3] by kernel_rfl) rfl ((F14_eq t0 t1 t2 t3a t3l t3c t4a t4l t4c g R).mpr hF)

/- 110 pilaster/scope.variables -/
noncomputable def c110 : Code := match Tryz.f110.body with
  | some c => c
  | none => .skip
noncomputable def cfg110 : Cfg := ⟨Tryz.prog, TT, FNS, [1, 5], [(1, 1), (5, 5), (6, 1), (10, 1), (14, 1)], [], TCH, false, false⟩
def an110 : AnnG := (.seq .leaf (.seq .leaf (.join ⟨[(3, .sl)], [], []⟩ (.seq .leaf (.cond .leaf .leaf)) (.seq (.seq .leaf (.blk (.loop ⟨[(3, .sl), (17, .int .i64)], [], []⟩ (.seq .leaf (.seq (.cond .leaf .leaf) (.seq (.blk (.seq .leaf .leaf)) .leaf)))))) (.seq .leaf .leaf)))))
def F110 (t0 : Int) (t1 : Int) (t2 : ByteArray) (t3a : Option Addr) (t3l : Nat) (t3c : Nat) (t4a : Option Addr) (t4l : Nat) (t4c : Nat) (g : G) (R : Value → G → Prop) : Prop :=
  ∀ J : Option Addr → Nat → Nat → G → Prop,
  (∀ outa : Option Addr, ∀ outl : Nat, ∀ outc : Nat, ∀ g1 : G, (∃ Inv : Nat → Option Addr → Nat → Nat → Int → G → Prop, ((∃ m0 : Nat, Inv m0 outa outl outc (0 : Int) g1)) ∧
  ∀ m : Nat, ∀ outa_1 : Option Addr, ∀ outl_1 : Nat, ∀ outc_1 : Nat, ∀ v_1 : Int, ∀ g2 : G, Le g1 g2 → Inv m outa_1 outl_1 outc_1 v_1 g2 →
  ifB (ltI v_1 ((t4l : Nat) : Int))
  ((0 ≤ v_1 ∧ v_1 < ((t4l : Nat) : Int)) ∧ derefP t4a fun ad => ∃ x0 : Int, ∃ x1 : Int, ∃ x2 : ByteArray, ∃ x3a : Option Addr, ∃ x3l : Nat, ∃ x3c : Nat, ∃ x4a : Option Addr, ∃ x4l : Nat, ∃ x4c : Nat, g2.w.cell? (Addr.add ad (Int.toNat v_1 * 5)) = some (.int .i64 x0) ∧ g2.w.cell? (Addr.add (Addr.add ad (Int.toNat v_1 * 5)) 1) = some (.int .i64 x1) ∧ g2.w.cell? (Addr.add (Addr.add ad (Int.toNat v_1 * 5)) 2) = some (.string x2) ∧ g2.w.cell? (Addr.add (Addr.add ad (Int.toNat v_1 * 5)) 3) = some (.slice x3a x3l x3c) ∧ g2.w.cell? (Addr.add (Addr.add ad (Int.toNat v_1 * 5)) 4) = some (.slice x4a x4l x4c) ∧ ∀ g3 : G, Ex g2 g3 →
  (CallsP Tryz.prog 110 #[(.agg ⟨[(.int .i64 x0), (.int .i64 x1), (.string x2), (.slice x3a x3l x3c), (.slice x4a x4l x4c)]⟩)] g3 fun v g4 =>
  ∃ xa : Option Addr, ∃ xl : Nat, ∃ xc : Nat, v = (.slice xa xl xc) ∧ ∃ outa_2 : Option Addr, ∃ outl_2 : Nat, ∃ outc_2 : Nat, ∃ wo1 : World, Sem.run Tryz.prog (Builtin.append_ #[22, 22] 22 #[(.slice outa_1 outl_1 outc_1), (.slice xa xl xc)]) g4.w = .ok (.slice outa_2 outl_2 outc_2) wo1 ∧ ∃ g5 : G, g5.w = wo1 ∧ Stp g.w.heap.size nobody g4 g5 ∧ InI64 (v_1 + (1 : Int)) ∧ (∃ m_1 : Nat, m_1 < m ∧ Inv m_1 outa_2 outl_2 outc_2 (v_1 + (1 : Int)) g5)))
  (∀ g6 : G, Ex g2 g6 →
  R (.slice outa_1 outl_1 outc_1) g6)) → J outa outl outc g1) →
  ifB (eqI t0 (1 : Int))
  (∀ g7 : G, Ex g g7 →
  ∀ g8 : G, NewL g7 g8 9 [(.string t2)] →
  ∃ outa_3 : Option Addr, ∃ outl_3 : Nat, ∃ outc_3 : Nat, ∃ wo2 : World, Sem.run Tryz.prog (Builtin.append_ #[22, 22] 22 #[(.slice none 0 0), (.slice (some ⟨g7.w.heap.size, 0, none⟩) 1 1)]) g8.w = .ok (.slice outa_3 outl_3 outc_3) wo2 ∧ ∃ g9 : G, g9.w = wo2 ∧ Stp g.w.heap.size nobody g8 g9 ∧ J outa_3 outl_3 outc_3 g9)
  (∀ g10 : G, Ex g g10 →
  J none 0 0 g10)
theorem F110_eq (t0 : Int) (t1 : Int) (t2 : ByteArray) (t3a : Option Addr) (t3l : Nat) (t3c : Nat) (t4a : Option Addr) (t4l : Nat) (t4c : Nat) (g : G) (R : Value → G → Prop) : fnG cfg110 27 [.tmp 2] c110 an110 [(.agg ⟨[(.int .i64 t0), (.int .i64 t1), (.string t2), (.slice t3a t3l t3c), (.slice t4a t4l t4c)]⟩)] g nobody R = F110 t0 t1 t2 t3a t3l t3c t4a t4l t4c g R := by kernel_rfl
theorem call110 (t0 : Int) (t1 : Int) (t2 : ByteArray) (t3a : Option Addr) (t3l : Nat) (t3c : Nat) (t4a : Option Addr) (t4l : Nat) (t4c : Nat) (g : G) (R : Value → G → Prop) (hF : F110 t0 t1 t2 t3a t3l t3c t4a t4l t4c g R) : CallsG Tryz.prog 110 #[(.agg ⟨[(.int .i64 t0), (.int .i64 t1), (.string t2), (.slice t3a t3l t3c), (.slice t4a t4l t4c)]⟩)] g nobody R :=
  fn_soundG (c := cfg110) TTok FNSok mixed Tryz.func110 (show Tryz.f110.body = some c110 by kernel_rfl) (show Tryz.f110.ntmps = 27 by kernel_rfl) (show Tryz.f110.results.toList = [.tmp 2] by kernel_rfl) rfl ((F110_eq t0 t1 t2 t3a t3l t3c t4a t4l t4c g R).mpr hF)

/- 66 pilaster/scope.check -/
noncomputable def c66 : Code := match Tryz.f66.body with
  | some c => c
  | none => .skip
noncomputable def cfg66 : Cfg := ⟨Tryz.prog, TT, FNS, [3, 10, 12], [(3, 3), (10, 10), (12, 12), (14, 3), (18, 3), (30, 3), (38, 3), (43, 3), (58, 3), (67, 3), (73, 3), (81, 3), (87, 3), (93, 3), (99, 3)], [], TCH, false, false⟩
def an66 : AnnG := (.seq .leaf (.seq .leaf (.join ⟨[(7, .bool)], [], []⟩ (.seq .leaf (.blk (.seq .leaf (.cond .leaf (.seq .leaf (.cond .leaf (.seq .leaf (.cond (.seq .leaf (.seq (.seq .leaf (.blk (.loop ⟨[(8, .sl), (46, .int .i64)], [], []⟩ (.seq .leaf (.seq (.cond .leaf .leaf) (.seq (.blk (.seq .leaf .leaf)) .leaf)))))) .leaf)) .leaf)))))))) (.seq (.seq .leaf (.cond (.seq .leaf .leaf) .leaf)) (.join ⟨[], [], []⟩ (.seq .leaf (.cond (.seq .leaf .leaf) .leaf)) (.join ⟨[(2, .sl)], [], []⟩ (.seq .leaf (.blk (.join ⟨[(83, .bool)], [], []⟩ (.seq .leaf (.cond .leaf .leaf)) (.cond .leaf (.seq .leaf (.cond .leaf .leaf)))))) (.seq (.seq .leaf (.blk (.loop ⟨[(102, .int .i64)], [], []⟩ (.seq .leaf (.seq (.cond .leaf .leaf) (.seq (.blk (.seq .leaf (.seq .leaf (.seq .leaf (.cond (.seq .leaf .leaf) .leaf))))) .leaf)))))) (.seq .leaf .leaf))))))))
def F66 (t0 : Int) (t1 : Int) (t2 : ByteArray) (t3a : Option Addr) (t3l : Nat) (t3c : Nat) (t4a : Option Addr) (t4l : Nat) (t4c : Nat) (root : Bool) (varsa : Option Addr) (varsl : Nat) (varsc : Nat) (g : G) (R : Value → G → Prop) : Prop :=
  ∀ J : Bool → G → Prop,
  (∀ bad : Bool, ∀ g1 : G, (ifB bad
  (∀ g2 : G, Ex g1 g2 →
  R (.int .i64 (9 : Int)) g2)
  (∀ J_1 : G → Prop,
  (∀ g3 : G, (∀ J_2 : Option Addr → Nat → Nat → G → Prop,
  (∀ varsa_1 : Option Addr, ∀ varsl_1 : Nat, ∀ varsc_1 : Nat, ∀ g4 : G, (∃ Inv : Nat → Int → G → Prop, ((∃ m0 : Nat, Inv m0 (0 : Int) g4)) ∧
  ∀ m : Nat, ∀ v_1 : Int, ∀ g5 : G, Le g4 g5 → Inv m v_1 g5 →
  ifB (ltI v_1 ((t4l : Nat) : Int))
  ((0 ≤ v_1 ∧ v_1 < ((t4l : Nat) : Int)) ∧ derefP t4a fun ad => ∃ x0 : Int, ∃ x1 : Int, ∃ x2 : ByteArray, ∃ x3a : Option Addr, ∃ x3l : Nat, ∃ x3c : Nat, ∃ x4a : Option Addr, ∃ x4l : Nat, ∃ x4c : Nat, g5.w.cell? (Addr.add ad (Int.toNat v_1 * 5)) = some (.int .i64 x0) ∧ g5.w.cell? (Addr.add (Addr.add ad (Int.toNat v_1 * 5)) 1) = some (.int .i64 x1) ∧ g5.w.cell? (Addr.add (Addr.add ad (Int.toNat v_1 * 5)) 2) = some (.string x2) ∧ g5.w.cell? (Addr.add (Addr.add ad (Int.toNat v_1 * 5)) 3) = some (.slice x3a x3l x3c) ∧ g5.w.cell? (Addr.add (Addr.add ad (Int.toNat v_1 * 5)) 4) = some (.slice x4a x4l x4c) ∧ ∀ g6 : G, Ex g5 g6 →
  (CallsP Tryz.prog 66 #[(.agg ⟨[(.int .i64 x0), (.int .i64 x1), (.string x2), (.slice x3a x3l x3c), (.slice x4a x4l x4c)]⟩), (.bool false), (.slice varsa_1 varsl_1 varsc_1)] g6 fun v g7 =>
  ∃ e : Int, v = (.int .i64 e) ∧ ifB (!eqI e (0 : Int))
  (∀ g8 : G, Ex g7 g8 →
  R (.int .i64 e) g8)
  (InI64 (v_1 + (1 : Int)) ∧ (∃ m_1 : Nat, m_1 < m ∧ Inv m_1 (v_1 + (1 : Int)) g7))))
  (∀ g9 : G, Ex g5 g9 →
  R (.int .i64 (0 : Int)) g9)) → J_2 varsa_1 varsl_1 varsc_1 g4) →
  ∀ J_3 : Bool → G → Prop,
  (∀ v_2 : Bool, ∀ g10 : G, (ifB v_2
  (∀ g11 : G, NewL g10 g11 9 [(.string (bs []))] →
  ∃ varsa_2 : Option Addr, ∃ varsl_2 : Nat, ∃ varsc_2 : Nat, ∃ wo1 : World, Sem.run Tryz.prog (Builtin.append_ #[22, 22] 22 #[(.slice (some ⟨g10.w.heap.size, 0, none⟩) 1 1), (.slice t3a t3l t3c)]) g11.w = .ok (.slice varsa_2 varsl_2 varsc_2) wo1 ∧ ∃ g12 : G, g12.w = wo1 ∧ Stp g.w.heap.size nobody g11 g12 ∧ J_2 varsa_2 varsl_2 varsc_2 g12)
  (ifB (eqI t0 (61 : Int))
  (∀ g13 : G, NewL g10 g13 9 [(.string (bs []))] →
  (0 ≤ (0 : Int) ∧ (0 : Int) < ((t4l : Nat) : Int)) ∧ derefP t4a fun ad_1 => ∃ x0_1 : Int, ∃ x1_1 : Int, ∃ x2_1 : ByteArray, ∃ x3a_1 : Option Addr, ∃ x3l_1 : Nat, ∃ x3c_1 : Nat, ∃ x4a_1 : Option Addr, ∃ x4l_1 : Nat, ∃ x4c_1 : Nat, g13.w.cell? (Addr.add ad_1 (Int.toNat (0 : Int) * 5)) = some (.int .i64 x0_1) ∧ g13.w.cell? (Addr.add (Addr.add ad_1 (Int.toNat (0 : Int) * 5)) 1) = some (.int .i64 x1_1) ∧ g13.w.cell? (Addr.add (Addr.add ad_1 (Int.toNat (0 : Int) * 5)) 2) = some (.string x2_1) ∧ g13.w.cell? (Addr.add (Addr.add ad_1 (Int.toNat (0 : Int) * 5)) 3) = some (.slice x3a_1 x3l_1 x3c_1) ∧ g13.w.cell? (Addr.add (Addr.add ad_1 (Int.toNat (0 : Int) * 5)) 4) = some (.slice x4a_1 x4l_1 x4c_1) ∧ (CallsP Tryz.prog 110 #[(.agg ⟨[(.int .i64 x0_1), (.int .i64 x1_1), (.string x2_1), (.slice x3a_1 x3l_1 x3c_1), (.slice x4a_1 x4l_1 x4c_1)]⟩)] g13 fun v g14 =>
  ∃ xa : Option Addr, ∃ xl : Nat, ∃ xc : Nat, v = (.slice xa xl xc) ∧ ∃ varsa_3 : Option Addr, ∃ varsl_3 : Nat, ∃ varsc_3 : Nat, ∃ wo2 : World, Sem.run Tryz.prog (Builtin.append_ #[22, 22] 22 #[(.slice (some ⟨g10.w.heap.size, 0, none⟩) 1 1), (.slice xa xl xc)]) g14.w = .ok (.slice varsa_3 varsl_3 varsc_3) wo2 ∧ ∃ g15 : G, g15.w = wo2 ∧ Stp g.w.heap.size nobody g14 g15 ∧ J_2 varsa_3 varsl_3 varsc_3 g15))
  (J_2 varsa varsl varsc g10))) → J_3 v_2 g10) →
  ifB (eqI t0 (43 : Int))
  (J_3 true g3)
  (J_3 (eqI t0 (44 : Int)) g3)) → J_1 g3) →
  ifB (eqI t0 (1 : Int))
  (ifB (!varsa.isNone)
  ((CallsP Tryz.prog 19 #[(.slice varsa varsl varsc), (.string t2)] g1 fun v g16 =>
  ∃ x : Bool, v = (.bool x) ∧ ifB (!x)
  (∀ g17 : G, Ex g16 g17 →
  R (.int .i64 (10 : Int)) g17)
  (ifB (eqI t0 (1 : Int))
  (ifB varsa.isNone
  (∀ g18 : G, Ex g16 g18 →
  R (.int .i64 (10 : Int)) g18)
  (J_1 g16))
  (J_1 g16))))
  (ifB (eqI t0 (1 : Int))
  (ifB varsa.isNone
  (∀ g19 : G, Ex g1 g19 →
  R (.int .i64 (10 : Int)) g19)
  (J_1 g1))
  (J_1 g1)))
  (ifB (eqI t0 (1 : Int))
  (ifB varsa.isNone
  (∀ g20 : G, Ex g1 g20 →
  R (.int .i64 (10 : Int)) g20)
  (J_1 g1))
  (J_1 g1)))) → J bad g1) →
  ifB (eqI t0 (30 : Int))
  ((0 ≤ (0 : Int) ∧ (0 : Int) < ((t4l : Nat) : Int)) ∧ derefP t4a fun ad_2 => ∀ g21 : G, Ex g g21 →
  ∃ x0_2 : Int, ∃ x1_2 : Int, ∃ x2_2 : ByteArray, ∃ x3a_2 : Option Addr, ∃ x3l_2 : Nat, ∃ x3c_2 : Nat, ∃ x4a_2 : Option Addr, ∃ x4l_2 : Nat, ∃ x4c_2 : Nat, g21.w.cell? (Addr.add ad_2 (Int.toNat (0 : Int) * 5)) = some (.int .i64 x0_2) ∧ g21.w.cell? (Addr.add (Addr.add ad_2 (Int.toNat (0 : Int) * 5)) 1) = some (.int .i64 x1_2) ∧ g21.w.cell? (Addr.add (Addr.add ad_2 (Int.toNat (0 : Int) * 5)) 2) = some (.string x2_2) ∧ g21.w.cell? (Addr.add (Addr.add ad_2 (Int.toNat (0 : Int) * 5)) 3) = some (.slice x3a_2 x3l_2 x3c_2) ∧ g21.w.cell? (Addr.add (Addr.add ad_2 (Int.toNat (0 : Int) * 5)) 4) = some (.slice x4a_2 x4l_2 x4c_2) ∧ (CallsP Tryz.prog 61 #[(.agg ⟨[(.int .i64 x0_2), (.int .i64 x1_2), (.string x2_2), (.slice x3a_2 x3l_2 x3c_2), (.slice x4a_2 x4l_2 x4c_2)]⟩)] g21 fun v g22 =>
  ∃ xa_1 : Option Addr, ∃ xl_1 : Nat, ∃ xc_1 : Nat, v = (.slice xa_1 xl_1 xc_1) ∧ (CallsP Tryz.prog 109 #[(.slice xa_1 xl_1 xc_1)] g22 fun v g23 =>
  ∃ bad_1 : Bool, v = (.bool bad_1) ∧ J bad_1 g23)))
  (ifB (eqI t0 (42 : Int))
  (∀ g24 : G, Ex g g24 →
  (CallsP Tryz.prog 109 #[(.slice t3a t3l t3c)] g24 fun v g25 =>
  ∃ bad_2 : Bool, v = (.bool bad_2) ∧ J bad_2 g25))
  (ifB (eqI t0 (71 : Int))
  (∃ Inv_1 : Nat → Option Addr → Nat → Nat → Int → G → Prop, (∀ g26 : G, Ex g g26 →
  (∃ m0 : Nat, Inv_1 m0 none 0 0 (0 : Int) g26)) ∧
  ∀ m_2 : Nat, ∀ alla : Option Addr, ∀ alll : Nat, ∀ allc : Nat, ∀ v_3 : Int, ∀ g27 : G, Le g g27 → Inv_1 m_2 alla alll allc v_3 g27 →
  ifB (ltI v_3 ((t4l : Nat) : Int))
  ((0 ≤ v_3 ∧ v_3 < ((t4l : Nat) : Int)) ∧ derefP t4a fun ad_3 => ∃ x0_3 : Int, ∃ x1_3 : Int, ∃ x2_3 : ByteArray, ∃ x3a_3 : Option Addr, ∃ x3l_3 : Nat, ∃ x3c_3 : Nat, ∃ x4a_3 : Option Addr, ∃ x4l_3 : Nat, ∃ x4c_3 : Nat, g27.w.cell? (Addr.add ad_3 (Int.toNat v_3 * 5)) = some (.int .i64 x0_3) ∧ g27.w.cell? (Addr.add (Addr.add ad_3 (Int.toNat v_3 * 5)) 1) = some (.int .i64 x1_3) ∧ g27.w.cell? (Addr.add (Addr.add ad_3 (Int.toNat v_3 * 5)) 2) = some (.string x2_3) ∧ g27.w.cell? (Addr.add (Addr.add ad_3 (Int.toNat v_3 * 5)) 3) = some (.slice x3a_3 x3l_3 x3c_3) ∧ g27.w.cell? (Addr.add (Addr.add ad_3 (Int.toNat v_3 * 5)) 4) = some (.slice x4a_3 x4l_3 x4c_3) ∧ ∀ g28 : G, Ex g27 g28 →
  (CallsP Tryz.prog 61 #[(.agg ⟨[(.int .i64 x0_3), (.int .i64 x1_3), (.string x2_3), (.slice x3a_3 x3l_3 x3c_3), (.slice x4a_3 x4l_3 x4c_3)]⟩)] g28 fun v g29 =>
  ∃ xa_2 : Option Addr, ∃ xl_2 : Nat, ∃ xc_2 : Nat, v = (.slice xa_2 xl_2 xc_2) ∧ ∃ alla_1 : Option Addr, ∃ alll_1 : Nat, ∃ allc_1 : Nat, ∃ wo3 : World, Sem.run Tryz.prog (Builtin.append_ #[22, 22] 22 #[(.slice alla alll allc), (.slice xa_2 xl_2 xc_2)]) g29.w = .ok (.slice alla_1 alll_1 allc_1) wo3 ∧ ∃ g30 : G, g30.w = wo3 ∧ Stp g.w.heap.size nobody g29 g30 ∧ InI64 (v_3 + (1 : Int)) ∧ (∃ m_3 : Nat, m_3 < m_2 ∧ Inv_1 m_3 alla_1 alll_1 allc_1 (v_3 + (1 : Int)) g30)))
  ((CallsP Tryz.prog 109 #[(.slice alla alll allc)] g27 fun v g31 =>
  ∃ bad_3 : Bool, v = (.bool bad_3) ∧ J bad_3 g31)))
  (ifB root
  (∀ g32 : G, Ex g g32 →
  (CallsP Tryz.prog 60 #[(.int .i64 t0)] g32 fun v g33 =>
  ∃ x_1 : Int, v = (.int .i64 x_1) ∧ ifB (eqI x_1 (2 : Int))
  ((CallsP Tryz.prog 61 #[(.agg ⟨[(.int .i64 t0), (.int .i64 t1), (.string t2), (.slice t3a t3l t3c), (.slice t4a t4l t4c)]⟩)] g33 fun v g34 =>
  ∃ xa_3 : Option Addr, ∃ xl_3 : Nat, ∃ xc_3 : Nat, v = (.slice xa_3 xl_3 xc_3) ∧ (CallsP Tryz.prog 109 #[(.slice xa_3 xl_3 xc_3)] g34 fun v g35 =>
  ∃ x_2 : Bool, v = (.bool x_2) ∧ J x_2 g35)))
  (J false g33)))
  (∀ g36 : G, Ex g g36 →
  J false g36))))
theorem F66_eq (t0 : Int) (t1 : Int) (t2 : ByteArray) (t3a : Option Addr) (t3l : Nat) (t3c : Nat) (t4a : Option Addr) (t4l : Nat) (t4c : Nat) (root : Bool) (varsa : Option Addr) (varsl : Nat) (varsc : Nat) (g : G) (R : Value → G → Prop) : fnG cfg66 113 [.tmp 6] c66 an66 [(.agg ⟨[(.int .i64 t0), (.int .i64 t1), (.string t2), (.slice t3a t3l t3c), (.slice t4a t4l t4c)]⟩), (.bool root), (.slice varsa varsl varsc)] g nobody R = F66 t0 t1 t2 t3a t3l t3c t4a t4l t4c root varsa varsl varsc g R := by kernel_rfl
theorem call66 (t0 : Int) (t1 : Int) (t2 : ByteArray) (t3a : Option Addr) (t3l : Nat) (t3c : Nat) (t4a : Option Addr) (t4l : Nat) (t4c : Nat) (root : Bool) (varsa : Option Addr) (varsl : Nat) (varsc : Nat) (g : G) (R : Value → G → Prop) (hF : F66 t0 t1 t2 t3a t3l t3c t4a t4l t4c root varsa varsl varsc g R) : CallsG Tryz.prog 66 #[(.agg ⟨[(.int .i64 t0), (.int .i64 t1), (.string t2), (.slice t3a t3l t3c), (.slice t4a t4l t4c)]⟩), (.bool root), (.slice varsa varsl varsc)] g nobody R :=
  fn_soundG (c := cfg66) TTok FNSok mixed Tryz.func66 (show Tryz.f66.body = some c66 by kernel_rfl) (show Tryz.f66.ntmps = 113 by kernel_rfl) (show Tryz.f66.results.toList = [.tmp 6] by kernel_rfl) rfl ((F66_eq t0 t1 t2 t3a t3l t3c t4a t4l t4c root varsa varsl varsc g R).mpr hF)

/- 23 pilaster/scope.Check -/
noncomputable def c23 : Code := match Tryz.f23.body with
  | some c => c
  | none => .skip
noncomputable def cfg23 : Cfg := ⟨Tryz.prog, TT, FNS, [3], [(3, 3)], [], TCH, false, false⟩
def an23 : AnnG := (.seq .leaf (.seq (.seq .leaf (.cond (.seq .leaf .leaf) .leaf)) (.seq .leaf .leaf)))
def F23 (cat : Int) (t0 : Int) (t1 : Int) (t2 : ByteArray) (t3a : Option Addr) (t3l : Nat) (t3c : Nat) (t4a : Option Addr) (t4l : Nat) (t4c : Nat) (g : G) (R : Value → G → Prop) : Prop :=
  ∀ g1 : G, Ex g g1 →
  (CallsP Tryz.prog 58 #[(.int .i64 cat), (.agg ⟨[(.int .i64 t0), (.int .i64 t1), (.string t2), (.slice t3a t3l t3c), (.slice t4a t4l t4c)]⟩)] g1 fun v g2 =>
  ∃ x : Bool, v = (.bool x) ∧ ifB (!x)
  (∀ g3 : G, Ex g2 g3 →
  R (.int .i64 (1 : Int)) g3)
  ((CallsP Tryz.prog 66 #[(.agg ⟨[(.int .i64 t0), (.int .i64 t1), (.string t2), (.slice t3a t3l t3c), (.slice t4a t4l t4c)]⟩), (.bool true), (.slice none 0 0)] g2 fun v g4 =>
  ∃ x_1 : Int, v = (.int .i64 x_1) ∧ ∀ g5 : G, Ex g4 g5 →
  R (.int .i64 x_1) g5)))
theorem F23_eq (cat : Int) (t0 : Int) (t1 : Int) (t2 : ByteArray) (t3a : Option Addr) (t3l : Nat) (t3c : Nat) (t4a : Option Addr) (t4l : Nat) (t4c : Nat) (g : G) (R : Value → G → Prop) : fnG cfg23 11 [.tmp 4] c23 an23 [(.int .i64 cat), (.agg ⟨[(.int .i64 t0), (.int .i64 t1), (.string t2), (.slice t3a t3l t3c), (.slice t4a t4l t4c)]⟩)] g nobody R = F23 cat t0 t1 t2 t3a t3l t3c t4a t4l t4c g R := by kernel_rfl
theorem call23 (cat : Int) (t0 : Int) (t1 : Int) (t2 : ByteArray) (t3a : Option Addr) (t3l : Nat) (t3c : Nat) (t4a : Option Addr) (t4l : Nat) (t4c : Nat) (g : G) (R : Value → G → Prop) (hF : F23 cat t0 t1 t2 t3a t3l t3c t4a t4l t4c g R) : CallsG Tryz.prog 23 #[(.int .i64 cat), (.agg ⟨[(.int .i64 t0), (.int .i64 t1), (.string t2), (.slice t3a t3l t3c), (.slice t4a t4l t4c)]⟩)] g nobody R :=
  fn_soundG (c := cfg23) TTok FNSok mixed Tryz.func23 (show Tryz.f23.body = some c23 by kernel_rfl) (show Tryz.f23.ntmps = 11 by kernel_rfl) (show Tryz.f23.results.toList = [.tmp 4] by kernel_rfl) rfl ((F23_eq cat t0 t1 t2 t3a t3l t3c t4a t4l t4c g R).mpr hF)
end Go.Proofs.YtkocjbgdmocmlaaGreatDoor.P98
