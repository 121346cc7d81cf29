/- Printed by a program (wip/tools/gen2.py): for each function its condition as a plain formula, and that the formula gives the call. -/
import Derived.Test.YtkocjbgdmocmlaaGreatDoorProg
import Derived.Test.YtkocjbgdmocmlaaGreatDoorVda
namespace Go.Proofs.YtkocjbgdmocmlaaGreatDoor.PL3
open Go Go.Vc Go.RowKit
set_option maxRecDepth 100000
set_option linter.unusedVariables false
def TT : List TI := [
  ⟨0, .tuple #[], 1, 0, some (.tuple ⟨[]⟩), (.tup [])⟩,
  ⟨3, .int .i64, 1, 8, some (.int .i64 (0 : Int)), (.e (.one (.int .i64)))⟩,
  ⟨4, .bool, 1, 1, some (.bool false), (.e (.one (.bool)))⟩,
  ⟨9, .string, 1, 16, some (.string (bs [])), (.e (.one (.str)))⟩,
  ⟨22, .slice 9, 1, 24, some (.slice none 0 0), (.e (.one (.sl)))⟩,
  ⟨23, .slice 25, 1, 24, some (.slice none 0 0), (.e (.one (.sl)))⟩,
  ⟨25, .struct #[{ name := "Op", type := 3, offset := 0, embedded := false, tag := "", pkgPath := "", byteOffset := 0 }, { name := "N", type := 3, offset := 1, embedded := false, tag := "", pkgPath := "", byteOffset := 8 }, { name := "S", type := 9, offset := 2, embedded := false, tag := "", pkgPath := "", byteOffset := 16 }, { name := "Names", type := 22, offset := 3, embedded := false, tag := "", pkgPath := "", byteOffset := 32 }, { name := "L", type := 23, offset := 4, embedded := false, tag := "", pkgPath := "", byteOffset := 56 }], 5, 80, some (.agg ⟨[(.int .i64 (0 : Int)), (.int .i64 (0 : Int)), (.string (bs [])), (.slice none 0 0), (.slice none 0 0)]⟩), (.e (.agg [(.int .i64), (.int .i64), (.str), (.sl), (.sl)]))⟩,
  ⟨28, .int .i64, 1, 8, some (.int .i64 (0 : Int)), (.e (.one (.int .i64)))⟩,
  ⟨29, .tuple #[22, 28], 1, 0, some (.tuple ⟨[(.slice none 0 0), (.int .i64 (0 : Int))]⟩), (.tup [(.one (.sl)), (.one (.int .i64))])⟩,
  ⟨74, .slice 22, 1, 24, some (.slice none 0 0), (.e (.one (.sl)))⟩]
theorem TTok : TOk Tryz.prog TT := tok_of (by kernel_rfl)
def FNS : List Nat := [11, 12, 13, 14, 15, 16, 17, 19, 20, 21, 22, 62]
theorem FNSok : FOk Tryz.prog FNS := fok_of (by kernel_rfl)
theorem mixed : Tryz.prog.follows .mixedOrders = true := by kernel_rfl
def TCH : List Nat := [12, 16, 20, 22]

/- 3 pilaster/pilasterlaw07.ScopeLets -/
noncomputable def c3 : Code := match Tryz.f3.body with
  | some c => c
  | none => .skip
noncomputable def cfg3 : Cfg := ⟨Tryz.prog, TT, FNS, [2, 3, 5], [(2, 2), (3, 3), (5, 5)], [10], TCH, false, false⟩
def an3 : AnnG := (.seq .leaf (.seq (.seq .leaf (.cond (.seq .leaf .leaf) .leaf)) (.seq (.seq .leaf (.cond (.seq .leaf .leaf) .leaf)) (.seq .leaf (.seq .leaf (.seq (.seq .leaf (.cond (.seq .leaf .leaf) .leaf)) (.seq .leaf (.seq .leaf (.seq .leaf (.join ⟨[], [], []⟩ (.seq .leaf (.cond (.seq .leaf .leaf) .leaf)) (.seq .leaf (.seq .leaf (.seq .leaf .leaf)))))))))))))
def F3 (d0 : Int) (d1 : Int) (d2 : ByteArray) (d3a : Option Addr) (d3l : Nat) (d3c : Nat) (d4a : Option Addr) (d4l : Nat) (d4c : Nat) (t0 : Int) (t1 : Int) (t2 : ByteArray) (t3a : Option Addr) (t3l : Nat) (t3c : Nat) (t4a : Option Addr) (t4l : Nat) (t4c : Nat) (g : G) (R : Value → G → Prop) : Prop :=
  ∀ g1 : G, Ex g g1 →
  (CallsP Tryz.prog 11 #[] g1 fun v g2 =>
  ∃ x : Bool, v = (.bool x) ∧ ifB (!x)
  (∀ g3 : G, Ex g2 g3 →
  R (.bool false) g3)
  (∀ g4 : G, NewL g2 g4 25 [(.int .i64 d0), (.int .i64 d1), (.string d2), (.slice d3a d3l d3c), (.slice d4a d4l d4c), (.int .i64 t0), (.int .i64 t1), (.string t2), (.slice t3a t3l t3c), (.slice t4a t4l t4c)] →
  ∃ M4 : Nat → Prop, (∀ b, b < g.w.heap.size → M4 b → nobody b) ∧ (CallsG Tryz.prog 12 #[(.slice (some ⟨g2.w.heap.size, 0, none⟩) 2 2)] g4 M4 fun v g5 =>
  ∃ x_1 : Bool, v = (.bool x_1) ∧ ifB (!x_1)
  (∀ g6 : G, Ex g5 g6 →
  R (.bool true) g6)
  (∀ g7 : G, NewL g5 g7 25 [(.int .i64 d0), (.int .i64 d1), (.string d2), (.slice d3a d3l d3c), (.slice d4a d4l d4c), (.int .i64 t0), (.int .i64 t1), (.string t2), (.slice t3a t3l t3c), (.slice t4a t4l t4c)] →
  ∀ g8 : G, Ex g7 g8 →
  (CallsP Tryz.prog 13 #[(.int .i64 (3 : Int)), (.agg ⟨[(.int .i64 (31 : Int)), (.int .i64 (0 : Int)), (.string (bs [])), (.slice none 0 0), (.slice (some ⟨g5.w.heap.size, 0, none⟩) 2 2)]⟩)] g8 fun v g9 =>
  ∃ x0a : Option Addr, ∃ x0l : Nat, ∃ x0c : Nat, ∃ x1 : Int, v = (.tuple ⟨[(.slice x0a x0l x0c), (.int .i64 x1)]⟩) ∧ ifB (!eqI x1 (0 : Int))
  (∀ g10 : G, Ex g9 g10 →
  R (.bool (eqI ((x0l : Nat) : Int) (0 : Int))) g10)
  ((CallsP Tryz.prog 13 #[(.int .i64 (4 : Int)), (.agg ⟨[(.int .i64 d0), (.int .i64 d1), (.string d2), (.slice d3a d3l d3c), (.slice d4a d4l d4c)]⟩)] g9 fun v g11 =>
  ∃ x0a_1 : Option Addr, ∃ x0l_1 : Nat, ∃ x0c_1 : Nat, ∃ x1_1 : Int, v = (.tuple ⟨[(.slice x0a_1 x0l_1 x0c_1), (.int .i64 x1_1)]⟩) ∧ (CallsP Tryz.prog 14 #[(.agg ⟨[(.int .i64 d0), (.int .i64 d1), (.string d2), (.slice d3a d3l d3c), (.slice d4a d4l d4c)]⟩)] g11 fun v g12 =>
  ∃ x0a_2 : Option Addr, ∃ x0l_2 : Nat, ∃ x0c_2 : Nat, ∃ x1_2 : Int, v = (.tuple ⟨[(.slice x0a_2 x0l_2 x0c_2), (.int .i64 x1_2)]⟩) ∧ ∀ g13 : G, NewD g12 g13 22 [(.slice none 0 0)] →
  stOk g13.w ⟨g12.w.heap.size, 0, none⟩ 1 ∧ ¬ g13.X (Addr.block ⟨g12.w.heap.size, 0, none⟩) ∧ mutAt g13 ⟨g12.w.heap.size, 0, none⟩ 1 ∧ ((Addr.block ⟨g12.w.heap.size, 0, none⟩) < g.w.heap.size → nobody (Addr.block ⟨g12.w.heap.size, 0, none⟩)) ∧ ∀ g14 : G, StG true g13 ⟨g12.w.heap.size, 0, none⟩ [(.slice x0a_2 x0l_2 x0c_2)] g14 →
  (CallsP Tryz.prog 13 #[(.int .i64 (3 : Int)), (.agg ⟨[(.int .i64 t0), (.int .i64 t1), (.string t2), (.slice t3a t3l t3c), (.slice t4a t4l t4c)]⟩)] g14 fun v g15 =>
  ∃ x0a_3 : Option Addr, ∃ x0l_3 : Nat, ∃ x0c_3 : Nat, ∃ x1_3 : Int, v = (.tuple ⟨[(.slice x0a_3 x0l_3 x0c_3), (.int .i64 x1_3)]⟩) ∧ ∀ J : G → Prop,
  (∀ g16 : G, ((CallsP Tryz.prog 17 #[(.slice x0a_3 x0l_3 x0c_3)] g16 fun v g17 =>
  ∃ xa : Option Addr, ∃ xl : Nat, ∃ xc : Nat, v = (.slice xa xl xc) ∧ ∃ M3 : Nat → Prop, (∀ b, b < g.w.heap.size → M3 b → nobody b) ∧ (CallsG Tryz.prog 16 #[(.slice xa xl xc), (.func (.func 18) #[] ⟨[(.pointer (some ⟨g12.w.heap.size, 0, none⟩))]⟩)] g17 M3 fun v g18 =>
  ∃ xa_1 : Option Addr, ∃ xl_1 : Nat, ∃ xc_1 : Nat, v = (.slice xa_1 xl_1 xc_1) ∧ ∀ g19 : G, NewL g18 g19 22 [(.slice x0a_1 x0l_1 x0c_1), (.slice xa_1 xl_1 xc_1)] →
  (CallsP Tryz.prog 15 #[(.slice (some ⟨g18.w.heap.size, 0, none⟩) 2 2)] g19 fun v g20 =>
  ∃ wanta : Option Addr, ∃ wantl : Nat, ∃ wantc : Nat, v = (.slice wanta wantl wantc) ∧ ∃ M2 : Nat → Prop, (∀ b, b < g.w.heap.size → M2 b → nobody b) ∧ (CallsG Tryz.prog 20 #[(.slice wanta wantl wantc)] g20 M2 fun v g21 =>
  v = (.tuple ⟨[]⟩) ∧ ∃ M1 : Nat → Prop, (∀ b, b < g.w.heap.size → M1 b → nobody b) ∧ (CallsG Tryz.prog 22 #[(.slice wanta wantl wantc)] g21 M1 fun v g22 =>
  ∃ xa_2 : Option Addr, ∃ xl_2 : Nat, ∃ xc_2 : Nat, v = (.slice xa_2 xl_2 xc_2) ∧ (CallsP Tryz.prog 21 #[(.slice x0a x0l x0c), (.slice xa_2 xl_2 xc_2)] g22 fun v g23 =>
  ∃ x_2 : Bool, v = (.bool x_2) ∧ ∀ g24 : G, Ex g23 g24 →
  R (.bool x_2) g24))))))) → J g16) →
  ifB (!eqI x1_1 (0 : Int))
  (∀ g25 : G, Ex g15 g25 →
  R (.bool false) g25)
  (ifB (!eqI x1_2 (0 : Int))
  (∀ g26 : G, Ex g15 g26 →
  R (.bool false) g26)
  (ifB (!eqI x1_3 (0 : Int))
  (∀ g27 : G, Ex g15 g27 →
  R (.bool false) g27)
  (J g15))))))))))))
theorem F3_eq (d0 : Int) (d1 : Int) (d2 : ByteArray) (d3a : Option Addr) (d3l : Nat) (d3c : Nat) (d4a : Option Addr) (d4l : Nat) (d4c : Nat) (t0 : Int) (t1 : Int) (t2 : ByteArray) (t3a : Option Addr) (t3l : Nat) (t3c : Nat) (t4a : Option Addr) (t4l : Nat) (t4c : Nat) (g : G) (R : Value → G → Prop) : fnG cfg3 74 [.tmp 4] c3 an3 [(.agg ⟨[(.int .i64 d0), (.int .i64 d1), (.string d2), (.slice d3a d3l d3c), (.slice d4a d4l d4c)]⟩), (.agg ⟨[(.int .i64 t0), (.int .i64 t1), (.string t2), (.slice t3a t3l t3c), (.slice t4a t4l t4c)]⟩)] g nobody R = F3 d0 d1 d2 d3a d3l d3c d4a d4l d4c t0 t1 t2 t3a t3l t3c t4a t4l t4c g R := by kernel_rfl
theorem call3 (d0 : Int) (d1 : Int) (d2 : ByteArray) (d3a : Option Addr) (d3l : Nat) (d3c : Nat) (d4a : Option Addr) (d4l : Nat) (d4c : Nat) (t0 : Int) (t1 : Int) (t2 : ByteArray) (t3a : Option Addr) (t3l : Nat) (t3c : Nat) (t4a : Option Addr) (t4l : Nat) (t4c : Nat) (g : G) (R : Value → G → Prop) (hF : F3 d0 d1 d2 d3a d3l d3c d4a d4l d4c t0 t1 t2 t3a t3l t3c t4a t4l t4c g R) : CallsG Tryz.prog 3 #[(.agg ⟨[(.int .i64 d0), (.int .i64 d1), (.string d2), (.slice d3a d3l d3c), (.slice d4a d4l d4c)]⟩), (.agg ⟨[(.int .i64 t0), (.int .i64 t1), (.string t2), (.slice t3a t3l t3c), (.slice t4a t4l t4c)]⟩)] g nobody R :=
  fn_soundG (c := cfg3) TTok FNSok mixed Tryz.func3 (show Tryz.f3.body = some c3 by kernel_rfl) (show Tryz.f3.ntmps = 74 by kernel_rfl) (show Tryz.f3.results.toList = [.tmp 4] by kernel_rfl) rfl ((F3_eq d0 d1 d2 d3a d3l d3c d4a d4l d4c t0 t1 t2 t3a t3l t3c t4a t4l t4c g R).mpr hF)

/- 15 slices.Concat[[]string,string] -/
noncomputable def c15 : Code := match Tryz.f15.body with
  | some c => c
  | none => .skip
noncomputable def cfg15 : Cfg := ⟨Tryz.prog, TT, FNS, [], [], [], TCH, false, false⟩
def an15 : AnnG := (.seq .leaf (.seq .leaf (.seq (.seq .leaf (.blk (.loop ⟨[(3, .int .i64), (11, .int .i64)], [], []⟩ (.seq .leaf (.seq (.cond .leaf .leaf) (.seq (.blk (.seq .leaf (.seq .leaf (.seq .leaf (.cond .leaf .leaf))))) .leaf)))))) (.seq .leaf (.seq (.seq .leaf (.blk (.loop ⟨[(6, .sl), (27, .int .i64)], [], []⟩ (.seq .leaf (.seq (.cond .leaf .leaf) (.seq (.blk (.seq .leaf .leaf)) .leaf)))))) (.seq .leaf .leaf))))))
def F15 (slicesa : Option Addr) (slicesl : Nat) (slicesc : Nat) (g : G) (R : Value → G → Prop) : Prop :=
  ∃ Inv : Nat → Int → Int → G → Prop, ((∃ m0 : Nat, Inv m0 (0 : Int) (0 : Int) g)) ∧
  ∀ m : Nat, ∀ size : Int, ∀ v_1 : Int, ∀ g1 : G, Le g g1 → Inv m size v_1 g1 →
  ifB (ltI v_1 ((slicesl : Nat) : Int))
  ((0 ≤ v_1 ∧ v_1 < ((slicesl : Nat) : Int)) ∧ derefP slicesa fun ad => ∃ sa : Option Addr, ∃ sl : Nat, ∃ sc : Nat, g1.w.cell? (Addr.add ad (Int.toNat v_1 * 1)) = some (.slice sa sl sc) ∧ InI64 (size + ((sl : Nat) : Int)) ∧ ifB (ltI (size + ((sl : Nat) : Int)) (0 : Int))
  (False)
  (InI64 (v_1 + (1 : Int)) ∧ (∃ m_1 : Nat, m_1 < m ∧ Inv m_1 (size + ((sl : Nat) : Int)) (v_1 + (1 : Int)) g1)))
  ((CallsP Tryz.prog 62 #[(.slice none 0 0), (.int .i64 size)] g1 fun v g2 =>
  ∃ newslicea : Option Addr, ∃ newslicel : Nat, ∃ newslicec : Nat, v = (.slice newslicea newslicel newslicec) ∧ ∃ Inv_1 : Nat → Option Addr → Nat → Nat → Int → G → Prop, ((∃ m0 : Nat, Inv_1 m0 newslicea newslicel newslicec (0 : Int) g2)) ∧
  ∀ m_2 : Nat, ∀ newslicea_1 : Option Addr, ∀ newslicel_1 : Nat, ∀ newslicec_1 : Nat, ∀ v_2 : Int, ∀ g3 : G, Le g2 g3 → Inv_1 m_2 newslicea_1 newslicel_1 newslicec_1 v_2 g3 →
  ifB (ltI v_2 ((slicesl : Nat) : Int))
  ((0 ≤ v_2 ∧ v_2 < ((slicesl : Nat) : Int)) ∧ derefP slicesa fun ad_1 => ∃ sa_1 : Option Addr, ∃ sl_1 : Nat, ∃ sc_1 : Nat, g3.w.cell? (Addr.add ad_1 (Int.toNat v_2 * 1)) = some (.slice sa_1 sl_1 sc_1) ∧ ∃ newslicea_2 : Option Addr, ∃ newslicel_2 : Nat, ∃ newslicec_2 : Nat, ∃ wo1 : World, Sem.run Tryz.prog (Builtin.append_ #[22, 22] 22 #[(.slice newslicea_1 newslicel_1 newslicec_1), (.slice sa_1 sl_1 sc_1)]) g3.w = .ok (.slice newslicea_2 newslicel_2 newslicec_2) wo1 ∧ ∃ g4 : G, g4.w = wo1 ∧ Stp g.w.heap.size nobody g3 g4 ∧ InI64 (v_2 + (1 : Int)) ∧ (∃ m_3 : Nat, m_3 < m_2 ∧ Inv_1 m_3 newslicea_2 newslicel_2 newslicec_2 (v_2 + (1 : Int)) g4))
  (∀ g5 : G, Ex g3 g5 →
  R (.slice newslicea_1 newslicel_1 newslicec_1) g5)))
theorem F15_eq (slicesa : Option Addr) (slicesl : Nat) (slicesc : Nat) (g : G) (R : Value → G → Prop) : fnG cfg15 36 [.tmp 2] c15 an15 [(.slice slicesa slicesl slicesc)] g nobody R = F15 slicesa slicesl slicesc g R := by kernel_rfl
theorem call15 (slicesa : Option Addr) (slicesl : Nat) (slicesc : Nat) (g : G) (R : Value → G → Prop) (hF : F15 slicesa slicesl slicesc g R) : CallsG Tryz.prog 15 #[(.slice slicesa slicesl slicesc)] g nobody R :=
  fn_soundG (c := cfg15) TTok FNSok mixed Tryz.func15 (show Tryz.f15.body = some c15 by kernel_rfl) (show Tryz.f15.ntmps = 36 by kernel_rfl) (show Tryz.f15.results.toList = [.tmp 2] by kernel_rfl) rfl ((F15_eq slicesa slicesl slicesc g R).mpr hF)

/- 18 pilaster/pilasterlaw07.ScopeLets$1 -/
noncomputable def c18 : Code := match Tryz.f18.body with
  | some c => c
  | none => .skip
noncomputable def cfg18 : Cfg := ⟨Tryz.prog, TT, FNS, [], [], [], TCH, false, false⟩
def an18 : AnnG := (.seq .leaf (.seq .leaf .leaf))
def F18 (s : ByteArray) (c0 : Option Addr) (g : G) (R : Value → G → Prop) : Prop :=
  derefP c0 fun ad => ∃ xa : Option Addr, ∃ xl : Nat, ∃ xc : Nat, g.w.cell? ad = some (.slice xa xl xc) ∧ (CallsP Tryz.prog 19 #[(.slice xa xl xc), (.string s)] g fun v g1 =>
  ∃ x : Bool, v = (.bool x) ∧ ∀ g2 : G, Ex g1 g2 →
  R (.bool x) g2)
theorem F18_eq (s : ByteArray) (c0 : Option Addr) (g : G) (R : Value → G → Prop) : fnG cfg18 7 [.tmp 3] c18 an18 [(.string s), (.pointer c0)] g nobody R = F18 s c0 g R := by kernel_rfl
theorem call18 (s : ByteArray) (c0 : Option Addr) (g : G) (R : Value → G → Prop) (hF : F18 s c0 g R) : CallsG Tryz.prog 18 #[(.string s), (.pointer c0)] g nobody R :=
  fn_soundG (c := cfg18) TTok FNSok mixed Tryz.func18 (show Tryz.f18.body = some c18 by kernel_rfl) (show Tryz.f18.ntmps = 7 by kernel_rfl) (show Tryz.f18.results.toList = [.tmp 3] by kernel_rfl) rfl ((F18_eq s c0 g R).mpr hF)

/- 62 slices.Grow[[]string,string] -/
noncomputable def c62 : Code := match Tryz.f62.body with
  | some c => c
  | none => .skip
noncomputable def cfg62 : Cfg := ⟨Tryz.prog, TT, FNS, [], [], [], TCH, false, false⟩
def an62 : AnnG := (.seq .leaf (.join ⟨[], [], []⟩ (.seq .leaf (.cond .leaf .leaf)) (.seq (.seq .leaf (.seq .leaf (.cond .leaf .leaf))) (.seq .leaf .leaf))))
def F62 (sa : Option Addr) (sl : Nat) (sc : Nat) (n : Int) (g : G) (R : Value → G → Prop) : Prop :=
  ∀ J : G → Prop,
  (∀ g1 : G, (InI64 (((sc : Nat) : Int) - ((sl : Nat) : Int)) ∧ InI64 (n - (((sc : Nat) : Int) - ((sl : Nat) : Int))) ∧ ifB (ltI (0 : Int) (n - (((sc : Nat) : Int) - ((sl : Nat) : Int))))
  ((0 ≤ ((sc : Nat) : Int) ∧ ((sc : Nat) : Int) ≤ ((sc : Nat) : Int)) ∧ ∃ xa : Option Addr, ∃ xl : Nat, ∃ xc : Nat, ∃ wo1 : World, Sem.run Tryz.prog (Builtin.append_ #[22, 3] 22 #[(.slice (slAddr sa sc 0 1) ((Int.toNat ((sc : Nat) : Int)) - 0) (sc - 0)), (.int .i64 (n - (((sc : Nat) : Int) - ((sl : Nat) : Int))))]) g1.w = .ok (.slice xa xl xc) wo1 ∧ ∃ g2 : G, g2.w = wo1 ∧ Stp g.w.heap.size nobody g1 g2 ∧ (0 ≤ ((sl : Nat) : Int) ∧ ((sl : Nat) : Int) ≤ ((xc : Nat) : Int)) ∧ ∀ g3 : G, Ex g2 g3 →
  R (.slice (slAddr xa xc 0 1) ((Int.toNat ((sl : Nat) : Int)) - 0) (xc - 0)) g3)
  (∀ g4 : G, Ex g1 g4 →
  R (.slice sa sl sc) g4)) → J g1) →
  ifB (ltI n (0 : Int))
  (False)
  (J g)
theorem F62_eq (sa : Option Addr) (sl : Nat) (sc : Nat) (n : Int) (g : G) (R : Value → G → Prop) : fnG cfg62 27 [.tmp 4] c62 an62 [(.slice sa sl sc), (.int .i64 n)] g nobody R = F62 sa sl sc n g R := by kernel_rfl
theorem call62 (sa : Option Addr) (sl : Nat) (sc : Nat) (n : Int) (g : G) (R : Value → G → Prop) (hF : F62 sa sl sc n g R) : CallsG Tryz.prog 62 #[(.slice sa sl sc), (.int .i64 n)] g nobody R :=
  fn_soundG (c := cfg62) TTok FNSok mixed Tryz.func62 (show Tryz.f62.body = some c62 by kernel_rfl) (show Tryz.f62.ntmps = 27 by kernel_rfl) (show Tryz.f62.results.toList = [.tmp 4] by kernel_rfl) rfl ((F62_eq sa sl sc n g R).mpr hF)
end Go.Proofs.YtkocjbgdmocmlaaGreatDoor.PL3
