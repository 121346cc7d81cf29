/- Printed by a program (wip/tools/gen2.py): for each function its condition as a plain formula, and that the formula gives the call. -/
import Derived.Test.YtcpclpkcanikiaaProg
import Derived.Test.YtcpclpkcanikiaaVda
namespace Go.Proofs.Ytcpclpkcanikiaa
open Go Go.Vc Go.RowKit
set_option maxRecDepth 100000
set_option linter.unusedVariables false
def TT : List TI := [
  ⟨3, .int .i64, 1, 8, some (.int .i64 (0 : Int)), (.e (.one (.int .i64)))⟩,
  ⟨4, .bool, 1, 1, some (.bool false), (.e (.one (.bool)))⟩,
  ⟨5, .int .u8, 1, 1, some (.int .u8 (0 : Int)), (.e (.one (.int .u8)))⟩,
  ⟨9, .string, 1, 16, some (.string (bs [])), (.e (.one (.str)))⟩,
  ⟨22, .slice 41, 1, 24, some (.slice none 0 0), (.e (.one (.sl)))⟩,
  ⟨24, .struct #[{ name := "Words", type := 22, offset := 0, embedded := false, tag := "", pkgPath := "", byteOffset := 0 }, { name := "Free", type := 3, offset := 1, embedded := false, tag := "", pkgPath := "", byteOffset := 24 }, { name := "Limit", type := 3, offset := 2, embedded := false, tag := "", pkgPath := "", byteOffset := 32 }], 3, 40, some (.agg ⟨[(.slice none 0 0), (.int .i64 (0 : Int)), (.int .i64 (0 : Int))]⟩), (.e (.agg [(.sl), (.int .i64), (.int .i64)]))⟩,
  ⟨27, .int .i64, 1, 8, some (.int .i64 (0 : Int)), (.e (.one (.int .i64)))⟩,
  ⟨28, .tuple #[24, 27], 1, 0, some (.tuple ⟨[(.agg ⟨[(.slice none 0 0), (.int .i64 (0 : Int)), (.int .i64 (0 : Int))]⟩), (.int .i64 (0 : Int))]⟩), (.tup [(.agg [(.sl), (.int .i64), (.int .i64)]), (.one (.int .i64))])⟩,
  ⟨30, .tuple #[3, 27], 1, 0, some (.tuple ⟨[(.int .i64 (0 : Int)), (.int .i64 (0 : Int))]⟩), (.tup [(.one (.int .i64)), (.one (.int .i64))])⟩,
  ⟨33, .func #[3, 3] #[4] false, 1, 8, some .nilFunc, (.e (.one (.fn)))⟩,
  ⟨35, .slice 9, 1, 24, some (.slice none 0 0), (.e (.one (.sl)))⟩,
  ⟨36, .slice 38, 1, 24, some (.slice none 0 0), (.e (.one (.sl)))⟩,
  ⟨38, .struct #[{ name := "Op", type := 3, offset := 0, embedded := false, tag := "", pkgPath := "", byteOffset := 0 }, { name := "N", type := 3, offset := 1, embedded := false, tag := "", pkgPath := "", byteOffset := 8 }, { name := "S", type := 9, offset := 2, embedded := false, tag := "", pkgPath := "", byteOffset := 16 }, { name := "Names", type := 35, offset := 3, embedded := false, tag := "", pkgPath := "", byteOffset := 32 }, { name := "L", type := 36, offset := 4, embedded := false, tag := "", pkgPath := "", byteOffset := 56 }], 5, 80, some (.agg ⟨[(.int .i64 (0 : Int)), (.int .i64 (0 : Int)), (.string (bs [])), (.slice none 0 0), (.slice none 0 0)]⟩), (.e (.agg [(.int .i64), (.int .i64), (.str), (.sl), (.sl)]))⟩,
  ⟨39, .func #[38] #[4] false, 1, 8, some .nilFunc, (.e (.one (.fn)))⟩,
  ⟨41, .struct #[{ name := "Ref", type := 4, offset := 0, embedded := false, tag := "", pkgPath := "", byteOffset := 0 }, { name := "N", type := 3, offset := 1, embedded := false, tag := "", pkgPath := "", byteOffset := 8 }], 2, 16, some (.agg ⟨[(.bool false), (.int .i64 (0 : Int))]⟩), (.e (.agg [(.bool), (.int .i64)]))⟩,
  ⟨42, .tuple #[24, 41, 27], 1, 0, some (.tuple ⟨[(.agg ⟨[(.slice none 0 0), (.int .i64 (0 : Int)), (.int .i64 (0 : Int))]⟩), (.agg ⟨[(.bool false), (.int .i64 (0 : Int))]⟩), (.int .i64 (0 : Int))]⟩), (.tup [(.agg [(.sl), (.int .i64), (.int .i64)]), (.agg [(.bool), (.int .i64)]), (.one (.int .i64))])⟩,
  ⟨45, .tuple #[24, 41, 4], 1, 0, some (.tuple ⟨[(.agg ⟨[(.slice none 0 0), (.int .i64 (0 : Int)), (.int .i64 (0 : Int))]⟩), (.agg ⟨[(.bool false), (.int .i64 (0 : Int))]⟩), (.bool false)]⟩), (.tup [(.agg [(.sl), (.int .i64), (.int .i64)]), (.agg [(.bool), (.int .i64)]), (.one (.bool))])⟩,
  ⟨51, .tuple #[3, 3, 22, 27], 1, 0, some (.tuple ⟨[(.int .i64 (0 : Int)), (.int .i64 (0 : Int)), (.slice none 0 0), (.int .i64 (0 : Int))]⟩), (.tup [(.one (.int .i64)), (.one (.int .i64)), (.one (.sl)), (.one (.int .i64))])⟩,
  ⟨53, .tuple #[9, 27], 1, 0, some (.tuple ⟨[(.string (bs [])), (.int .i64 (0 : Int))]⟩), (.tup [(.one (.str)), (.one (.int .i64))])⟩,
  ⟨55, .slice 3, 1, 24, some (.slice none 0 0), (.e (.one (.sl)))⟩,
  ⟨56, .tuple #[55, 27], 1, 0, some (.tuple ⟨[(.slice none 0 0), (.int .i64 (0 : Int))]⟩), (.tup [(.one (.sl)), (.one (.int .i64))])⟩,
  ⟨61, .tuple #[3, 3, 22], 1, 0, some (.tuple ⟨[(.int .i64 (0 : Int)), (.int .i64 (0 : Int)), (.slice none 0 0)]⟩), (.tup [(.one (.int .i64)), (.one (.int .i64)), (.one (.sl))])⟩,
  ⟨65, .int .u16, 1, 2, some (.int .u16 (0 : Int)), (.e (.one (.int .u16)))⟩,
  ⟨66, .slice 5, 1, 24, some (.slice none 0 0), (.e (.one (.sl)))⟩,
  ⟨67, .slice 22, 1, 24, some (.slice none 0 0), (.e (.one (.sl)))⟩,
  ⟨79, .tuple #[38, 4], 1, 0, some (.tuple ⟨[(.agg ⟨[(.int .i64 (0 : Int)), (.int .i64 (0 : Int)), (.string (bs [])), (.slice none 0 0), (.slice none 0 0)]⟩), (.bool false)]⟩), (.tup [(.agg [(.int .i64), (.int .i64), (.str), (.sl), (.sl)]), (.one (.bool))])⟩,
  ⟨81, .func #[38, 38] #[4] false, 1, 8, some .nilFunc, (.e (.one (.fn)))⟩,
  ⟨91, .tuple #[55, 4], 1, 0, some (.tuple ⟨[(.slice none 0 0), (.bool false)]⟩), (.tup [(.one (.sl)), (.one (.bool))])⟩,
  ⟨98, .tuple #[3, 3], 1, 0, some (.tuple ⟨[(.int .i64 (0 : Int)), (.int .i64 (0 : Int))]⟩), (.tup [(.one (.int .i64)), (.one (.int .i64))])⟩,
  ⟨104, .func #[41] #[4] false, 1, 8, some .nilFunc, (.e (.one (.fn)))⟩,
  ⟨126, .tuple #[3, 4], 1, 0, some (.tuple ⟨[(.int .i64 (0 : Int)), (.bool false)]⟩), (.tup [(.one (.int .i64)), (.one (.bool))])⟩,
  ⟨139, .int .u64, 1, 8, some (.int .u64 (0 : Int)), (.e (.one (.int .u64)))⟩]
theorem TTok : TOk Try.prog TT := tok_of (by kernel_rfl)
def FNS : List Nat := [15, 16, 17, 18, 19, 20, 21, 22, 23, 24, 25, 26, 27, 28, 29, 30, 31, 32, 33, 34, 35, 36, 37, 38, 39, 40, 50, 51, 52, 59, 60, 61, 62, 63, 64, 65, 66, 67, 68, 69, 70, 71, 72, 73, 74, 75, 76, 78, 79, 80, 81, 87, 88, 94, 95, 96, 97, 98, 99, 100, 103, 104, 111, 112, 113, 114, 127]
theorem FNSok : FOk Try.prog FNS := fok_of (by kernel_rfl)
theorem mixed : Try.prog.follows .mixedOrders = true := by kernel_rfl
def TCH : List Nat := []

/- 3 pilaster/pilasterlaw49.HeapBasics -/
noncomputable def c3 : Code := match Try.f3.body with
  | some c => c
  | none => .skip
noncomputable def cfg3 : Cfg := ⟨Try.prog, TT, FNS, [5, 9], [(5, 5), (9, 9)], [], TCH, false, false⟩
def an3 : AnnG := (.seq .leaf (.join ⟨[], [], []⟩ (.seq .leaf (.cond (.seq .leaf .leaf) .leaf)) (.seq .leaf (.seq .leaf (.join ⟨[], [], []⟩ (.join ⟨[(37, .bool)], [], []⟩ .leaf (.cond (.seq .leaf (.cond (.seq .leaf .leaf) .leaf)) (.seq .leaf (.cond (.seq .leaf .leaf) .leaf)))) (.seq (.seq .leaf (.cond (.seq (.tree 10 (.quiet 0 (.quiet 1 (.quiet 2 (.quiet 3 (.quiet 4 (.quiet 5 (.quiet 6 (.quiet 7 (.quiet 9 (.eff 8 .fin .fin))))))))))) .leaf) .leaf)) (.seq (.tree 12 (.quiet 0 (.quiet 1 (.quiet 2 (.quiet 3 (.quiet 4 (.quiet 5 (.quiet 6 (.quiet 7 (.quiet 8 (.quiet 9 (.quiet 11 (.eff 10 .fin .fin))))))))))))) .leaf)))))))
def F3 (limit : Int) (h0a : Option Addr) (h0l : Nat) (h0c : Nat) (h1 : Int) (h2 : Int) (kind : Int) (length : Int) (g : G) (R : Value → G → Prop) : Prop :=
  ∀ J : G → Prop,
  (∀ g1 : G, ((CallsP Try.prog 17 #[(.int .i64 limit)] g1 fun v g2 =>
  ∃ x00a : Option Addr, ∃ x00l : Nat, ∃ x00c : Nat, ∃ x01 : Int, ∃ x02 : Int, ∃ x1 : Int, v = (.tuple ⟨[(.agg ⟨[(.slice x00a x00l x00c), (.int .i64 x01), (.int .i64 x02)]⟩), (.int .i64 x1)]⟩) ∧ ∀ g3 : G, Ex g2 g3 →
  (CallsP Try.prog 18 #[(.int .i64 kind), (.int .i64 length)] g3 fun v g4 =>
  ∃ x0 : Int, ∃ x1_1 : Int, v = (.tuple ⟨[(.int .i64 x0), (.int .i64 x1_1)]⟩) ∧ ∀ J_1 : G → Prop,
  (∀ g5 : G, ((CallsP Try.prog 22 #[(.int .i64 kind), (.int .i64 length)] g5 fun v g6 =>
  ∃ x : Bool, v = (.bool x) ∧ ifB (!x)
  (∀ g7 : G, Ex g6 g7 →
  ifB (eqI x0 (0 : Int))
  (ifB (eqI x1_1 (2 : Int))
  ((CallsP Try.prog 21 #[(.agg ⟨[(.slice h0a h0l h0c), (.int .i64 h1), (.int .i64 h2)]⟩)] g7 fun v g8 =>
  ∃ x_1 : Bool, v = (.bool x_1) ∧ (CallsP Try.prog 23 #[(.agg ⟨[(.slice h0a h0l h0c), (.int .i64 h1), (.int .i64 h2)]⟩)] g8 fun v g9 =>
  ∃ x_2 : Bool, v = (.bool x_2) ∧ ∀ g10 : G, Ex g9 g10 →
  R (.bool (x_1 == x_2)) g10)))
  (∀ g11 : G, Ex g7 g11 →
  R (.bool false) g11))
  (∀ g12 : G, Ex g7 g12 →
  R (.bool false) g12))
  (∀ g13 : G, Ex g6 g13 →
  InI64 (length + (3 : Int)) ∧ ifB (eqI x0 (length + (3 : Int)))
  (ifB (eqI x1_1 (0 : Int))
  ((CallsP Try.prog 21 #[(.agg ⟨[(.slice h0a h0l h0c), (.int .i64 h1), (.int .i64 h2)]⟩)] g13 fun v g14 =>
  ∃ x_3 : Bool, v = (.bool x_3) ∧ (CallsP Try.prog 23 #[(.agg ⟨[(.slice h0a h0l h0c), (.int .i64 h1), (.int .i64 h2)]⟩)] g14 fun v g15 =>
  ∃ x_4 : Bool, v = (.bool x_4) ∧ ∀ g16 : G, Ex g15 g16 →
  R (.bool (x_3 == x_4)) g16)))
  (∀ g17 : G, Ex g13 g17 →
  R (.bool false) g17))
  (∀ g18 : G, Ex g13 g18 →
  R (.bool false) g18)))) → J_1 g5) →
  ∀ J_2 : Bool → G → Prop,
  (∀ v_1 : Bool, ∀ g19 : G, (ifB v_1
  ((CallsP Try.prog 19 #[(.agg ⟨[(.slice x00a x00l x00c), (.int .i64 x01), (.int .i64 x02)]⟩)] g19 fun v g20 =>
  ∃ x_5 : Bool, v = (.bool x_5) ∧ ifB (!x_5)
  (∀ g21 : G, Ex g20 g21 →
  R (.bool false) g21)
  (ifB (!eqI x1 (2 : Int))
  (∀ g22 : G, Ex g20 g22 →
  R (.bool false) g22)
  (J_1 g20))))
  ((CallsP Try.prog 20 #[(.agg ⟨[(.slice x00a x00l x00c), (.int .i64 x01), (.int .i64 x02)]⟩), (.agg ⟨[(.slice none 0 0), (.int .i64 (0 : Int)), (.int .i64 limit)]⟩)] g19 fun v g23 =>
  ∃ x_6 : Bool, v = (.bool x_6) ∧ ifB (!x_6)
  (∀ g24 : G, Ex g23 g24 →
  R (.bool false) g24)
  (ifB (!eqI x1 (0 : Int))
  (∀ g25 : G, Ex g23 g25 →
  R (.bool false) g25)
  ((CallsP Try.prog 21 #[(.agg ⟨[(.slice x00a x00l x00c), (.int .i64 x01), (.int .i64 x02)]⟩)] g23 fun v g26 =>
  ∃ x_7 : Bool, v = (.bool x_7) ∧ ifB (!x_7)
  (∀ g27 : G, Ex g26 g27 →
  R (.bool false) g27)
  (J_1 g26))))))) → J_2 v_1 g19) →
  ifB (ltI limit (0 : Int))
  (J_2 true g4)
  (J_2 (ltI (65536 : Int) limit) g4)))) → J g1) →
  ∀ g28 : G, Ex g g28 →
  (CallsP Try.prog 15 #[] g28 fun v g29 =>
  ∃ x_8 : Bool, v = (.bool x_8) ∧ ifB (!x_8)
  ((CallsP Try.prog 15 #[] g29 fun v g30 =>
  ∃ x_9 : Bool, v = (.bool x_9) ∧ ∀ g31 : G, Ex g30 g31 →
  R (.bool x_9) g31))
  ((CallsP Try.prog 16 #[(.agg ⟨[(.slice h0a h0l h0c), (.int .i64 h1), (.int .i64 h2)]⟩)] g29 fun v g32 =>
  ∃ x_10 : Bool, v = (.bool x_10) ∧ ifB (!x_10)
  ((CallsP Try.prog 15 #[] g32 fun v g33 =>
  ∃ x_11 : Bool, v = (.bool x_11) ∧ ∀ g34 : G, Ex g33 g34 →
  R (.bool x_11) g34))
  (J g32))))
theorem F3_eq (limit : Int) (h0a : Option Addr) (h0l : Nat) (h0c : Nat) (h1 : Int) (h2 : Int) (kind : Int) (length : Int) (g : G) (R : Value → G → Prop) : fnG cfg3 91 [.tmp 8] c3 an3 [(.int .i64 limit), (.agg ⟨[(.slice h0a h0l h0c), (.int .i64 h1), (.int .i64 h2)]⟩), (.int .i64 kind), (.int .i64 length)] g nobody R = F3 limit h0a h0l h0c h1 h2 kind length g R := by kernel_rfl
theorem call3 (limit : Int) (h0a : Option Addr) (h0l : Nat) (h0c : Nat) (h1 : Int) (h2 : Int) (kind : Int) (length : Int) (g : G) (R : Value → G → Prop) (hF : F3 limit h0a h0l h0c h1 h2 kind length g R) : CallsG Try.prog 3 #[(.int .i64 limit), (.agg ⟨[(.slice h0a h0l h0c), (.int .i64 h1), (.int .i64 h2)]⟩), (.int .i64 kind), (.int .i64 length)] g nobody R :=
  fn_soundG (c := cfg3) TTok FNSok mixed Try.func3 (show Try.f3.body = some c3 by kernel_rfl) (show Try.f3.ntmps = 91 by kernel_rfl) (show Try.f3.results.toList = [.tmp 8] by kernel_rfl) rfl ((F3_eq limit h0a h0l h0c h1 h2 kind length g R).mpr hF)

/- 4 pilaster/pilasterlaw49.HeapPuts -/
noncomputable def c4 : Code := match Try.f4.body with
  | some c => c
  | none => .skip
noncomputable def cfg4 : Cfg := ⟨Try.prog, TT, FNS, [3, 5, 7, 8, 10, 11, 13, 14, 16, 17], [(3, 3), (5, 5), (7, 7), (8, 8), (10, 10), (11, 11), (13, 13), (14, 14), (16, 16), (17, 17)], [], TCH, false, false⟩
def an4 : AnnG := (.seq .leaf (.seq (.join ⟨[(45, .bool)], [], []⟩ .leaf (.cond (.seq .leaf .leaf) .leaf)) (.seq .leaf (.seq .leaf (.seq (.seq .leaf (.cond (.seq .leaf .leaf) .leaf)) (.join ⟨[], [], []⟩ (.seq .leaf (.cond (.seq .leaf (.cond (.seq .leaf .leaf) .leaf)) (.seq .leaf (.join ⟨[(143, .bool)], [], []⟩ .leaf (.cond (.seq .leaf .leaf) .leaf))))) (.seq (.seq .leaf (.cond (.seq .leaf .leaf) .leaf)) (.seq .leaf (.seq (.seq .leaf (.cond (.seq .leaf .leaf) .leaf)) (.seq .leaf .leaf))))))))))
def F4 (h0a : Option Addr) (h0l : Nat) (h0c : Nat) (h1 : Int) (h2 : Int) (s : ByteArray) (v0 : Int) (v1 : Int) (v2 : ByteArray) (v3a : Option Addr) (v3l : Nat) (v3c : Nat) (v4a : Option Addr) (v4l : Nat) (v4c : Nat) (g : G) (R : Value → G → Prop) : Prop :=
  ∀ J : Bool → G → Prop,
  (∀ v_1 : Bool, ∀ g1 : G, (ifB v_1
  ((CallsP Try.prog 15 #[] g1 fun v g2 =>
  ∃ x : Bool, v = (.bool x) ∧ ∀ g3 : G, Ex g2 g3 →
  R (.bool x) g3))
  ((CallsP Try.prog 25 #[(.agg ⟨[(.slice h0a h0l h0c), (.int .i64 h1), (.int .i64 h2)]⟩), (.string s)] g1 fun v g4 =>
  ∃ x00a : Option Addr, ∃ x00l : Nat, ∃ x00c : Nat, ∃ x01 : Int, ∃ x02 : Int, ∃ x10 : Bool, ∃ x11 : Int, ∃ x2 : Int, v = (.tuple ⟨[(.agg ⟨[(.slice x00a x00l x00c), (.int .i64 x01), (.int .i64 x02)]⟩), (.agg ⟨[(.bool x10), (.int .i64 x11)]⟩), (.int .i64 x2)]⟩) ∧ ∀ g5 : G, Ex g4 g5 →
  (CallsP Try.prog 26 #[(.agg ⟨[(.slice h0a h0l h0c), (.int .i64 h1), (.int .i64 h2)]⟩), (.agg ⟨[(.int .i64 v0), (.int .i64 v1), (.string v2), (.slice v3a v3l v3c), (.slice v4a v4l v4c)]⟩)] g5 fun v g6 =>
  ∃ x00a_1 : Option Addr, ∃ x00l_1 : Nat, ∃ x00c_1 : Nat, ∃ x01_1 : Int, ∃ x02_1 : Int, ∃ x10_1 : Bool, ∃ x11_1 : Int, ∃ x2_1 : Int, v = (.tuple ⟨[(.agg ⟨[(.slice x00a_1 x00l_1 x00c_1), (.int .i64 x01_1), (.int .i64 x02_1)]⟩), (.agg ⟨[(.bool x10_1), (.int .i64 x11_1)]⟩), (.int .i64 x2_1)]⟩) ∧ ∀ g7 : G, Ex g6 g7 →
  (CallsP Try.prog 23 #[(.agg ⟨[(.slice h0a h0l h0c), (.int .i64 h1), (.int .i64 h2)]⟩)] g7 fun v g8 =>
  ∃ x_1 : Bool, v = (.bool x_1) ∧ ifB (!x_1)
  ((CallsP Try.prog 19 #[(.agg ⟨[(.slice x00a x00l x00c), (.int .i64 x01), (.int .i64 x02)]⟩)] g8 fun v g9 =>
  ∃ x_2 : Bool, v = (.bool x_2) ∧ ifB x_2
  (ifB ((x10 == false) && ((eqI x11 (0 : Int)) && true))
  (ifB (eqI x2 (1 : Int))
  ((CallsP Try.prog 19 #[(.agg ⟨[(.slice x00a_1 x00l_1 x00c_1), (.int .i64 x01_1), (.int .i64 x02_1)]⟩)] g9 fun v g10 =>
  ∃ x_3 : Bool, v = (.bool x_3) ∧ ifB x_3
  (ifB ((x10_1 == false) && ((eqI x11_1 (0 : Int)) && true))
  (∀ g11 : G, Ex g10 g11 →
  R (.bool (eqI x2_1 (1 : Int))) g11)
  (∀ g12 : G, Ex g10 g12 →
  R (.bool false) g12))
  (∀ g13 : G, Ex g10 g13 →
  R (.bool false) g13)))
  (∀ g14 : G, Ex g9 g14 →
  R (.bool false) g14))
  (∀ g15 : G, Ex g9 g15 →
  R (.bool false) g15))
  (∀ g16 : G, Ex g9 g16 →
  R (.bool false) g16)))
  (∀ J_1 : G → Prop,
  (∀ g17 : G, ((CallsP Try.prog 28 #[(.agg ⟨[(.int .i64 v0), (.int .i64 v1), (.string v2), (.slice v3a v3l v3c), (.slice v4a v4l v4c)]⟩)] g17 fun v g18 =>
  ∃ x_4 : Bool, v = (.bool x_4) ∧ ifB (!x_4)
  ((CallsP Try.prog 19 #[(.agg ⟨[(.slice x00a_1 x00l_1 x00c_1), (.int .i64 x01_1), (.int .i64 x02_1)]⟩)] g18 fun v g19 =>
  ∃ x_5 : Bool, v = (.bool x_5) ∧ ifB x_5
  (ifB ((x10_1 == false) && ((eqI x11_1 (0 : Int)) && true))
  (∀ g20 : G, Ex g19 g20 →
  R (.bool (eqI x2_1 (1 : Int))) g20)
  (∀ g21 : G, Ex g19 g21 →
  R (.bool false) g21))
  (∀ g22 : G, Ex g19 g22 →
  R (.bool false) g22)))
  ((CallsP Try.prog 29 #[(.agg ⟨[(.slice h0a h0l h0c), (.int .i64 h1), (.int .i64 h2)]⟩), (.agg ⟨[(.int .i64 v0), (.int .i64 v1), (.string v2), (.slice v3a v3l v3c), (.slice v4a v4l v4c)]⟩)] g18 fun v g23 =>
  ∃ x00a_2 : Option Addr, ∃ x00l_2 : Nat, ∃ x00c_2 : Nat, ∃ x01_2 : Int, ∃ x02_2 : Int, ∃ x10_2 : Bool, ∃ x11_2 : Int, ∃ x2_2 : Bool, v = (.tuple ⟨[(.agg ⟨[(.slice x00a_2 x00l_2 x00c_2), (.int .i64 x01_2), (.int .i64 x02_2)]⟩), (.agg ⟨[(.bool x10_2), (.int .i64 x11_2)]⟩), (.bool x2_2)]⟩) ∧ ifB (!x2_2)
  (∀ g24 : G, Ex g23 g24 →
  (CallsP Try.prog 19 #[(.agg ⟨[(.slice x00a_1 x00l_1 x00c_1), (.int .i64 x01_1), (.int .i64 x02_1)]⟩)] g24 fun v g25 =>
  ∃ x_6 : Bool, v = (.bool x_6) ∧ ifB x_6
  (ifB ((x10_1 == false) && ((eqI x11_1 (0 : Int)) && true))
  (∀ g26 : G, Ex g25 g26 →
  R (.bool (eqI x2_1 (25 : Int))) g26)
  (∀ g27 : G, Ex g25 g27 →
  R (.bool false) g27))
  (∀ g28 : G, Ex g25 g28 →
  R (.bool false) g28)))
  (∀ g29 : G, Ex g23 g29 →
  (CallsP Try.prog 20 #[(.agg ⟨[(.slice x00a_1 x00l_1 x00c_1), (.int .i64 x01_1), (.int .i64 x02_1)]⟩), (.agg ⟨[(.slice x00a_2 x00l_2 x00c_2), (.int .i64 x01_2), (.int .i64 x02_2)]⟩)] g29 fun v g30 =>
  ∃ x_7 : Bool, v = (.bool x_7) ∧ ifB x_7
  (ifB ((x10_1 == x10_2) && ((eqI x11_1 x11_2) && true))
  (∀ g31 : G, Ex g30 g31 →
  R (.bool (eqI x2_1 (0 : Int))) g31)
  (∀ g32 : G, Ex g30 g32 →
  R (.bool false) g32))
  (∀ g33 : G, Ex g30 g33 →
  R (.bool false) g33))))))) → J_1 g17) →
  ifB (ltI (16384 : Int) ((s.size : Nat) : Int))
  ((CallsP Try.prog 19 #[(.agg ⟨[(.slice x00a x00l x00c), (.int .i64 x01), (.int .i64 x02)]⟩)] g8 fun v g34 =>
  ∃ x_8 : Bool, v = (.bool x_8) ∧ ifB (!x_8)
  (∀ g35 : G, Ex g34 g35 →
  R (.bool false) g35)
  (ifB (!((x10 == false) && ((eqI x11 (0 : Int)) && true)))
  (∀ g36 : G, Ex g34 g36 →
  R (.bool false) g36)
  (ifB (!eqI x2 (5 : Int))
  (∀ g37 : G, Ex g34 g37 →
  R (.bool false) g37)
  (J_1 g34)))))
  ((CallsP Try.prog 27 #[(.agg ⟨[(.slice h0a h0l h0c), (.int .i64 h1), (.int .i64 h2)]⟩), (.string s)] g8 fun v g38 =>
  ∃ x00a_3 : Option Addr, ∃ x00l_3 : Nat, ∃ x00c_3 : Nat, ∃ x01_3 : Int, ∃ x02_3 : Int, ∃ x10_3 : Bool, ∃ x11_3 : Int, ∃ x2_3 : Bool, v = (.tuple ⟨[(.agg ⟨[(.slice x00a_3 x00l_3 x00c_3), (.int .i64 x01_3), (.int .i64 x02_3)]⟩), (.agg ⟨[(.bool x10_3), (.int .i64 x11_3)]⟩), (.bool x2_3)]⟩) ∧ ∀ J_2 : Bool → G → Prop,
  (∀ v_2 : Bool, ∀ g39 : G, (ifB v_2
  (∀ g40 : G, Ex g39 g40 →
  R (.bool false) g40)
  (J_1 g39)) → J_2 v_2 g39) →
  ifB x2_3
  (∀ g41 : G, Ex g38 g41 →
  (CallsP Try.prog 20 #[(.agg ⟨[(.slice x00a x00l x00c), (.int .i64 x01), (.int .i64 x02)]⟩), (.agg ⟨[(.slice x00a_3 x00l_3 x00c_3), (.int .i64 x01_3), (.int .i64 x02_3)]⟩)] g41 fun v g42 =>
  ∃ x_9 : Bool, v = (.bool x_9) ∧ ifB (!x_9)
  (J_2 true g42)
  (ifB (!((x10 == x10_3) && ((eqI x11 x11_3) && true)))
  (J_2 true g42)
  (ifB (!eqI x2 (0 : Int))
  (J_2 true g42)
  (ifB (!x2_3)
  ((CallsP Try.prog 19 #[(.agg ⟨[(.slice x00a x00l x00c), (.int .i64 x01), (.int .i64 x02)]⟩)] g42 fun v g43 =>
  ∃ x_10 : Bool, v = (.bool x_10) ∧ ifB (!x_10)
  (J_2 true g43)
  (ifB (!((x10 == false) && ((eqI x11 (0 : Int)) && true)))
  (J_2 true g43)
  (J_2 (!eqI x2 (25 : Int)) g43))))
  (J_2 false g42))))))
  (ifB (!x2_3)
  (∀ g44 : G, Ex g38 g44 →
  (CallsP Try.prog 19 #[(.agg ⟨[(.slice x00a x00l x00c), (.int .i64 x01), (.int .i64 x02)]⟩)] g44 fun v g45 =>
  ∃ x_11 : Bool, v = (.bool x_11) ∧ ifB (!x_11)
  (J_2 true g45)
  (ifB (!((x10 == false) && ((eqI x11 (0 : Int)) && true)))
  (J_2 true g45)
  (J_2 (!eqI x2 (25 : Int)) g45))))
  (∀ g46 : G, Ex g38 g46 →
  J_2 false g46)))))))))) → J v_1 g1) →
  ∀ g47 : G, Ex g g47 →
  (CallsP Try.prog 15 #[] g47 fun v g48 =>
  ∃ x_12 : Bool, v = (.bool x_12) ∧ ifB (!x_12)
  (J true g48)
  ((CallsP Try.prog 16 #[(.agg ⟨[(.slice h0a h0l h0c), (.int .i64 h1), (.int .i64 h2)]⟩)] g48 fun v g49 =>
  ∃ x_13 : Bool, v = (.bool x_13) ∧ ifB (!x_13)
  (J true g49)
  (ifB (ltI (300 : Int) ((s.size : Nat) : Int))
  (ifB (leI ((s.size : Nat) : Int) (16384 : Int))
  (J true g49)
  (ifB (ltI (16484 : Int) ((s.size : Nat) : Int))
  (J true g49)
  ((CallsP Try.prog 24 #[(.agg ⟨[(.int .i64 v0), (.int .i64 v1), (.string v2), (.slice v3a v3l v3c), (.slice v4a v4l v4c)]⟩)] g49 fun v g50 =>
  ∃ x_14 : Bool, v = (.bool x_14) ∧ J (!x_14) g50))))
  (ifB (ltI (16484 : Int) ((s.size : Nat) : Int))
  (J true g49)
  ((CallsP Try.prog 24 #[(.agg ⟨[(.int .i64 v0), (.int .i64 v1), (.string v2), (.slice v3a v3l v3c), (.slice v4a v4l v4c)]⟩)] g49 fun v g51 =>
  ∃ x_15 : Bool, v = (.bool x_15) ∧ J (!x_15) g51)))))))
theorem F4_eq (h0a : Option Addr) (h0l : Nat) (h0c : Nat) (h1 : Int) (h2 : Int) (s : ByteArray) (v0 : Int) (v1 : Int) (v2 : ByteArray) (v3a : Option Addr) (v3l : Nat) (v3c : Nat) (v4a : Option Addr) (v4l : Nat) (v4c : Nat) (g : G) (R : Value → G → Prop) : fnG cfg4 190 [.tmp 6] c4 an4 [(.agg ⟨[(.slice h0a h0l h0c), (.int .i64 h1), (.int .i64 h2)]⟩), (.string s), (.agg ⟨[(.int .i64 v0), (.int .i64 v1), (.string v2), (.slice v3a v3l v3c), (.slice v4a v4l v4c)]⟩)] g nobody R = F4 h0a h0l h0c h1 h2 s v0 v1 v2 v3a v3l v3c v4a v4l v4c g R := by kernel_rfl
theorem call4 (h0a : Option Addr) (h0l : Nat) (h0c : Nat) (h1 : Int) (h2 : Int) (s : ByteArray) (v0 : Int) (v1 : Int) (v2 : ByteArray) (v3a : Option Addr) (v3l : Nat) (v3c : Nat) (v4a : Option Addr) (v4l : Nat) (v4c : Nat) (g : G) (R : Value → G → Prop) (hF : F4 h0a h0l h0c h1 h2 s v0 v1 v2 v3a v3l v3c v4a v4l v4c g R) : CallsG Try.prog 4 #[(.agg ⟨[(.slice h0a h0l h0c), (.int .i64 h1), (.int .i64 h2)]⟩), (.string s), (.agg ⟨[(.int .i64 v0), (.int .i64 v1), (.string v2), (.slice v3a v3l v3c), (.slice v4a v4l v4c)]⟩)] g nobody R :=
  fn_soundG (c := cfg4) TTok FNSok mixed Try.func4 (show Try.f4.body = some c4 by kernel_rfl) (show Try.f4.ntmps = 190 by kernel_rfl) (show Try.f4.results.toList = [.tmp 6] by kernel_rfl) rfl ((F4_eq h0a h0l h0c h1 h2 s v0 v1 v2 v3a v3l v3c v4a v4l v4c g R).mpr hF)

/- 5 pilaster/pilasterlaw49.HeapAllocs -/
noncomputable def c5 : Code := match Try.f5.body with
  | some c => c
  | none => .skip
noncomputable def cfg5 : Cfg := ⟨Try.prog, TT, FNS, [4, 9, 10, 12, 13], [(4, 4), (9, 9), (10, 10), (12, 12), (13, 13)], [], TCH, false, false⟩
def an5 : AnnG := (.seq .leaf (.seq (.join ⟨[(36, .bool)], [], []⟩ .leaf (.cond (.seq .leaf .leaf) .leaf)) (.seq .leaf (.seq (.seq .leaf (.cond (.seq .leaf .leaf) .leaf)) (.seq .leaf (.seq .leaf .leaf))))))
def F5 (h0a : Option Addr) (h0l : Nat) (h0c : Nat) (h1 : Int) (h2 : Int) (kind : Int) (n : Int) (la : Option Addr) (ll : Nat) (lc : Nat) (g : G) (R : Value → G → Prop) : Prop :=
  ∀ J : Bool → G → Prop,
  (∀ v_1 : Bool, ∀ g1 : G, (ifB v_1
  ((CallsP Try.prog 15 #[] g1 fun v g2 =>
  ∃ x : Bool, v = (.bool x) ∧ ∀ g3 : G, Ex g2 g3 →
  R (.bool x) g3))
  ((CallsP Try.prog 30 #[(.agg ⟨[(.slice h0a h0l h0c), (.int .i64 h1), (.int .i64 h2)]⟩), (.int .i64 kind), (.int .i64 n), (.slice la ll lc)] g1 fun v g4 =>
  ∃ x00a : Option Addr, ∃ x00l : Nat, ∃ x00c : Nat, ∃ x01 : Int, ∃ x02 : Int, ∃ x10 : Bool, ∃ x11 : Int, ∃ x2 : Int, v = (.tuple ⟨[(.agg ⟨[(.slice x00a x00l x00c), (.int .i64 x01), (.int .i64 x02)]⟩), (.agg ⟨[(.bool x10), (.int .i64 x11)]⟩), (.int .i64 x2)]⟩) ∧ ∀ g5 : G, Ex g4 g5 →
  (CallsP Try.prog 23 #[(.agg ⟨[(.slice h0a h0l h0c), (.int .i64 h1), (.int .i64 h2)]⟩)] g5 fun v g6 =>
  ∃ x_1 : Bool, v = (.bool x_1) ∧ ifB (!x_1)
  ((CallsP Try.prog 19 #[(.agg ⟨[(.slice x00a x00l x00c), (.int .i64 x01), (.int .i64 x02)]⟩)] g6 fun v g7 =>
  ∃ x_2 : Bool, v = (.bool x_2) ∧ ifB x_2
  (ifB ((x10 == false) && ((eqI x11 (0 : Int)) && true))
  (∀ g8 : G, Ex g7 g8 →
  R (.bool (eqI x2 (1 : Int))) g8)
  (∀ g9 : G, Ex g7 g9 →
  R (.bool false) g9))
  (∀ g10 : G, Ex g7 g10 →
  R (.bool false) g10)))
  ((CallsP Try.prog 31 #[(.agg ⟨[(.slice h0a h0l h0c), (.int .i64 h1), (.int .i64 h2)]⟩), (.int .i64 kind), (.int .i64 n), (.slice la ll lc)] g6 fun v g11 =>
  ∃ x00a_1 : Option Addr, ∃ x00l_1 : Nat, ∃ x00c_1 : Nat, ∃ x01_1 : Int, ∃ x02_1 : Int, ∃ x10_1 : Bool, ∃ x11_1 : Int, ∃ x2_1 : Int, v = (.tuple ⟨[(.agg ⟨[(.slice x00a_1 x00l_1 x00c_1), (.int .i64 x01_1), (.int .i64 x02_1)]⟩), (.agg ⟨[(.bool x10_1), (.int .i64 x11_1)]⟩), (.int .i64 x2_1)]⟩) ∧ ∀ g12 : G, Ex g11 g12 →
  (CallsP Try.prog 20 #[(.agg ⟨[(.slice x00a x00l x00c), (.int .i64 x01), (.int .i64 x02)]⟩), (.agg ⟨[(.slice x00a_1 x00l_1 x00c_1), (.int .i64 x01_1), (.int .i64 x02_1)]⟩)] g12 fun v g13 =>
  ∃ x_3 : Bool, v = (.bool x_3) ∧ ifB x_3
  (ifB ((x10 == x10_1) && ((eqI x11 x11_1) && true))
  (∀ g14 : G, Ex g13 g14 →
  R (.bool (eqI x2 x2_1)) g14)
  (∀ g15 : G, Ex g13 g15 →
  R (.bool false) g15))
  (∀ g16 : G, Ex g13 g16 →
  R (.bool false) g16)))))))) → J v_1 g1) →
  ∀ g17 : G, Ex g g17 →
  (CallsP Try.prog 15 #[] g17 fun v g18 =>
  ∃ x_4 : Bool, v = (.bool x_4) ∧ ifB (!x_4)
  (J true g18)
  ((CallsP Try.prog 16 #[(.agg ⟨[(.slice h0a h0l h0c), (.int .i64 h1), (.int .i64 h2)]⟩)] g18 fun v g19 =>
  ∃ x_5 : Bool, v = (.bool x_5) ∧ ifB (!x_5)
  (J true g19)
  (ifB (ltI (100 : Int) ((ll : Nat) : Int))
  (ifB (leI ((ll : Nat) : Int) (1000 : Int))
  (J true g19)
  (J (ltI (1010 : Int) ((ll : Nat) : Int)) g19))
  (J (ltI (1010 : Int) ((ll : Nat) : Int)) g19)))))
theorem F5_eq (h0a : Option Addr) (h0l : Nat) (h0c : Nat) (h1 : Int) (h2 : Int) (kind : Int) (n : Int) (la : Option Addr) (ll : Nat) (lc : Nat) (g : G) (R : Value → G → Prop) : fnG cfg5 83 [.tmp 8] c5 an5 [(.agg ⟨[(.slice h0a h0l h0c), (.int .i64 h1), (.int .i64 h2)]⟩), (.int .i64 kind), (.int .i64 n), (.slice la ll lc)] g nobody R = F5 h0a h0l h0c h1 h2 kind n la ll lc g R := by kernel_rfl
theorem call5 (h0a : Option Addr) (h0l : Nat) (h0c : Nat) (h1 : Int) (h2 : Int) (kind : Int) (n : Int) (la : Option Addr) (ll : Nat) (lc : Nat) (g : G) (R : Value → G → Prop) (hF : F5 h0a h0l h0c h1 h2 kind n la ll lc g R) : CallsG Try.prog 5 #[(.agg ⟨[(.slice h0a h0l h0c), (.int .i64 h1), (.int .i64 h2)]⟩), (.int .i64 kind), (.int .i64 n), (.slice la ll lc)] g nobody R :=
  fn_soundG (c := cfg5) TTok FNSok mixed Try.func5 (show Try.f5.body = some c5 by kernel_rfl) (show Try.f5.ntmps = 83 by kernel_rfl) (show Try.f5.results.toList = [.tmp 8] by kernel_rfl) rfl ((F5_eq h0a h0l h0c h1 h2 kind n la ll lc g R).mpr hF)

/- 6 pilaster/pilasterlaw49.HeapReads -/
noncomputable def c6 : Code := match Try.f6.body with
  | some c => c
  | none => .skip
noncomputable def cfg6 : Cfg := ⟨Try.prog, TT, FNS, [2, 3], [(2, 2), (3, 3), (116, 3)], [], TCH, false, false⟩
def an6 : AnnG := (.seq .leaf (.join ⟨[], [], []⟩ (.seq .leaf (.cond (.seq .leaf .leaf) .leaf)) (.seq .leaf (.seq .leaf (.seq .leaf (.seq (.seq .leaf (.cond (.seq .leaf .leaf) .leaf)) (.join ⟨[], [], []⟩ (.seq .leaf (.cond (.seq .leaf .leaf) .leaf)) (.seq (.seq .leaf (.cond (.seq .leaf .leaf) .leaf)) (.seq .leaf (.join ⟨[], [], []⟩ (.seq .leaf (.cond (.seq .leaf .leaf) .leaf)) (.seq (.seq .leaf (.cond (.seq .leaf .leaf) .leaf)) (.seq .leaf .leaf))))))))))))
def F6 (h0a : Option Addr) (h0l : Nat) (h0c : Nat) (h1 : Int) (h2 : Int) (w0 : Bool) (w1 : Int) (g : G) (R : Value → G → Prop) : Prop :=
  ∀ J : G → Prop,
  (∀ g1 : G, ((CallsP Try.prog 32 #[(.agg ⟨[(.slice h0a h0l h0c), (.int .i64 h1), (.int .i64 h2)]⟩), (.agg ⟨[(.bool w0), (.int .i64 w1)]⟩)] g1 fun v g2 =>
  ∃ x0 : Int, ∃ x1 : Int, ∃ x2a : Option Addr, ∃ x2l : Nat, ∃ x2c : Nat, ∃ x3 : Int, v = (.tuple ⟨[(.int .i64 x0), (.int .i64 x1), (.slice x2a x2l x2c), (.int .i64 x3)]⟩) ∧ (CallsP Try.prog 33 #[(.agg ⟨[(.slice h0a h0l h0c), (.int .i64 h1), (.int .i64 h2)]⟩), (.agg ⟨[(.bool w0), (.int .i64 w1)]⟩)] g2 fun v g3 =>
  ∃ x0_1 : ByteArray, ∃ x1_1 : Int, v = (.tuple ⟨[(.string x0_1), (.int .i64 x1_1)]⟩) ∧ (CallsP Try.prog 34 #[(.agg ⟨[(.slice h0a h0l h0c), (.int .i64 h1), (.int .i64 h2)]⟩)] g3 fun v g4 =>
  ∃ x0a : Option Addr, ∃ x0l : Nat, ∃ x0c : Nat, ∃ x1_2 : Int, v = (.tuple ⟨[(.slice x0a x0l x0c), (.int .i64 x1_2)]⟩) ∧ (CallsP Try.prog 23 #[(.agg ⟨[(.slice h0a h0l h0c), (.int .i64 h1), (.int .i64 h2)]⟩)] g4 fun v g5 =>
  ∃ x : Bool, v = (.bool x) ∧ ifB (!x)
  (ifB (eqI x0 (0 : Int))
  (ifB (eqI x1 (0 : Int))
  (ifB (eqI ((x2l : Nat) : Int) (0 : Int))
  (ifB (eqI x3 (1 : Int))
  (ifB (strEq x0_1 (bs []))
  (ifB (eqI x1_1 (1 : Int))
  (ifB (eqI ((x0l : Nat) : Int) (0 : Int))
  (∀ g6 : G, Ex g5 g6 →
  R (.bool (eqI x1_2 (1 : Int))) g6)
  (∀ g7 : G, Ex g5 g7 →
  R (.bool false) g7))
  (∀ g8 : G, Ex g5 g8 →
  R (.bool false) g8))
  (∀ g9 : G, Ex g5 g9 →
  R (.bool false) g9))
  (∀ g10 : G, Ex g5 g10 →
  R (.bool false) g10))
  (∀ g11 : G, Ex g5 g11 →
  R (.bool false) g11))
  (∀ g12 : G, Ex g5 g12 →
  R (.bool false) g12))
  (∀ g13 : G, Ex g5 g13 →
  R (.bool false) g13))
  (∀ J_1 : G → Prop,
  (∀ g14 : G, ((CallsP Try.prog 37 #[(.agg ⟨[(.slice h0a h0l h0c), (.int .i64 h1), (.int .i64 h2)]⟩), (.agg ⟨[(.bool w0), (.int .i64 w1)]⟩)] g14 fun v g15 =>
  ∃ x_1 : Bool, v = (.bool x_1) ∧ ifB (!x_1)
  (ifB (eqI x0 (0 : Int))
  (ifB (eqI x1 (0 : Int))
  (ifB (eqI ((x2l : Nat) : Int) (0 : Int))
  (ifB (eqI x3 (2 : Int))
  (ifB (strEq x0_1 (bs []))
  (∀ g16 : G, Ex g15 g16 →
  R (.bool (eqI x1_1 (2 : Int))) g16)
  (∀ g17 : G, Ex g15 g17 →
  R (.bool false) g17))
  (∀ g18 : G, Ex g15 g18 →
  R (.bool false) g18))
  (∀ g19 : G, Ex g15 g19 →
  R (.bool false) g19))
  (∀ g20 : G, Ex g15 g20 →
  R (.bool false) g20))
  (∀ g21 : G, Ex g15 g21 →
  R (.bool false) g21))
  ((CallsP Try.prog 38 #[(.agg ⟨[(.slice h0a h0l h0c), (.int .i64 h1), (.int .i64 h2)]⟩), (.int .i64 w1)] g15 fun v g22 =>
  ∃ x0_2 : Int, ∃ x1_3 : Int, ∃ x2a_1 : Option Addr, ∃ x2l_1 : Nat, ∃ x2c_1 : Nat, v = (.tuple ⟨[(.int .i64 x0_2), (.int .i64 x1_3), (.slice x2a_1 x2l_1 x2c_1)]⟩) ∧ ∀ J_2 : G → Prop,
  (∀ g23 : G, (ifB (!eqI x0_2 (4 : Int))
  (ifB (strEq x0_1 (bs []))
  (∀ g24 : G, Ex g23 g24 →
  R (.bool (eqI x1_1 (12 : Int))) g24)
  (∀ g25 : G, Ex g23 g25 →
  R (.bool false) g25))
  ((CallsP Try.prog 40 #[(.slice x2a_1 x2l_1 x2c_1)] g23 fun v g26 =>
  ∃ x_2 : ByteArray, v = (.string x_2) ∧ ifB (strEq x0_1 x_2)
  (∀ g27 : G, Ex g26 g27 →
  R (.bool (eqI x1_1 (0 : Int))) g27)
  (∀ g28 : G, Ex g26 g28 →
  R (.bool false) g28)))) → J_2 g23) →
  ifB (!eqI x0 x0_2)
  (∀ g29 : G, Ex g22 g29 →
  R (.bool false) g29)
  (ifB (!eqI x1 x1_3)
  (∀ g30 : G, Ex g22 g30 →
  R (.bool false) g30)
  ((CallsP Try.prog 39 #[(.slice x2a x2l x2c), (.slice x2a_1 x2l_1 x2c_1)] g22 fun v g31 =>
  ∃ x_3 : Bool, v = (.bool x_3) ∧ ifB (!x_3)
  (∀ g32 : G, Ex g31 g32 →
  R (.bool false) g32)
  (ifB (!eqI x3 (0 : Int))
  (∀ g33 : G, Ex g31 g33 →
  R (.bool false) g33)
  (J_2 g31))))))))) → J_1 g14) →
  (CallsP Try.prog 36 #[(.agg ⟨[(.slice h0a h0l h0c), (.int .i64 h1), (.int .i64 h2)]⟩)] g5 fun v g34 =>
  ∃ xa : Option Addr, ∃ xl : Nat, ∃ xc : Nat, v = (.slice xa xl xc) ∧ (CallsP Try.prog 35 #[(.slice x0a x0l x0c), (.slice xa xl xc)] g34 fun v g35 =>
  ∃ x_4 : Bool, v = (.bool x_4) ∧ ifB (!x_4)
  (∀ g36 : G, Ex g35 g36 →
  R (.bool false) g36)
  (ifB (!eqI x1_2 (0 : Int))
  (∀ g37 : G, Ex g35 g37 →
  R (.bool false) g37)
  (J_1 g35)))))))))) → J g1) →
  ∀ g38 : G, Ex g g38 →
  (CallsP Try.prog 15 #[] g38 fun v g39 =>
  ∃ x_5 : Bool, v = (.bool x_5) ∧ ifB (!x_5)
  ((CallsP Try.prog 15 #[] g39 fun v g40 =>
  ∃ x_6 : Bool, v = (.bool x_6) ∧ ∀ g41 : G, Ex g40 g41 →
  R (.bool x_6) g41))
  ((CallsP Try.prog 16 #[(.agg ⟨[(.slice h0a h0l h0c), (.int .i64 h1), (.int .i64 h2)]⟩)] g39 fun v g42 =>
  ∃ x_7 : Bool, v = (.bool x_7) ∧ ifB (!x_7)
  ((CallsP Try.prog 15 #[] g42 fun v g43 =>
  ∃ x_8 : Bool, v = (.bool x_8) ∧ ∀ g44 : G, Ex g43 g44 →
  R (.bool x_8) g44))
  (J g42))))
theorem F6_eq (h0a : Option Addr) (h0l : Nat) (h0c : Nat) (h1 : Int) (h2 : Int) (w0 : Bool) (w1 : Int) (g : G) (R : Value → G → Prop) : fnG cfg6 156 [.tmp 4] c6 an6 [(.agg ⟨[(.slice h0a h0l h0c), (.int .i64 h1), (.int .i64 h2)]⟩), (.agg ⟨[(.bool w0), (.int .i64 w1)]⟩)] g nobody R = F6 h0a h0l h0c h1 h2 w0 w1 g R := by kernel_rfl
theorem call6 (h0a : Option Addr) (h0l : Nat) (h0c : Nat) (h1 : Int) (h2 : Int) (w0 : Bool) (w1 : Int) (g : G) (R : Value → G → Prop) (hF : F6 h0a h0l h0c h1 h2 w0 w1 g R) : CallsG Try.prog 6 #[(.agg ⟨[(.slice h0a h0l h0c), (.int .i64 h1), (.int .i64 h2)]⟩), (.agg ⟨[(.bool w0), (.int .i64 w1)]⟩)] g nobody R :=
  fn_soundG (c := cfg6) TTok FNSok mixed Try.func6 (show Try.f6.body = some c6 by kernel_rfl) (show Try.f6.ntmps = 156 by kernel_rfl) (show Try.f6.results.toList = [.tmp 4] by kernel_rfl) rfl ((F6_eq h0a h0l h0c h1 h2 w0 w1 g R).mpr hF)

/- 7 pilaster/pilasterlaw49.HeapRoom -/
noncomputable def c7 : Code := match Try.f7.body with
  | some c => c
  | none => .skip
noncomputable def cfg7 : Cfg := ⟨Try.prog, TT, FNS, [5, 14, 15, 18], [(5, 5), (14, 14), (15, 15), (18, 18), (119, 14), (134, 14)], [], TCH, false, false⟩
def an7 : AnnG := (.seq .leaf (.join ⟨[], [], []⟩ (.seq .leaf (.cond (.seq .leaf .leaf) .leaf)) (.seq .leaf (.seq (.seq .leaf (.cond (.seq .leaf .leaf) .leaf)) (.seq .leaf (.seq .leaf (.seq .leaf (.seq (.seq .leaf (.blk (.loop ⟨[(7, .int .i64), (8, .sl), (9, .sl), (44, .int .i64)], [(5, 5, 0)], [(5, [(.sl), (.int .i64), (.int .i64)])]⟩ (.seq .leaf (.seq (.cond .leaf .leaf) (.join ⟨[(7, .int .i64), (8, .sl), (9, .sl)], [(5, 5, 0)], [(5, [(.sl), (.int .i64), (.int .i64)])]⟩ (.blk (.seq .leaf (.seq .leaf (.seq (.seq .leaf (.blk (.loop ⟨[(55, .int .i64)], [], []⟩ (.seq .leaf (.seq (.cond .leaf .leaf) (.seq (.blk (.seq .leaf (.seq .leaf (.join ⟨[(72, .bool)], [], []⟩ .leaf (.cond .leaf .leaf))))) .leaf)))))) (.seq .leaf (.seq (.seq .leaf (.cond (.seq (.seq .leaf (.cond (.seq .leaf .leaf) .leaf)) .leaf) .leaf)) (.join ⟨[], [], []⟩ (.seq .leaf (.cond (.seq .leaf .leaf) .leaf)) (.seq (.treeP true [5] 4 (.quiet 0 (.quiet 1 (.quiet 2 (.eff 3 .fin .fin))))) (.treeB 11 (.quiet 0 (.quiet 1 (.quiet 4 (.quiet 8 (.quiet 9 (.eff 2 (.eff 3 (.eff 5 (.eff 6 (.eff 7 (.eff 10 .fin .fin) (.eff 10 (.eff 7 .fin .fin) .fin)) (.eff 10 (.eff 6 (.eff 7 .fin .fin) .fin) .fin)) (.eff 10 (.eff 5 (.eff 6 (.eff 7 .fin .fin) .fin) .fin) .fin)) (.eff 10 (.eff 3 (.eff 5 (.eff 6 (.eff 7 .fin .fin) .fin) .fin) .fin) .fin)) (.eff 10 (.eff 2 (.eff 3 (.eff 5 (.eff 6 (.eff 7 .fin .fin) .fin) .fin) .fin) .fin) .fin)))))))))))))))) .leaf)))))) (.seq (.seq .leaf (.blk (.loop ⟨[(151, .int .i64)], [], []⟩ (.seq .leaf (.seq (.cond .leaf .leaf) (.seq (.blk (.seq .leaf (.seq .leaf (.seq .leaf (.cond (.seq .leaf .leaf) .leaf))))) .leaf)))))) (.seq .leaf (.seq .leaf .leaf)))))))))))
def F7 (limit : Int) (lengthsa : Option Addr) (lengthsl : Nat) (lengthsc : Nat) (g : G) (R : Value → G → Prop) : Prop :=
  ∀ J : G → Prop,
  (∀ g1 : G, (InI64 limit ∧ (700 : Int) ≠ 0 ∧ (CallsP Try.prog 17 #[(.int .i64 (Int.tmod limit (700 : Int)))] g1 fun v g2 =>
  ∃ x00a : Option Addr, ∃ x00l : Nat, ∃ x00c : Nat, ∃ x01 : Int, ∃ x02 : Int, ∃ x1 : Int, v = (.tuple ⟨[(.agg ⟨[(.slice x00a x00l x00c), (.int .i64 x01), (.int .i64 x02)]⟩), (.int .i64 x1)]⟩) ∧ ifB (!eqI x1 (0 : Int))
  (∀ g3 : G, Ex g2 g3 →
  R (.bool false) g3)
  (∃ Inv : Nat → Int → Option Addr → Nat → Nat → Option Addr → Nat → Nat → Int → Option Addr → Nat → Nat → Int → Int → G → Prop, (∀ g4 : G, Ex g2 g4 →
  (∃ m0 : Nat, Inv m0 (0 : Int) none 0 0 none 0 0 (0 : Int) x00a x00l x00c x01 x02 g4)) ∧
  ∀ m : Nat, ∀ used : Int, ∀ madea : Option Addr, ∀ madel : Nat, ∀ madec : Nat, ∀ ata : Option Addr, ∀ atl : Nat, ∀ atc : Nat, ∀ v_1 : Int, ∀ h0a : Option Addr, ∀ h0l : Nat, ∀ h0c : Nat, ∀ h1 : Int, ∀ h2 : Int, ∀ g5 : G, Le g2 g5 → Inv m used madea madel madec ata atl atc v_1 h0a h0l h0c h1 h2 g5 →
  ifB (ltI v_1 ((lengthsl : Nat) : Int))
  (∀ J_1 : Int → Option Addr → Nat → Nat → Option Addr → Nat → Nat → Option Addr → Nat → Nat → Int → Int → G → Prop,
  (∀ used_1 : Int, ∀ madea_1 : Option Addr, ∀ madel_1 : Nat, ∀ madec_1 : Nat, ∀ ata_1 : Option Addr, ∀ atl_1 : Nat, ∀ atc_1 : Nat, ∀ h0a_1 : Option Addr, ∀ h0l_1 : Nat, ∀ h0c_1 : Nat, ∀ h1_1 : Int, ∀ h2_1 : Int, ∀ g6 : G, (InI64 (v_1 + (1 : Int)) ∧ (∃ m_1 : Nat, m_1 < m ∧ Inv m_1 used_1 madea_1 madel_1 madec_1 ata_1 atl_1 atc_1 (v_1 + (1 : Int)) h0a_1 h0l_1 h0c_1 h1_1 h2_1 g6)) → J_1 used_1 madea_1 madel_1 madec_1 ata_1 atl_1 atc_1 h0a_1 h0l_1 h0c_1 h1_1 h2_1 g6) →
  (0 ≤ v_1 ∧ v_1 < ((lengthsl : Nat) : Int)) ∧ derefP lengthsa fun ad => ∃ k : Int, g5.w.cell? (Addr.add ad (Int.toNat v_1 * 1)) = some (.int .u8 k) ∧ InI64 k ∧ (13 : Int) ≠ 0 ∧ ∃ la : Option Addr, ∃ ll : Nat, ∃ lc : Nat, ∃ wo1 : World, Sem.run Try.prog (Instr.makeSlice 22 (.int .i64 (Int.tmod k (13 : Int))) (.int .i64 (Int.tmod k (13 : Int)))) g5.w = .ok (.slice la ll lc) wo1 ∧ ∃ g7 : G, g7.w = wo1 ∧ Stp g.w.heap.size nobody g5 g7 ∧ ∃ Inv_1 : Nat → Int → G → Prop, ((∃ m0 : Nat, Inv_1 m0 (0 : Int) g7)) ∧
  ∀ m_2 : Nat, ∀ v_2 : Int, ∀ g8 : G, Le g7 g8 → Inv_1 m_2 v_2 g8 →
  ifB (ltI v_2 ((ll : Nat) : Int))
  (InI64 (v_1 - v_2) ∧ (0 ≤ v_2 ∧ v_2 < ((ll : Nat) : Int)) ∧ derefP la fun ad_1 => stOk g8.w (Addr.add ad_1 (Int.toNat v_2 * 2)) 2 ∧ ¬ g8.X (Addr.block (Addr.add ad_1 (Int.toNat v_2 * 2))) ∧ mutAt g8 (Addr.add ad_1 (Int.toNat v_2 * 2)) 2 ∧ ((Addr.block (Addr.add ad_1 (Int.toNat v_2 * 2))) < g.w.heap.size → nobody (Addr.block (Addr.add ad_1 (Int.toNat v_2 * 2)))) ∧ ∀ g9 : G, StG false g8 (Addr.add ad_1 (Int.toNat v_2 * 2)) [(.bool false), (.int .i64 (v_1 - v_2))] g9 →
  ∀ J_2 : Bool → G → Prop,
  (∀ v_3 : Bool, ∀ g10 : G, (ifB v_3
  (InI64 (v_1 + v_2) ∧ ((atl : Nat) : Int) ≠ 0 ∧ (0 ≤ (Int.tmod (v_1 + v_2) ((atl : Nat) : Int)) ∧ (Int.tmod (v_1 + v_2) ((atl : Nat) : Int)) < ((atl : Nat) : Int)) ∧ derefP ata fun ad_2 => ∃ x0 : Bool, ∃ x1_1 : Int, g10.w.cell? (Addr.add ad_2 (Int.toNat (Int.tmod (v_1 + v_2) ((atl : Nat) : Int)) * 2)) = some (.bool x0) ∧ g10.w.cell? (Addr.add (Addr.add ad_2 (Int.toNat (Int.tmod (v_1 + v_2) ((atl : Nat) : Int)) * 2)) 1) = some (.int .i64 x1_1) ∧ (0 ≤ v_2 ∧ v_2 < ((ll : Nat) : Int)) ∧ derefP la fun ad_3 => stOk g10.w (Addr.add ad_3 (Int.toNat v_2 * 2)) 2 ∧ ¬ g10.X (Addr.block (Addr.add ad_3 (Int.toNat v_2 * 2))) ∧ mutAt g10 (Addr.add ad_3 (Int.toNat v_2 * 2)) 2 ∧ ((Addr.block (Addr.add ad_3 (Int.toNat v_2 * 2))) < g.w.heap.size → nobody (Addr.block (Addr.add ad_3 (Int.toNat v_2 * 2)))) ∧ ∀ g11 : G, StG false g10 (Addr.add ad_3 (Int.toNat v_2 * 2)) [(.bool x0), (.int .i64 x1_1)] g11 →
  InI64 (v_2 + (1 : Int)) ∧ (∃ m_3 : Nat, m_3 < m_2 ∧ Inv_1 m_3 (v_2 + (1 : Int)) g11))
  (InI64 (v_2 + (1 : Int)) ∧ (∃ m_3 : Nat, m_3 < m_2 ∧ Inv_1 m_3 (v_2 + (1 : Int)) g10))) → J_2 v_3 g10) →
  ifB (ltI (0 : Int) ((atl : Nat) : Int))
  ((2 : Int) ≠ 0 ∧ J_2 (eqI (Int.tmod v_2 (2 : Int)) (1 : Int)) g9)
  (J_2 false g9))
  ((CallsP Try.prog 30 #[(.agg ⟨[(.slice h0a h0l h0c), (.int .i64 h1), (.int .i64 h2)]⟩), (.int .i64 (3 : Int)), (.int .i64 v_1), (.slice la ll lc)] g8 fun v g12 =>
  ∃ x00a_1 : Option Addr, ∃ x00l_1 : Nat, ∃ x00c_1 : Nat, ∃ x01_1 : Int, ∃ x02_1 : Int, ∃ x10 : Bool, ∃ x11 : Int, ∃ x2 : Int, v = (.tuple ⟨[(.agg ⟨[(.slice x00a_1 x00l_1 x00c_1), (.int .i64 x01_1), (.int .i64 x02_1)]⟩), (.agg ⟨[(.bool x10), (.int .i64 x11)]⟩), (.int .i64 x2)]⟩) ∧ InI64 (used + (3 : Int)) ∧ InI64 ((used + (3 : Int)) + ((ll : Nat) : Int)) ∧ InI64 limit ∧ (700 : Int) ≠ 0 ∧ ifB (ltI (Int.tmod limit (700 : Int)) ((used + (3 : Int)) + ((ll : Nat) : Int)))
  (ifB (!eqI x2 (25 : Int))
  (∀ g13 : G, Ex g12 g13 →
  R (.bool false) g13)
  (∀ g14 : G, Ex g12 g14 →
  (CallsP Try.prog 19 #[(.agg ⟨[(.slice x00a_1 x00l_1 x00c_1), (.int .i64 x01_1), (.int .i64 x02_1)]⟩)] g14 fun v g15 =>
  ∃ x : Bool, v = (.bool x) ∧ ifB (!x)
  (∀ g16 : G, Ex g15 g16 →
  R (.bool false) g16)
  (J_1 used madea madel madec ata atl atc h0a h0l h0c h1 h2 g15))))
  (∀ J_3 : G → Prop,
  (∀ g17 : G, (∀ g18 : G, Ex g17 g18 →
  ∃ MR1 : Nat → Prop, (∀ b, MR1 b → ¬ g18.X b) ∧ ∀ g19 : G, Ex g18 g19 →
  ∃ MR2 : Nat → Prop, (∀ b, MR2 b → ¬ g19.X b) ∧ ((∀ g20 : G, NewL g19 g20 41 [(.bool false), (.int .i64 v_1)] →
  (∃ xa : Option Addr, ∃ xl : Nat, ∃ xc : Nat, ∃ wo2 : World, Sem.run Try.prog (Builtin.append_ #[22, 22] 22 #[(.slice (some ⟨g19.w.heap.size, 0, none⟩) 1 1), (.slice la ll lc)]) g20.w = .ok (.slice xa xl xc) wo2 ∧ ∃ g21 : G, g21.w = wo2 ∧ Stp g.w.heap.size nobody g20 g21 ∧ SameBut MR2 g19 g21 ∧ (∀ g22 : G, NewL g21 g22 22 [(.slice xa xl xc)] →
  (∃ madea_2 : Option Addr, ∃ madel_2 : Nat, ∃ madec_2 : Nat, ∃ wo3 : World, Sem.run Try.prog (Builtin.append_ #[67, 67] 67 #[(.slice madea madel madec), (.slice (some ⟨g21.w.heap.size, 0, none⟩) 1 1)]) g22.w = .ok (.slice madea_2 madel_2 madec_2) wo3 ∧ ∃ g23 : G, g23.w = wo3 ∧ Stp g.w.heap.size nobody g22 g23 ∧ SameBut MR2 g19 g23 ∧ ∀ g24 : G, NewL g23 g24 41 [(.bool x10), (.int .i64 x11)] →
  ∃ ata_2 : Option Addr, ∃ atl_2 : Nat, ∃ atc_2 : Nat, ∃ wo4 : World, Sem.run Try.prog (Builtin.append_ #[22, 22] 22 #[(.slice ata atl atc), (.slice (some ⟨g23.w.heap.size, 0, none⟩) 1 1)]) g24.w = .ok (.slice ata_2 atl_2 atc_2) wo4 ∧ ∃ g25 : G, g25.w = wo4 ∧ Stp g.w.heap.size nobody g24 g25 ∧ J_1 x01_1 madea_2 madel_2 madec_2 ata_2 atl_2 atc_2 x00a_1 x00l_1 x00c_1 x01_1 x02_1 g25) ∧ (∀ g26 : G, NewL g22 g26 41 [(.bool x10), (.int .i64 x11)] →
  ∃ madea_3 : Option Addr, ∃ madel_3 : Nat, ∃ madec_3 : Nat, ∃ wo5 : World, Sem.run Try.prog (Builtin.append_ #[67, 67] 67 #[(.slice madea madel madec), (.slice (some ⟨g21.w.heap.size, 0, none⟩) 1 1)]) g26.w = .ok (.slice madea_3 madel_3 madec_3) wo5 ∧ ∃ g27 : G, g27.w = wo5 ∧ Stp g.w.heap.size nobody g26 g27 ∧ SameBut MR2 g19 g27 ∧ ∃ ata_3 : Option Addr, ∃ atl_3 : Nat, ∃ atc_3 : Nat, ∃ wo6 : World, Sem.run Try.prog (Builtin.append_ #[22, 22] 22 #[(.slice ata atl atc), (.slice (some ⟨g22.w.heap.size, 0, none⟩) 1 1)]) g27.w = .ok (.slice ata_3 atl_3 atc_3) wo6 ∧ ∃ g28 : G, g28.w = wo6 ∧ Stp g.w.heap.size nobody g27 g28 ∧ J_1 x01_1 madea_3 madel_3 madec_3 ata_3 atl_3 atc_3 x00a_1 x00l_1 x00c_1 x01_1 x02_1 g28)) ∧ (∀ g29 : G, NewL g21 g29 41 [(.bool x10), (.int .i64 x11)] →
  ∀ g30 : G, NewL g29 g30 22 [(.slice xa xl xc)] →
  ∃ madea_4 : Option Addr, ∃ madel_4 : Nat, ∃ madec_4 : Nat, ∃ wo7 : World, Sem.run Try.prog (Builtin.append_ #[67, 67] 67 #[(.slice madea madel madec), (.slice (some ⟨g29.w.heap.size, 0, none⟩) 1 1)]) g30.w = .ok (.slice madea_4 madel_4 madec_4) wo7 ∧ ∃ g31 : G, g31.w = wo7 ∧ Stp g.w.heap.size nobody g30 g31 ∧ SameBut MR2 g19 g31 ∧ ∃ ata_4 : Option Addr, ∃ atl_4 : Nat, ∃ atc_4 : Nat, ∃ wo8 : World, Sem.run Try.prog (Builtin.append_ #[22, 22] 22 #[(.slice ata atl atc), (.slice (some ⟨g21.w.heap.size, 0, none⟩) 1 1)]) g31.w = .ok (.slice ata_4 atl_4 atc_4) wo8 ∧ ∃ g32 : G, g32.w = wo8 ∧ Stp g.w.heap.size nobody g31 g32 ∧ J_1 x01_1 madea_4 madel_4 madec_4 ata_4 atl_4 atc_4 x00a_1 x00l_1 x00c_1 x01_1 x02_1 g32)) ∧ (∀ g33 : G, NewL g20 g33 41 [(.bool x10), (.int .i64 x11)] →
  ∃ xa_1 : Option Addr, ∃ xl_1 : Nat, ∃ xc_1 : Nat, ∃ wo9 : World, Sem.run Try.prog (Builtin.append_ #[22, 22] 22 #[(.slice (some ⟨g19.w.heap.size, 0, none⟩) 1 1), (.slice la ll lc)]) g33.w = .ok (.slice xa_1 xl_1 xc_1) wo9 ∧ ∃ g34 : G, g34.w = wo9 ∧ Stp g.w.heap.size nobody g33 g34 ∧ SameBut MR2 g19 g34 ∧ ∀ g35 : G, NewL g34 g35 22 [(.slice xa_1 xl_1 xc_1)] →
  ∃ madea_5 : Option Addr, ∃ madel_5 : Nat, ∃ madec_5 : Nat, ∃ wo10 : World, Sem.run Try.prog (Builtin.append_ #[67, 67] 67 #[(.slice madea madel madec), (.slice (some ⟨g34.w.heap.size, 0, none⟩) 1 1)]) g35.w = .ok (.slice madea_5 madel_5 madec_5) wo10 ∧ ∃ g36 : G, g36.w = wo10 ∧ Stp g.w.heap.size nobody g35 g36 ∧ SameBut MR2 g19 g36 ∧ ∃ ata_5 : Option Addr, ∃ atl_5 : Nat, ∃ atc_5 : Nat, ∃ wo11 : World, Sem.run Try.prog (Builtin.append_ #[22, 22] 22 #[(.slice ata atl atc), (.slice (some ⟨g20.w.heap.size, 0, none⟩) 1 1)]) g36.w = .ok (.slice ata_5 atl_5 atc_5) wo11 ∧ ∃ g37 : G, g37.w = wo11 ∧ Stp g.w.heap.size nobody g36 g37 ∧ J_1 x01_1 madea_5 madel_5 madec_5 ata_5 atl_5 atc_5 x00a_1 x00l_1 x00c_1 x01_1 x02_1 g37)) ∧ (∀ g38 : G, NewL g19 g38 41 [(.bool x10), (.int .i64 x11)] →
  ∀ g39 : G, NewL g38 g39 41 [(.bool false), (.int .i64 v_1)] →
  ∃ xa_2 : Option Addr, ∃ xl_2 : Nat, ∃ xc_2 : Nat, ∃ wo12 : World, Sem.run Try.prog (Builtin.append_ #[22, 22] 22 #[(.slice (some ⟨g38.w.heap.size, 0, none⟩) 1 1), (.slice la ll lc)]) g39.w = .ok (.slice xa_2 xl_2 xc_2) wo12 ∧ ∃ g40 : G, g40.w = wo12 ∧ Stp g.w.heap.size nobody g39 g40 ∧ SameBut MR2 g19 g40 ∧ ∀ g41 : G, NewL g40 g41 22 [(.slice xa_2 xl_2 xc_2)] →
  ∃ madea_6 : Option Addr, ∃ madel_6 : Nat, ∃ madec_6 : Nat, ∃ wo13 : World, Sem.run Try.prog (Builtin.append_ #[67, 67] 67 #[(.slice madea madel madec), (.slice (some ⟨g40.w.heap.size, 0, none⟩) 1 1)]) g41.w = .ok (.slice madea_6 madel_6 madec_6) wo13 ∧ ∃ g42 : G, g42.w = wo13 ∧ Stp g.w.heap.size nobody g41 g42 ∧ SameBut MR2 g19 g42 ∧ ∃ ata_6 : Option Addr, ∃ atl_6 : Nat, ∃ atc_6 : Nat, ∃ wo14 : World, Sem.run Try.prog (Builtin.append_ #[22, 22] 22 #[(.slice ata atl atc), (.slice (some ⟨g19.w.heap.size, 0, none⟩) 1 1)]) g42.w = .ok (.slice ata_6 atl_6 atc_6) wo14 ∧ ∃ g43 : G, g43.w = wo14 ∧ Stp g.w.heap.size nobody g42 g43 ∧ J_1 x01_1 madea_6 madel_6 madec_6 ata_6 atl_6 atc_6 x00a_1 x00l_1 x00c_1 x01_1 x02_1 g43)) ∧ (∀ g44 : G, NewL g19 g44 41 [(.bool x10), (.int .i64 x11)] →
  ∀ g45 : G, NewL g44 g45 41 [(.bool false), (.int .i64 v_1)] →
  ∃ xa_3 : Option Addr, ∃ xl_3 : Nat, ∃ xc_3 : Nat, ∃ wo15 : World, Sem.run Try.prog (Builtin.append_ #[22, 22] 22 #[(.slice (some ⟨g44.w.heap.size, 0, none⟩) 1 1), (.slice la ll lc)]) g45.w = .ok (.slice xa_3 xl_3 xc_3) wo15 ∧ ∃ g46 : G, g46.w = wo15 ∧ Stp g.w.heap.size nobody g45 g46 ∧ SameBut MR2 g19 g46 ∧ ∀ g47 : G, NewL g46 g47 22 [(.slice xa_3 xl_3 xc_3)] →
  ∃ madea_7 : Option Addr, ∃ madel_7 : Nat, ∃ madec_7 : Nat, ∃ wo16 : World, Sem.run Try.prog (Builtin.append_ #[67, 67] 67 #[(.slice madea madel madec), (.slice (some ⟨g46.w.heap.size, 0, none⟩) 1 1)]) g47.w = .ok (.slice madea_7 madel_7 madec_7) wo16 ∧ ∃ g48 : G, g48.w = wo16 ∧ Stp g.w.heap.size nobody g47 g48 ∧ SameBut MR2 g19 g48 ∧ ∃ ata_7 : Option Addr, ∃ atl_7 : Nat, ∃ atc_7 : Nat, ∃ wo17 : World, Sem.run Try.prog (Builtin.append_ #[22, 22] 22 #[(.slice ata atl atc), (.slice (some ⟨g19.w.heap.size, 0, none⟩) 1 1)]) g48.w = .ok (.slice ata_7 atl_7 atc_7) wo17 ∧ ∃ g49 : G, g49.w = wo17 ∧ Stp g.w.heap.size nobody g48 g49 ∧ J_1 x01_1 madea_7 madel_7 madec_7 ata_7 atl_7 atc_7 x00a_1 x00l_1 x00c_1 x01_1 x02_1 g49)) → J_3 g17) →
  ifB (!eqI x2 (0 : Int))
  (∀ g50 : G, Ex g12 g50 →
  R (.bool false) g50)
  (∀ g51 : G, Ex g12 g51 →
  ifB (!((x10 == true) && ((eqI x11 used) && true)))
  (∀ g52 : G, Ex g51 g52 →
  R (.bool false) g52)
  (InI64 (used + (3 : Int)) ∧ InI64 ((used + (3 : Int)) + ((ll : Nat) : Int)) ∧ ifB (!eqI x01_1 ((used + (3 : Int)) + ((ll : Nat) : Int)))
  (∀ g53 : G, Ex g51 g53 →
  R (.bool false) g53)
  ((CallsP Try.prog 21 #[(.agg ⟨[(.slice x00a_1 x00l_1 x00c_1), (.int .i64 x01_1), (.int .i64 x02_1)]⟩)] g51 fun v g54 =>
  ∃ x_1 : Bool, v = (.bool x_1) ∧ ifB (!x_1)
  (∀ g55 : G, Ex g54 g55 →
  R (.bool false) g55)
  (J_3 g54)))))))))
  (∃ Inv_2 : Nat → Int → G → Prop, ((∃ m0 : Nat, Inv_2 m0 (0 : Int) g5)) ∧
  ∀ m_4 : Nat, ∀ v_4 : Int, ∀ g56 : G, Le g5 g56 → Inv_2 m_4 v_4 g56 →
  ifB (ltI v_4 ((atl : Nat) : Int))
  ((0 ≤ v_4 ∧ v_4 < ((atl : Nat) : Int)) ∧ derefP ata fun ad_4 => ∃ x0_1 : Bool, ∃ x1_2 : Int, g56.w.cell? (Addr.add ad_4 (Int.toNat v_4 * 2)) = some (.bool x0_1) ∧ g56.w.cell? (Addr.add (Addr.add ad_4 (Int.toNat v_4 * 2)) 1) = some (.int .i64 x1_2) ∧ ∀ g57 : G, Ex g56 g57 →
  (CallsP Try.prog 32 #[(.agg ⟨[(.slice h0a h0l h0c), (.int .i64 h1), (.int .i64 h2)]⟩), (.agg ⟨[(.bool x0_1), (.int .i64 x1_2)]⟩)] g57 fun v g58 =>
  ∃ x0_2 : Int, ∃ x1_3 : Int, ∃ x2a : Option Addr, ∃ x2l : Nat, ∃ x2c : Nat, ∃ x3 : Int, v = (.tuple ⟨[(.int .i64 x0_2), (.int .i64 x1_3), (.slice x2a x2l x2c), (.int .i64 x3)]⟩) ∧ ifB (!eqI x3 (0 : Int))
  (∀ g59 : G, Ex g58 g59 →
  R (.bool false) g59)
  (ifB (!eqI x0_2 (3 : Int))
  (∀ g60 : G, Ex g58 g60 →
  R (.bool false) g60)
  ((0 ≤ v_4 ∧ v_4 < ((madel : Nat) : Int)) ∧ derefP madea fun ad_5 => ∃ xa_4 : Option Addr, ∃ xl_4 : Nat, ∃ xc_4 : Nat, g58.w.cell? (Addr.add ad_5 (Int.toNat v_4 * 1)) = some (.slice xa_4 xl_4 xc_4) ∧ (0 ≤ (0 : Int) ∧ (0 : Int) < ((xl_4 : Nat) : Int)) ∧ derefP xa_4 fun ad_6 => ∃ x_2 : Int, g58.w.cell? (Addr.add (Addr.add ad_6 (Int.toNat (0 : Int) * 2)) 1) = some (.int .i64 x_2) ∧ ifB (!eqI x1_3 x_2)
  (∀ g61 : G, Ex g58 g61 →
  R (.bool false) g61)
  ((0 ≤ v_4 ∧ v_4 < ((madel : Nat) : Int)) ∧ derefP madea fun ad_7 => ∃ xa_5 : Option Addr, ∃ xl_5 : Nat, ∃ xc_5 : Nat, g58.w.cell? (Addr.add ad_7 (Int.toNat v_4 * 1)) = some (.slice xa_5 xl_5 xc_5) ∧ (0 ≤ (1 : Int) ∧ (1 : Int) ≤ ((xl_5 : Nat) : Int)) ∧ (CallsP Try.prog 39 #[(.slice x2a x2l x2c), (.slice (slAddr xa_5 xc_5 (Int.toNat (1 : Int)) 2) (xl_5 - (Int.toNat (1 : Int))) (xc_5 - (Int.toNat (1 : Int))))] g58 fun v g62 =>
  ∃ x_3 : Bool, v = (.bool x_3) ∧ ifB (!x_3)
  (∀ g63 : G, Ex g62 g63 →
  R (.bool false) g63)
  (InI64 (v_4 + (1 : Int)) ∧ (∃ m_5 : Nat, m_5 < m_4 ∧ Inv_2 m_5 (v_4 + (1 : Int)) g62))))))))
  ((CallsP Try.prog 34 #[(.agg ⟨[(.slice h0a h0l h0c), (.int .i64 h1), (.int .i64 h2)]⟩)] g56 fun v g64 =>
  ∃ x0a : Option Addr, ∃ x0l : Nat, ∃ x0c : Nat, ∃ x1_4 : Int, v = (.tuple ⟨[(.slice x0a x0l x0c), (.int .i64 x1_4)]⟩) ∧ ifB (eqI x1_4 (0 : Int))
  (∀ g65 : G, Ex g64 g65 →
  R (.bool (eqI ((x0l : Nat) : Int) ((atl : Nat) : Int))) g65)
  (∀ g66 : G, Ex g64 g66 →
  R (.bool false) g66))))))) → J g1) →
  (CallsP Try.prog 15 #[] g fun v g67 =>
  ∃ x_4 : Bool, v = (.bool x_4) ∧ ifB (!x_4)
  ((CallsP Try.prog 15 #[] g67 fun v g68 =>
  ∃ x_5 : Bool, v = (.bool x_5) ∧ ∀ g69 : G, Ex g68 g69 →
  R (.bool x_5) g69))
  (ifB (ltI (60 : Int) ((lengthsl : Nat) : Int))
  ((CallsP Try.prog 15 #[] g67 fun v g70 =>
  ∃ x_6 : Bool, v = (.bool x_6) ∧ ∀ g71 : G, Ex g70 g71 →
  R (.bool x_6) g71))
  (J g67)))
theorem F7_eq (limit : Int) (lengthsa : Option Addr) (lengthsl : Nat) (lengthsc : Nat) (g : G) (R : Value → G → Prop) : fnG cfg7 206 [.tmp 4] c7 an7 [(.int .u16 limit), (.slice lengthsa lengthsl lengthsc)] g nobody R = F7 limit lengthsa lengthsl lengthsc g R := by kernel_rfl
theorem call7 (limit : Int) (lengthsa : Option Addr) (lengthsl : Nat) (lengthsc : Nat) (g : G) (R : Value → G → Prop) (hF : F7 limit lengthsa lengthsl lengthsc g R) : CallsG Try.prog 7 #[(.int .u16 limit), (.slice lengthsa lengthsl lengthsc)] g nobody R :=
  fn_soundG (c := cfg7) TTok FNSok mixed Try.func7 (show Try.f7.body = some c7 by kernel_rfl) (show Try.f7.ntmps = 206 by kernel_rfl) (show Try.f7.results.toList = [.tmp 4] by kernel_rfl) rfl ((F7_eq limit lengthsa lengthsl lengthsc g R).mpr hF)

/- 10 pilaster/pilasterlaw49.HeapBack -/
noncomputable def c10 : Code := match Try.f10.body with
  | some c => c
  | none => .skip
noncomputable def cfg10 : Cfg := ⟨Try.prog, TT, FNS, [2, 3, 5, 6, 8], [(2, 2), (3, 3), (5, 5), (6, 6), (8, 8), (51, 5), (53, 2), (58, 5), (60, 2), (65, 5), (68, 2), (74, 5), (76, 2), (80, 2)], [], TCH, false, false⟩
def an10 : AnnG := (.seq .leaf (.join ⟨[], [], []⟩ (.seq .leaf (.cond (.seq .leaf .leaf) .leaf)) (.seq .leaf (.seq (.seq .leaf (.cond (.seq .leaf .leaf) .leaf)) (.seq .leaf (.seq (.tree 42 (.quiet 0 (.quiet 1 (.quiet 2 (.quiet 3 (.eff 4 (.quiet 5 (.quiet 6 (.quiet 7 (.eff 8 (.quiet 9 (.quiet 10 (.quiet 11 (.quiet 12 (.quiet 13 (.quiet 14 (.quiet 15 (.quiet 16 (.quiet 17 (.quiet 18 (.quiet 19 (.quiet 20 (.quiet 21 (.quiet 22 (.quiet 23 (.quiet 24 (.quiet 25 (.quiet 26 (.quiet 27 (.quiet 28 (.quiet 29 (.quiet 30 (.quiet 31 (.quiet 32 (.quiet 33 (.quiet 34 (.quiet 35 (.quiet 36 (.quiet 37 (.quiet 38 (.quiet 39 (.quiet 40 (.quiet 41 .fin))))))))))))))))))))))))))))))))) .fin)))) .fin)))))) .leaf))))))
def F10 (h0a : Option Addr) (h0l : Nat) (h0c : Nat) (h1 : Int) (h2 : Int) (v0 : Int) (v1 : Int) (v2 : ByteArray) (v3a : Option Addr) (v3l : Nat) (v3c : Nat) (v4a : Option Addr) (v4l : Nat) (v4c : Nat) (g : G) (R : Value → G → Prop) : Prop :=
  ∀ J : G → Prop,
  (∀ g1 : G, ((CallsP Try.prog 26 #[(.agg ⟨[(.slice h0a h0l h0c), (.int .i64 h1), (.int .i64 h2)]⟩), (.agg ⟨[(.int .i64 v0), (.int .i64 v1), (.string v2), (.slice v3a v3l v3c), (.slice v4a v4l v4c)]⟩)] g1 fun v g2 =>
  ∃ x00a : Option Addr, ∃ x00l : Nat, ∃ x00c : Nat, ∃ x01 : Int, ∃ x02 : Int, ∃ x10 : Bool, ∃ x11 : Int, ∃ x2 : Int, v = (.tuple ⟨[(.agg ⟨[(.slice x00a x00l x00c), (.int .i64 x01), (.int .i64 x02)]⟩), (.agg ⟨[(.bool x10), (.int .i64 x11)]⟩), (.int .i64 x2)]⟩) ∧ ifB (!eqI x2 (0 : Int))
  (∀ g3 : G, Ex g2 g3 →
  (CallsP Try.prog 19 #[(.agg ⟨[(.slice x00a x00l x00c), (.int .i64 x01), (.int .i64 x02)]⟩)] g3 fun v g4 =>
  ∃ x : Bool, v = (.bool x) ∧ ∀ g5 : G, Ex g4 g5 →
  R (.bool x) g5))
  (∀ g6 : G, Ex g2 g6 →
  (CallsP Try.prog 51 #[(.agg ⟨[(.slice x00a x00l x00c), (.int .i64 x01), (.int .i64 x02)]⟩), (.agg ⟨[(.bool x10), (.int .i64 x11)]⟩), (.int .i64 (1 : Int))] g6 fun v g7 =>
  ∃ x00 : Int, ∃ x01_1 : Int, ∃ x02_1 : ByteArray, ∃ x03a : Option Addr, ∃ x03l : Nat, ∃ x03c : Nat, ∃ x04a : Option Addr, ∃ x04l : Nat, ∃ x04c : Nat, ∃ x1 : Bool, v = (.tuple ⟨[(.agg ⟨[(.int .i64 x00), (.int .i64 x01_1), (.string x02_1), (.slice x03a x03l x03c), (.slice x04a x04l x04c)]⟩), (.bool x1)]⟩) ∧ ∀ g8 : G, Ex g7 g8 →
  ifB x1
  ((CallsP Try.prog 52 #[(.agg ⟨[(.int .i64 x00), (.int .i64 x01_1), (.string x02_1), (.slice x03a x03l x03c), (.slice x04a x04l x04c)]⟩), (.agg ⟨[(.int .i64 v0), (.int .i64 v1), (.string v2), (.slice v3a v3l v3c), (.slice v4a v4l v4c)]⟩)] g8 fun v g9 =>
  ∃ x_1 : Bool, v = (.bool x_1) ∧ ifB x_1
  ((CallsP Try.prog 21 #[(.agg ⟨[(.slice x00a x00l x00c), (.int .i64 x01), (.int .i64 x02)]⟩)] g9 fun v g10 =>
  ∃ x_2 : Bool, v = (.bool x_2) ∧ ifB x_2
  (ifB (eqI x02 h2)
  (ifB (leI h1 x01)
  (ifB (leI ((h0l : Nat) : Int) ((x00l : Nat) : Int))
  ((0 ≤ ((h0l : Nat) : Int) ∧ ((h0l : Nat) : Int) ≤ ((x00c : Nat) : Int)) ∧ (CallsP Try.prog 39 #[(.slice (slAddr x00a x00c 0 2) ((Int.toNat ((h0l : Nat) : Int)) - 0) (x00c - 0)), (.slice h0a h0l h0c)] g10 fun v g11 =>
  ∃ x_3 : Bool, v = (.bool x_3) ∧ ∀ g12 : G, Ex g11 g12 →
  R (.bool x_3) g12))
  (∀ g13 : G, Ex g10 g13 →
  R (.bool false) g13))
  (∀ g14 : G, Ex g10 g14 →
  R (.bool false) g14))
  (∀ g15 : G, Ex g10 g15 →
  R (.bool false) g15))
  (∀ g16 : G, Ex g10 g16 →
  R (.bool false) g16)))
  (∀ g17 : G, Ex g9 g17 →
  R (.bool false) g17)))
  (∀ g18 : G, Ex g8 g18 →
  R (.bool false) g18))))) → J g1) →
  ∀ g19 : G, Ex g g19 →
  (CallsP Try.prog 15 #[] g19 fun v g20 =>
  ∃ x_4 : Bool, v = (.bool x_4) ∧ ifB (!x_4)
  ((CallsP Try.prog 15 #[] g20 fun v g21 =>
  ∃ x_5 : Bool, v = (.bool x_5) ∧ ∀ g22 : G, Ex g21 g22 →
  R (.bool x_5) g22))
  ((CallsP Try.prog 16 #[(.agg ⟨[(.slice h0a h0l h0c), (.int .i64 h1), (.int .i64 h2)]⟩)] g20 fun v g23 =>
  ∃ x_6 : Bool, v = (.bool x_6) ∧ ifB (!x_6)
  ((CallsP Try.prog 15 #[] g23 fun v g24 =>
  ∃ x_7 : Bool, v = (.bool x_7) ∧ ∀ g25 : G, Ex g24 g25 →
  R (.bool x_7) g25))
  ((CallsP Try.prog 50 #[(.agg ⟨[(.int .i64 v0), (.int .i64 v1), (.string v2), (.slice v3a v3l v3c), (.slice v4a v4l v4c)]⟩), (.int .i64 (200 : Int)), (.int .i64 (1 : Int))] g23 fun v g26 =>
  ∃ x_8 : Int, v = (.int .i64 x_8) ∧ ifB (leI (200 : Int) x_8)
  ((CallsP Try.prog 15 #[] g26 fun v g27 =>
  ∃ x_9 : Bool, v = (.bool x_9) ∧ ∀ g28 : G, Ex g27 g28 →
  R (.bool x_9) g28))
  (J g26))))))
theorem F10_eq (h0a : Option Addr) (h0l : Nat) (h0c : Nat) (h1 : Int) (h2 : Int) (v0 : Int) (v1 : Int) (v2 : ByteArray) (v3a : Option Addr) (v3l : Nat) (v3c : Nat) (v4a : Option Addr) (v4l : Nat) (v4c : Nat) (g : G) (R : Value → G → Prop) : fnG cfg10 84 [.tmp 4] c10 an10 [(.agg ⟨[(.slice h0a h0l h0c), (.int .i64 h1), (.int .i64 h2)]⟩), (.agg ⟨[(.int .i64 v0), (.int .i64 v1), (.string v2), (.slice v3a v3l v3c), (.slice v4a v4l v4c)]⟩)] g nobody R = F10 h0a h0l h0c h1 h2 v0 v1 v2 v3a v3l v3c v4a v4l v4c g R := by kernel_rfl
theorem call10 (h0a : Option Addr) (h0l : Nat) (h0c : Nat) (h1 : Int) (h2 : Int) (v0 : Int) (v1 : Int) (v2 : ByteArray) (v3a : Option Addr) (v3l : Nat) (v3c : Nat) (v4a : Option Addr) (v4l : Nat) (v4c : Nat) (g : G) (R : Value → G → Prop) (hF : F10 h0a h0l h0c h1 h2 v0 v1 v2 v3a v3l v3c v4a v4l v4c g R) : CallsG Try.prog 10 #[(.agg ⟨[(.slice h0a h0l h0c), (.int .i64 h1), (.int .i64 h2)]⟩), (.agg ⟨[(.int .i64 v0), (.int .i64 v1), (.string v2), (.slice v3a v3l v3c), (.slice v4a v4l v4c)]⟩)] g nobody R :=
  fn_soundG (c := cfg10) TTok FNSok mixed Try.func10 (show Try.f10.body = some c10 by kernel_rfl) (show Try.f10.ntmps = 84 by kernel_rfl) (show Try.f10.results.toList = [.tmp 4] by kernel_rfl) rfl ((F10_eq h0a h0l h0c h1 h2 v0 v1 v2 v3a v3l v3c v4a v4l v4c g R).mpr hF)

/- 15 pilaster/pilasterlaw49.awake -/
noncomputable def c15 : Code := match Try.f15.body with
  | some c => c
  | none => .skip
noncomputable def cfg15 : Cfg := ⟨Try.prog, TT, FNS, [3, 5, 6], [(3, 3), (5, 5), (6, 6)], [], TCH, false, false⟩
def an15 : AnnG := (.seq .leaf (.seq .leaf (.seq .leaf (.seq .leaf (.seq .leaf (.seq .leaf .leaf))))))
def F15 (g : G) (R : Value → G → Prop) : Prop :=
  (CallsP Try.prog 18 #[(.int .i64 (1 : Int)), (.int .i64 (2 : Int))] g fun v g1 =>
  ∃ x0 : Int, ∃ x1 : Int, v = (.tuple ⟨[(.int .i64 x0), (.int .i64 x1)]⟩) ∧ (CallsP Try.prog 17 #[(.int .i64 (7 : Int))] g1 fun v g2 =>
  ∃ x00a : Option Addr, ∃ x00l : Nat, ∃ x00c : Nat, ∃ x01 : Int, ∃ x02 : Int, ∃ x1_1 : Int, v = (.tuple ⟨[(.agg ⟨[(.slice x00a x00l x00c), (.int .i64 x01), (.int .i64 x02)]⟩), (.int .i64 x1_1)]⟩) ∧ ∀ g3 : G, Ex g2 g3 →
  ∀ g4 : G, NewL g3 g4 38 [(.int .i64 (3 : Int)), (.int .i64 (0 : Int)), (.string (bs [])), (.slice none 0 0), (.slice none 0 0)] →
  (CallsP Try.prog 26 #[(.agg ⟨[(.slice x00a x00l x00c), (.int .i64 x01), (.int .i64 x02)]⟩), (.agg ⟨[(.int .i64 (4 : Int)), (.int .i64 (1 : Int)), (.string (bs [])), (.slice none 0 0), (.slice (some ⟨g3.w.heap.size, 0, none⟩) 1 1)]⟩)] g4 fun v g5 =>
  ∃ x00a_1 : Option Addr, ∃ x00l_1 : Nat, ∃ x00c_1 : Nat, ∃ x01_1 : Int, ∃ x02_1 : Int, ∃ x10 : Bool, ∃ x11 : Int, ∃ x2 : Int, v = (.tuple ⟨[(.agg ⟨[(.slice x00a_1 x00l_1 x00c_1), (.int .i64 x01_1), (.int .i64 x02_1)]⟩), (.agg ⟨[(.bool x10), (.int .i64 x11)]⟩), (.int .i64 x2)]⟩) ∧ ∀ g6 : G, Ex g5 g6 →
  (CallsP Try.prog 34 #[(.agg ⟨[(.slice x00a_1 x00l_1 x00c_1), (.int .i64 x01_1), (.int .i64 x02_1)]⟩)] g6 fun v g7 =>
  ∃ x0a : Option Addr, ∃ x0l : Nat, ∃ x0c : Nat, ∃ x1_2 : Int, v = (.tuple ⟨[(.slice x0a x0l x0c), (.int .i64 x1_2)]⟩) ∧ ifB (eqI x0 (5 : Int))
  (ifB (eqI x1 (0 : Int))
  (ifB (eqI x1_1 (0 : Int))
  (ifB (eqI x2 (0 : Int))
  (ifB ((x10 == true) && ((eqI x11 (3 : Int)) && true))
  (∀ g8 : G, NewL g7 g8 3 [(.int .i64 (0 : Int)), (.int .i64 (3 : Int))] →
  (CallsP Try.prog 35 #[(.slice x0a x0l x0c), (.slice (some ⟨g7.w.heap.size, 0, none⟩) 2 2)] g8 fun v g9 =>
  ∃ x : Bool, v = (.bool x) ∧ ifB x
  (∀ g10 : G, Ex g9 g10 →
  R (.bool (eqI x1_2 (0 : Int))) g10)
  (∀ g11 : G, Ex g9 g11 →
  R (.bool false) g11)))
  (∀ g12 : G, Ex g7 g12 →
  R (.bool false) g12))
  (∀ g13 : G, Ex g7 g13 →
  R (.bool false) g13))
  (∀ g14 : G, Ex g7 g14 →
  R (.bool false) g14))
  (∀ g15 : G, Ex g7 g15 →
  R (.bool false) g15))
  (∀ g16 : G, Ex g7 g16 →
  R (.bool false) g16)))))
theorem F15_eq (g : G) (R : Value → G → Prop) : fnG cfg15 60 [.tmp 0] c15 an15 [] g nobody R = F15 g R := by kernel_rfl
theorem call15 (g : G) (R : Value → G → Prop) (hF : F15 g R) : CallsG Try.prog 15 #[] g nobody R :=
  fn_soundG (c := cfg15) TTok FNSok mixed Try.func15 (show Try.f15.body = some c15 by kernel_rfl) (show Try.f15.ntmps = 60 by kernel_rfl) (show Try.f15.results.toList = [.tmp 0] by kernel_rfl) rfl ((F15_eq g R).mpr hF)

/- 16 pilaster/pilasterlaw49.few -/
noncomputable def c16 : Code := match Try.f16.body with
  | some c => c
  | none => .skip
noncomputable def cfg16 : Cfg := ⟨Try.prog, TT, FNS, [1], [(1, 1), (3, 1)], [], TCH, false, false⟩
def an16 : AnnG := (.seq .leaf (.seq .leaf .leaf))
def F16 (h0a : Option Addr) (h0l : Nat) (h0c : Nat) (h1 : Int) (h2 : Int) (g : G) (R : Value → G → Prop) : Prop :=
  ∀ g1 : G, Ex g g1 →
  R (.bool (leI ((h0l : Nat) : Int) (600 : Int))) g1
theorem F16_eq (h0a : Option Addr) (h0l : Nat) (h0c : Nat) (h1 : Int) (h2 : Int) (g : G) (R : Value → G → Prop) : fnG cfg16 7 [.tmp 2] c16 an16 [(.agg ⟨[(.slice h0a h0l h0c), (.int .i64 h1), (.int .i64 h2)]⟩)] g nobody R = F16 h0a h0l h0c h1 h2 g R := by kernel_rfl
theorem call16 (h0a : Option Addr) (h0l : Nat) (h0c : Nat) (h1 : Int) (h2 : Int) (g : G) (R : Value → G → Prop) (hF : F16 h0a h0l h0c h1 h2 g R) : CallsG Try.prog 16 #[(.agg ⟨[(.slice h0a h0l h0c), (.int .i64 h1), (.int .i64 h2)]⟩)] g nobody R :=
  fn_soundG (c := cfg16) TTok FNSok mixed Try.func16 (show Try.f16.body = some c16 by kernel_rfl) (show Try.f16.ntmps = 7 by kernel_rfl) (show Try.f16.results.toList = [.tmp 2] by kernel_rfl) rfl ((F16_eq h0a h0l h0c h1 h2 g R).mpr hF)

/- 17 pilaster/heap.New -/
noncomputable def c17 : Code := match Try.f17.body with
  | some c => c
  | none => .skip
noncomputable def cfg17 : Cfg := ⟨Try.prog, TT, FNS, [2], [(2, 2)], [], TCH, false, false⟩
def an17 : AnnG := (.seq .leaf (.seq (.seq .leaf (.cond (.seq .leaf .leaf) .leaf)) (.seq .leaf .leaf)))
def F17 (limit : Int) (g : G) (R : Value → G → Prop) : Prop :=
  ifB (ltI limit (0 : Int))
  (∀ g1 : G, Ex g g1 →
  ∀ g2 : G, Ex g1 g2 →
  R (.tuple ⟨[(.agg ⟨[(.slice none 0 0), (.int .i64 (0 : Int)), (.int .i64 (0 : Int))]⟩), (.int .i64 (2 : Int))]⟩) g2)
  (ifB (ltI (65536 : Int) limit)
  (∀ g3 : G, Ex g g3 →
  ∀ g4 : G, Ex g3 g4 →
  R (.tuple ⟨[(.agg ⟨[(.slice none 0 0), (.int .i64 (0 : Int)), (.int .i64 (0 : Int))]⟩), (.int .i64 (2 : Int))]⟩) g4)
  (∀ g5 : G, Ex g g5 →
  ∀ g6 : G, Ex g5 g6 →
  R (.tuple ⟨[(.agg ⟨[(.slice none 0 0), (.int .i64 (0 : Int)), (.int .i64 limit)]⟩), (.int .i64 (0 : Int))]⟩) g6))
theorem F17_eq (limit : Int) (g : G) (R : Value → G → Prop) : fnG cfg17 13 [.cell 2 24, .tmp 3] c17 an17 [(.int .i64 limit)] g nobody R = F17 limit g R := by kernel_rfl
theorem call17 (limit : Int) (g : G) (R : Value → G → Prop) (hF : F17 limit g R) : CallsG Try.prog 17 #[(.int .i64 limit)] g nobody R :=
  fn_soundG (c := cfg17) TTok FNSok mixed Try.func17 (show Try.f17.body = some c17 by kernel_rfl) (show Try.f17.ntmps = 13 by kernel_rfl) (show Try.f17.results.toList = [.cell 2 24, .tmp 3] by kernel_rfl) rfl ((F17_eq limit g R).mpr hF)

/- 18 pilaster/heap.Need -/
noncomputable def c18 : Code := match Try.f18.body with
  | some c => c
  | none => .skip
noncomputable def cfg18 : Cfg := ⟨Try.prog, TT, FNS, [], [], [], TCH, false, false⟩
def an18 : AnnG := (.seq .leaf (.seq (.seq .leaf (.cond (.seq .leaf .leaf) .leaf)) (.seq .leaf .leaf)))
def F18 (kind : Int) (n : Int) (g : G) (R : Value → G → Prop) : Prop :=
  (CallsP Try.prog 59 #[(.int .i64 kind), (.int .i64 n)] g fun v g1 =>
  ∃ x : Bool, v = (.bool x) ∧ ifB (!x)
  (∀ g2 : G, Ex g1 g2 →
  R (.tuple ⟨[(.int .i64 (0 : Int)), (.int .i64 (2 : Int))]⟩) g2)
  (InI64 (n + (3 : Int)) ∧ ∀ g3 : G, Ex g1 g3 →
  R (.tuple ⟨[(.int .i64 (n + (3 : Int))), (.int .i64 (0 : Int))]⟩) g3))
theorem F18_eq (kind : Int) (n : Int) (g : G) (R : Value → G → Prop) : fnG cfg18 12 [.tmp 4, .tmp 5] c18 an18 [(.int .i64 kind), (.int .i64 n)] g nobody R = F18 kind n g R := by kernel_rfl
theorem call18 (kind : Int) (n : Int) (g : G) (R : Value → G → Prop) (hF : F18 kind n g R) : CallsG Try.prog 18 #[(.int .i64 kind), (.int .i64 n)] g nobody R :=
  fn_soundG (c := cfg18) TTok FNSok mixed Try.func18 (show Try.f18.body = some c18 by kernel_rfl) (show Try.f18.ntmps = 12 by kernel_rfl) (show Try.f18.results.toList = [.tmp 4, .tmp 5] by kernel_rfl) rfl ((F18_eq kind n g R).mpr hF)

/- 19 pilaster/pilasterlaw49.none -/
noncomputable def c19 : Code := match Try.f19.body with
  | some c => c
  | none => .skip
noncomputable def cfg19 : Cfg := ⟨Try.prog, TT, FNS, [1], [(1, 1)], [], TCH, false, false⟩
def an19 : AnnG := (.seq .leaf (.seq .leaf .leaf))
def F19 (h0a : Option Addr) (h0l : Nat) (h0c : Nat) (h1 : Int) (h2 : Int) (g : G) (R : Value → G → Prop) : Prop :=
  ∀ g1 : G, Ex g g1 →
  (CallsP Try.prog 20 #[(.agg ⟨[(.slice h0a h0l h0c), (.int .i64 h1), (.int .i64 h2)]⟩), (.agg ⟨[(.slice none 0 0), (.int .i64 (0 : Int)), (.int .i64 (0 : Int))]⟩)] g1 fun v g2 =>
  ∃ x : Bool, v = (.bool x) ∧ ∀ g3 : G, Ex g2 g3 →
  R (.bool x) g3)
theorem F19_eq (h0a : Option Addr) (h0l : Nat) (h0c : Nat) (h1 : Int) (h2 : Int) (g : G) (R : Value → G → Prop) : fnG cfg19 6 [.tmp 2] c19 an19 [(.agg ⟨[(.slice h0a h0l h0c), (.int .i64 h1), (.int .i64 h2)]⟩)] g nobody R = F19 h0a h0l h0c h1 h2 g R := by kernel_rfl
theorem call19 (h0a : Option Addr) (h0l : Nat) (h0c : Nat) (h1 : Int) (h2 : Int) (g : G) (R : Value → G → Prop) (hF : F19 h0a h0l h0c h1 h2 g R) : CallsG Try.prog 19 #[(.agg ⟨[(.slice h0a h0l h0c), (.int .i64 h1), (.int .i64 h2)]⟩)] g nobody R :=
  fn_soundG (c := cfg19) TTok FNSok mixed Try.func19 (show Try.f19.body = some c19 by kernel_rfl) (show Try.f19.ntmps = 6 by kernel_rfl) (show Try.f19.results.toList = [.tmp 2] by kernel_rfl) rfl ((F19_eq h0a h0l h0c h1 h2 g R).mpr hF)

/- 20 pilaster/pilasterref49.Same -/
noncomputable def c20 : Code := match Try.f20.body with
  | some c => c
  | none => .skip
noncomputable def cfg20 : Cfg := ⟨Try.prog, TT, FNS, [2, 3], [(2, 2), (3, 3), (5, 2), (7, 3), (11, 2), (13, 3), (18, 2), (20, 3)], [], TCH, false, false⟩
def an20 : AnnG := (.seq .leaf (.seq .leaf .leaf))
def F20 (a0a : Option Addr) (a0l : Nat) (a0c : Nat) (a1 : Int) (a2 : Int) (b0a : Option Addr) (b0l : Nat) (b0c : Nat) (b1 : Int) (b2 : Int) (g : G) (R : Value → G → Prop) : Prop :=
  ifB (eqI a1 b1)
  (ifB (eqI a2 b2)
  (∀ g1 : G, Ex g g1 →
  (CallsP Try.prog 39 #[(.slice a0a a0l a0c), (.slice b0a b0l b0c)] g1 fun v g2 =>
  ∃ x : Bool, v = (.bool x) ∧ ∀ g3 : G, Ex g2 g3 →
  R (.bool x) g3))
  (∀ g4 : G, Ex g g4 →
  R (.bool false) g4))
  (∀ g5 : G, Ex g g5 →
  R (.bool false) g5)
theorem F20_eq (a0a : Option Addr) (a0l : Nat) (a0c : Nat) (a1 : Int) (a2 : Int) (b0a : Option Addr) (b0l : Nat) (b0c : Nat) (b1 : Int) (b2 : Int) (g : G) (R : Value → G → Prop) : fnG cfg20 24 [.tmp 4] c20 an20 [(.agg ⟨[(.slice a0a a0l a0c), (.int .i64 a1), (.int .i64 a2)]⟩), (.agg ⟨[(.slice b0a b0l b0c), (.int .i64 b1), (.int .i64 b2)]⟩)] g nobody R = F20 a0a a0l a0c a1 a2 b0a b0l b0c b1 b2 g R := by kernel_rfl
theorem call20 (a0a : Option Addr) (a0l : Nat) (a0c : Nat) (a1 : Int) (a2 : Int) (b0a : Option Addr) (b0l : Nat) (b0c : Nat) (b1 : Int) (b2 : Int) (g : G) (R : Value → G → Prop) (hF : F20 a0a a0l a0c a1 a2 b0a b0l b0c b1 b2 g R) : CallsG Try.prog 20 #[(.agg ⟨[(.slice a0a a0l a0c), (.int .i64 a1), (.int .i64 a2)]⟩), (.agg ⟨[(.slice b0a b0l b0c), (.int .i64 b1), (.int .i64 b2)]⟩)] g nobody R :=
  fn_soundG (c := cfg20) TTok FNSok mixed Try.func20 (show Try.f20.body = some c20 by kernel_rfl) (show Try.f20.ntmps = 24 by kernel_rfl) (show Try.f20.results.toList = [.tmp 4] by kernel_rfl) rfl ((F20_eq a0a a0l a0c a1 a2 b0a b0l b0c b1 b2 g R).mpr hF)

/- 21 pilaster/heap.Valid -/
noncomputable def c21 : Code := match Try.f21.body with
  | some c => c
  | none => .skip
noncomputable def cfg21 : Cfg := ⟨Try.prog, TT, FNS, [1], [(1, 1)], [], TCH, false, false⟩
def an21 : AnnG := (.seq .leaf (.seq .leaf (.seq .leaf .leaf)))
def F21 (h0a : Option Addr) (h0l : Nat) (h0c : Nat) (h1 : Int) (h2 : Int) (g : G) (R : Value → G → Prop) : Prop :=
  ∀ g1 : G, Ex g g1 →
  (CallsP Try.prog 60 #[(.agg ⟨[(.slice h0a h0l h0c), (.int .i64 h1), (.int .i64 h2)]⟩)] g1 fun v g2 =>
  ∃ x0a : Option Addr, ∃ x0l : Nat, ∃ x0c : Nat, ∃ x1 : Bool, v = (.tuple ⟨[(.slice x0a x0l x0c), (.bool x1)]⟩) ∧ ∀ g3 : G, Ex g2 g3 →
  R (.bool x1) g3)
theorem F21_eq (h0a : Option Addr) (h0l : Nat) (h0c : Nat) (h1 : Int) (h2 : Int) (g : G) (R : Value → G → Prop) : fnG cfg21 11 [.tmp 2] c21 an21 [(.agg ⟨[(.slice h0a h0l h0c), (.int .i64 h1), (.int .i64 h2)]⟩)] g nobody R = F21 h0a h0l h0c h1 h2 g R := by kernel_rfl
theorem call21 (h0a : Option Addr) (h0l : Nat) (h0c : Nat) (h1 : Int) (h2 : Int) (g : G) (R : Value → G → Prop) (hF : F21 h0a h0l h0c h1 h2 g R) : CallsG Try.prog 21 #[(.agg ⟨[(.slice h0a h0l h0c), (.int .i64 h1), (.int .i64 h2)]⟩)] g nobody R :=
  fn_soundG (c := cfg21) TTok FNSok mixed Try.func21 (show Try.f21.body = some c21 by kernel_rfl) (show Try.f21.ntmps = 11 by kernel_rfl) (show Try.f21.results.toList = [.tmp 2] by kernel_rfl) rfl ((F21_eq h0a h0l h0c h1 h2 g R).mpr hF)

/- 22 pilaster/pilasterref49.Length -/
noncomputable def c22 : Code := match Try.f22.body with
  | some c => c
  | none => .skip
noncomputable def cfg22 : Cfg := ⟨Try.prog, TT, FNS, [], [], [], TCH, false, false⟩
def an22 : AnnG := (.seq .leaf (.seq (.seq .leaf (.blk (.join ⟨[(6, .bool)], [], []⟩ (.seq .leaf (.cond .leaf .leaf)) (.cond (.seq .leaf .leaf) (.seq .leaf (.cond (.seq .leaf .leaf) (.seq .leaf (.cond (.seq .leaf .leaf) .leaf)))))))) (.seq .leaf .leaf)))
def F22 (kind : Int) (n : Int) (g : G) (R : Value → G → Prop) : Prop :=
  ∀ J : Bool → G → Prop,
  (∀ v_1 : Bool, ∀ g1 : G, (ifB v_1
  ((CallsP Try.prog 61 #[(.int .i64 n), (.int .i64 (0 : Int)), (.int .i64 (1000 : Int))] g1 fun v g2 =>
  ∃ x : Bool, v = (.bool x) ∧ ∀ g3 : G, Ex g2 g3 →
  R (.bool x) g3))
  (ifB (eqI kind (2 : Int))
  (∀ g4 : G, Ex g1 g4 →
  R (.bool (eqI n (1 : Int))) g4)
  (ifB (eqI kind (4 : Int))
  ((CallsP Try.prog 61 #[(.int .i64 n), (.int .i64 (0 : Int)), (.int .i64 (16384 : Int))] g1 fun v g5 =>
  ∃ x_1 : Bool, v = (.bool x_1) ∧ ∀ g6 : G, Ex g5 g6 →
  R (.bool x_1) g6))
  (∀ g7 : G, Ex g1 g7 →
  R (.bool false) g7)))) → J v_1 g1) →
  ifB (eqI kind (1 : Int))
  (J true g)
  (J (eqI kind (3 : Int)) g)
theorem F22_eq (kind : Int) (n : Int) (g : G) (R : Value → G → Prop) : fnG cfg22 19 [.tmp 4] c22 an22 [(.int .i64 kind), (.int .i64 n)] g nobody R = F22 kind n g R := by kernel_rfl
theorem call22 (kind : Int) (n : Int) (g : G) (R : Value → G → Prop) (hF : F22 kind n g R) : CallsG Try.prog 22 #[(.int .i64 kind), (.int .i64 n)] g nobody R :=
  fn_soundG (c := cfg22) TTok FNSok mixed Try.func22 (show Try.f22.body = some c22 by kernel_rfl) (show Try.f22.ntmps = 19 by kernel_rfl) (show Try.f22.results.toList = [.tmp 4] by kernel_rfl) rfl ((F22_eq kind n g R).mpr hF)

/- 23 pilaster/pilasterref49.Valid -/
noncomputable def c23 : Code := match Try.f23.body with
  | some c => c
  | none => .skip
noncomputable def cfg23 : Cfg := ⟨Try.prog, TT, FNS, [1], [(1, 1), (8, 1), (12, 1), (17, 1), (19, 1), (25, 1), (27, 1), (32, 1), (45, 1), (61, 1)], [], TCH, false, false⟩
def an23 : AnnG := (.seq .leaf (.join ⟨[], [], []⟩ (.seq .leaf (.cond (.seq .leaf .leaf) .leaf)) (.seq .leaf (.seq (.seq .leaf (.cond (.seq .leaf .leaf) .leaf)) (.seq (.seq .leaf (.blk (.loop ⟨[(5, .int .i64)], [], []⟩ (.seq (.seq .leaf (.cond .leaf .leaf)) (.seq (.blk (.seq (.tree 7 (.quiet 0 (.quiet 1 (.quiet 2 (.quiet 3 (.quiet 4 (.quiet 5 (.quiet 6 .fin)))))))) (.seq .leaf (.blk (.loop ⟨[(7, .int .i64)], [], []⟩ (.seq (.seq .leaf (.cond .leaf .leaf)) (.seq (.blk (.seq (.tree 12 (.quiet 0 (.quiet 1 (.quiet 2 (.quiet 3 (.quiet 4 (.quiet 5 (.quiet 6 (.quiet 7 (.quiet 8 (.quiet 9 (.quiet 10 (.quiet 11 .fin))))))))))))) (.cond (.seq .leaf .leaf) .leaf))) .leaf))))))) .leaf))))) (.seq .leaf .leaf))))))
def F23 (h0a : Option Addr) (h0l : Nat) (h0c : Nat) (h1 : Int) (h2 : Int) (g : G) (R : Value → G → Prop) : Prop :=
  ∀ J : G → Prop,
  (∀ g1 : G, ((CallsP Try.prog 62 #[(.slice h0a h0l h0c)] g1 fun v g2 =>
  ∃ x0a : Option Addr, ∃ x0l : Nat, ∃ x0c : Nat, ∃ x1 : Bool, v = (.tuple ⟨[(.slice x0a x0l x0c), (.bool x1)]⟩) ∧ ifB (!x1)
  (∀ g3 : G, Ex g2 g3 →
  R (.bool false) g3)
  (∃ Inv : Nat → Int → G → Prop, ((∃ m0 : Nat, Inv m0 (0 : Int) g2)) ∧
  ∀ m : Nat, ∀ i : Int, ∀ g4 : G, Le g2 g4 → Inv m i g4 →
  ifB (ltI i ((x0l : Nat) : Int))
  (∀ g5 : G, Ex g4 g5 →
  (0 ≤ i ∧ i < ((x0l : Nat) : Int)) ∧ derefP x0a fun ad => ∃ x : Int, g5.w.cell? (Addr.add ad (Int.toNat i * 1)) = some (.int .i64 x) ∧ InI64 (x + (2 : Int)) ∧ (0 ≤ (x + (2 : Int)) ∧ (x + (2 : Int)) < ((h0l : Nat) : Int)) ∧ derefP h0a fun ad_1 => ∃ n : Int, g5.w.cell? (Addr.add (Addr.add ad_1 (Int.toNat (x + (2 : Int)) * 2)) 1) = some (.int .i64 n) ∧ ∃ Inv_1 : Nat → Int → G → Prop, ((∃ m0 : Nat, Inv_1 m0 (0 : Int) g5)) ∧
  ∀ m_2 : Nat, ∀ k : Int, ∀ g6 : G, Le g5 g6 → Inv_1 m_2 k g6 →
  ifB (ltI k n)
  (∀ g7 : G, Ex g6 g7 →
  (0 ≤ i ∧ i < ((x0l : Nat) : Int)) ∧ derefP x0a fun ad_2 => ∃ x_1 : Int, g7.w.cell? (Addr.add ad_2 (Int.toNat i * 1)) = some (.int .i64 x_1) ∧ InI64 (x_1 + (3 : Int)) ∧ InI64 ((x_1 + (3 : Int)) + k) ∧ (0 ≤ ((x_1 + (3 : Int)) + k) ∧ ((x_1 + (3 : Int)) + k) < ((h0l : Nat) : Int)) ∧ derefP h0a fun ad_3 => ∃ x0 : Bool, ∃ x1_1 : Int, g7.w.cell? (Addr.add ad_3 (Int.toNat ((x_1 + (3 : Int)) + k) * 2)) = some (.bool x0) ∧ g7.w.cell? (Addr.add (Addr.add ad_3 (Int.toNat ((x_1 + (3 : Int)) + k) * 2)) 1) = some (.int .i64 x1_1) ∧ (CallsP Try.prog 63 #[(.slice x0a x0l x0c), (.agg ⟨[(.bool x0), (.int .i64 x1_1)]⟩)] g7 fun v g8 =>
  ∃ x_2 : Bool, v = (.bool x_2) ∧ ifB (!x_2)
  (∀ g9 : G, Ex g8 g9 →
  R (.bool false) g9)
  (InI64 (k + (1 : Int)) ∧ (∃ m_3 : Nat, m_3 < m_2 ∧ Inv_1 m_3 (k + (1 : Int)) g8))))
  (InI64 (i + (1 : Int)) ∧ (∃ m_1 : Nat, m_1 < m ∧ Inv m_1 (i + (1 : Int)) g6)))
  (∀ g10 : G, Ex g4 g10 →
  R (.bool true) g10)))) → J g1) →
  ifB (ltI h2 (0 : Int))
  (∀ g11 : G, Ex g g11 →
  R (.bool false) g11)
  (ifB (ltI (65536 : Int) h2)
  (∀ g12 : G, Ex g g12 →
  R (.bool false) g12)
  (ifB (!eqI h1 ((h0l : Nat) : Int))
  (∀ g13 : G, Ex g g13 →
  R (.bool false) g13)
  (ifB (ltI h2 h1)
  (∀ g14 : G, Ex g g14 →
  R (.bool false) g14)
  (∀ g15 : G, Ex g g15 →
  J g15))))
theorem F23_eq (h0a : Option Addr) (h0l : Nat) (h0c : Nat) (h1 : Int) (h2 : Int) (g : G) (R : Value → G → Prop) : fnG cfg23 74 [.tmp 2] c23 an23 [(.agg ⟨[(.slice h0a h0l h0c), (.int .i64 h1), (.int .i64 h2)]⟩)] g nobody R = F23 h0a h0l h0c h1 h2 g R := by kernel_rfl
theorem call23 (h0a : Option Addr) (h0l : Nat) (h0c : Nat) (h1 : Int) (h2 : Int) (g : G) (R : Value → G → Prop) (hF : F23 h0a h0l h0c h1 h2 g R) : CallsG Try.prog 23 #[(.agg ⟨[(.slice h0a h0l h0c), (.int .i64 h1), (.int .i64 h2)]⟩)] g nobody R :=
  fn_soundG (c := cfg23) TTok FNSok mixed Try.func23 (show Try.f23.body = some c23 by kernel_rfl) (show Try.f23.ntmps = 74 by kernel_rfl) (show Try.f23.results.toList = [.tmp 2] by kernel_rfl) rfl ((F23_eq h0a h0l h0c h1 h2 g R).mpr hF)

/- 24 pilaster/pilasterlaw49.light -/
noncomputable def c24 : Code := match Try.f24.body with
  | some c => c
  | none => .skip
noncomputable def cfg24 : Cfg := ⟨Try.prog, TT, FNS, [1], [(1, 1)], [], TCH, false, false⟩
def an24 : AnnG := (.seq .leaf (.seq .leaf (.seq .leaf .leaf)))
def F24 (v0 : Int) (v1 : Int) (v2 : ByteArray) (v3a : Option Addr) (v3l : Nat) (v3c : Nat) (v4a : Option Addr) (v4l : Nat) (v4c : Nat) (g : G) (R : Value → G → Prop) : Prop :=
  ∀ g1 : G, Ex g g1 →
  (CallsP Try.prog 50 #[(.agg ⟨[(.int .i64 v0), (.int .i64 v1), (.string v2), (.slice v3a v3l v3c), (.slice v4a v4l v4c)]⟩), (.int .i64 (4400 : Int)), (.int .i64 (1 : Int))] g1 fun v g2 =>
  ∃ n : Int, v = (.int .i64 n) ∧ ifB (ltI n (200 : Int))
  (∀ g3 : G, Ex g2 g3 →
  R (.bool true) g3)
  (ifB (ltI (20000 : Int) n)
  (∀ g4 : G, Ex g2 g4 →
  R (.bool (ltI n (4400 : Int))) g4)
  (∀ g5 : G, Ex g2 g5 →
  R (.bool false) g5)))
theorem F24_eq (v0 : Int) (v1 : Int) (v2 : ByteArray) (v3a : Option Addr) (v3l : Nat) (v3c : Nat) (v4a : Option Addr) (v4l : Nat) (v4c : Nat) (g : G) (R : Value → G → Prop) : fnG cfg24 16 [.tmp 2] c24 an24 [(.agg ⟨[(.int .i64 v0), (.int .i64 v1), (.string v2), (.slice v3a v3l v3c), (.slice v4a v4l v4c)]⟩)] g nobody R = F24 v0 v1 v2 v3a v3l v3c v4a v4l v4c g R := by kernel_rfl
theorem call24 (v0 : Int) (v1 : Int) (v2 : ByteArray) (v3a : Option Addr) (v3l : Nat) (v3c : Nat) (v4a : Option Addr) (v4l : Nat) (v4c : Nat) (g : G) (R : Value → G → Prop) (hF : F24 v0 v1 v2 v3a v3l v3c v4a v4l v4c g R) : CallsG Try.prog 24 #[(.agg ⟨[(.int .i64 v0), (.int .i64 v1), (.string v2), (.slice v3a v3l v3c), (.slice v4a v4l v4c)]⟩)] g nobody R :=
  fn_soundG (c := cfg24) TTok FNSok mixed Try.func24 (show Try.f24.body = some c24 by kernel_rfl) (show Try.f24.ntmps = 16 by kernel_rfl) (show Try.f24.results.toList = [.tmp 2] by kernel_rfl) rfl ((F24_eq v0 v1 v2 v3a v3l v3c v4a v4l v4c g R).mpr hF)

/- 25 pilaster/heap.Text -/
noncomputable def c25 : Code := match Try.f25.body with
  | some c => c
  | none => .skip
noncomputable def cfg25 : Cfg := ⟨Try.prog, TT, FNS, [2, 4, 5, 7, 8], [(2, 2), (4, 4), (5, 5), (7, 7), (8, 8)], [], TCH, false, false⟩
def an25 : AnnG := (.seq .leaf (.seq (.seq .leaf (.cond (.seq .leaf .leaf) .leaf)) (.seq (.seq .leaf (.cond (.seq .leaf .leaf) .leaf)) (.join ⟨[(9, .bool)], [(7, 7, 0), (8, 8, 0)], [(7, [(.sl), (.int .i64), (.int .i64)]), (8, [(.bool), (.int .i64)])]⟩ (.treeP false [] 14 (.quiet 0 (.quiet 1 (.quiet 2 (.quiet 3 (.eff 4 (.eff 5 (.quiet 6 (.quiet 7 (.quiet 8 (.quiet 9 (.eff 10 (.eff 11 (.eff 12 (.eff 13 .fin .fin) .fin) .fin) (.eff 11 (.eff 10 (.eff 12 (.eff 13 .fin .fin) .fin) .fin) .fin)))))) (.eff 10 (.eff 5 (.quiet 6 (.quiet 7 (.quiet 8 (.quiet 9 (.eff 11 (.eff 12 (.eff 13 .fin .fin) .fin) .fin))))) (.eff 11 (.eff 5 (.quiet 6 (.quiet 7 (.quiet 8 (.quiet 9 (.eff 12 (.eff 13 .fin .fin) .fin))))) .fin) .fin)) (.eff 11 (.eff 5 (.quiet 6 (.quiet 7 (.quiet 8 (.quiet 9 (.eff 10 (.eff 12 (.eff 13 .fin .fin) .fin) .fin))))) (.eff 10 (.eff 5 (.quiet 6 (.quiet 7 (.quiet 8 (.quiet 9 (.eff 12 (.eff 13 .fin .fin) .fin))))) .fin) .fin)) .fin))) (.eff 10 (.eff 4 (.eff 5 (.quiet 6 (.quiet 7 (.quiet 8 (.quiet 9 (.eff 11 (.eff 12 (.eff 13 .fin .fin) .fin) .fin))))) (.eff 11 (.eff 5 (.quiet 6 (.quiet 7 (.quiet 8 (.quiet 9 (.eff 12 (.eff 13 .fin .fin) .fin))))) .fin) .fin)) (.eff 11 (.eff 4 (.eff 5 (.quiet 6 (.quiet 7 (.quiet 8 (.quiet 9 (.eff 12 (.eff 13 .fin .fin) .fin))))) .fin) .fin) .fin)) (.eff 11 (.eff 4 (.eff 5 (.quiet 6 (.quiet 7 (.quiet 8 (.quiet 9 (.eff 10 (.eff 12 (.eff 13 .fin .fin) .fin) .fin))))) (.eff 10 (.eff 5 (.quiet 6 (.quiet 7 (.quiet 8 (.quiet 9 (.eff 12 (.eff 13 .fin .fin) .fin))))) .fin) .fin)) (.eff 10 (.eff 4 (.eff 5 (.quiet 6 (.quiet 7 (.quiet 8 (.quiet 9 (.eff 12 (.eff 13 .fin .fin) .fin))))) .fin) .fin) .fin)) .fin)))))))) (.seq (.seq .leaf (.cond (.seq .leaf .leaf) .leaf)) (.seq (.treeP false [4, 5] 3 (.quiet 0 (.quiet 1 (.eff 2 .fin .fin)))) .leaf))))))
def F25 (h0a : Option Addr) (h0l : Nat) (h0c : Nat) (h1 : Int) (h2 : Int) (s : ByteArray) (g : G) (R : Value → G → Prop) : Prop :=
  ∀ g1 : G, Ex g g1 →
  (CallsP Try.prog 21 #[(.agg ⟨[(.slice h0a h0l h0c), (.int .i64 h1), (.int .i64 h2)]⟩)] g1 fun v g2 =>
  ∃ x : Bool, v = (.bool x) ∧ ifB (!x)
  (∀ g3 : G, Ex g2 g3 →
  R (.tuple ⟨[(.agg ⟨[(.slice none 0 0), (.int .i64 (0 : Int)), (.int .i64 (0 : Int))]⟩), (.agg ⟨[(.bool false), (.int .i64 (0 : Int))]⟩), (.int .i64 (1 : Int))]⟩) g3)
  (ifB (ltI (16384 : Int) ((s.size : Nat) : Int))
  (∀ g4 : G, Ex g2 g4 →
  R (.tuple ⟨[(.agg ⟨[(.slice none 0 0), (.int .i64 (0 : Int)), (.int .i64 (0 : Int))]⟩), (.agg ⟨[(.bool false), (.int .i64 (0 : Int))]⟩), (.int .i64 (5 : Int))]⟩) g4)
  (∀ J : Bool → Option Addr → Nat → Nat → Int → Int → Bool → Int → G → Prop,
  (∀ ok : Bool, ∀ out0a : Option Addr, ∀ out0l : Nat, ∀ out0c : Nat, ∀ out1 : Int, ∀ out2 : Int, ∀ w0 : Bool, ∀ w1 : Int, ∀ g5 : G, (ifB (!ok)
  (∀ g6 : G, Ex g5 g6 →
  R (.tuple ⟨[(.agg ⟨[(.slice none 0 0), (.int .i64 (0 : Int)), (.int .i64 (0 : Int))]⟩), (.agg ⟨[(.bool false), (.int .i64 (0 : Int))]⟩), (.int .i64 (25 : Int))]⟩) g6)
  (∀ g7 : G, Ex g5 g7 →
  ∀ g8 : G, Ex g7 g8 →
  R (.tuple ⟨[(.agg ⟨[(.slice out0a out0l out0c), (.int .i64 out1), (.int .i64 out2)]⟩), (.agg ⟨[(.bool w0), (.int .i64 w1)]⟩), (.int .i64 (0 : Int))]⟩) g8)) → J ok out0a out0l out0c out1 out2 w0 w1 g5) →
  ∀ g9 : G, Ex g2 g9 →
  (∀ g10 : G, Ex g9 g10 →
  (CallsP Try.prog 65 #[(.string s)] g10 fun v g11 =>
  ∃ xa : Option Addr, ∃ xl : Nat, ∃ xc : Nat, v = (.slice xa xl xc) ∧ (∀ g12 : G, Ex g11 g12 →
  (CallsP Try.prog 64 #[(.agg ⟨[(.slice h0a h0l h0c), (.int .i64 h1), (.int .i64 h2)]⟩), (.int .i64 (4 : Int)), (.int .i64 ((s.size : Nat) : Int)), (.slice xa xl xc)] g12 fun v g13 =>
  ∃ x00a : Option Addr, ∃ x00l : Nat, ∃ x00c : Nat, ∃ x01 : Int, ∃ x02 : Int, ∃ x10 : Bool, ∃ x11 : Int, ∃ x2 : Bool, v = (.tuple ⟨[(.agg ⟨[(.slice x00a x00l x00c), (.int .i64 x01), (.int .i64 x02)]⟩), (.agg ⟨[(.bool x10), (.int .i64 x11)]⟩), (.bool x2)]⟩) ∧ Rep 1 (∀ g14 : G, Ex g13 g14 →
  J x2 x00a x00l x00c x01 x02 x10 x11 g14))) ∧ ((Rep 1 (∀ g16 : G, Ex g11 g16 →
  (CallsP Try.prog 64 #[(.agg ⟨[(.slice h0a h0l h0c), (.int .i64 h1), (.int .i64 h2)]⟩), (.int .i64 (4 : Int)), (.int .i64 ((s.size : Nat) : Int)), (.slice xa xl xc)] g16 fun v g17 =>
  ∃ x00a_1 : Option Addr, ∃ x00l_1 : Nat, ∃ x00c_1 : Nat, ∃ x01_1 : Int, ∃ x02_1 : Int, ∃ x10_1 : Bool, ∃ x11_1 : Int, ∃ x2_1 : Bool, v = (.tuple ⟨[(.agg ⟨[(.slice x00a_1 x00l_1 x00c_1), (.int .i64 x01_1), (.int .i64 x02_1)]⟩), (.agg ⟨[(.bool x10_1), (.int .i64 x11_1)]⟩), (.bool x2_1)]⟩) ∧ ∀ g18 : G, Ex g17 g18 →
  J x2_1 x00a_1 x00l_1 x00c_1 x01_1 x02_1 x10_1 x11_1 g18))) ∧ (Rep 1 (∀ g22 : G, Ex g11 g22 →
  (CallsP Try.prog 64 #[(.agg ⟨[(.slice h0a h0l h0c), (.int .i64 h1), (.int .i64 h2)]⟩), (.int .i64 (4 : Int)), (.int .i64 ((s.size : Nat) : Int)), (.slice xa xl xc)] g22 fun v g23 =>
  ∃ x00a_3 : Option Addr, ∃ x00l_3 : Nat, ∃ x00c_3 : Nat, ∃ x01_3 : Int, ∃ x02_3 : Int, ∃ x10_3 : Bool, ∃ x11_3 : Int, ∃ x2_3 : Bool, v = (.tuple ⟨[(.agg ⟨[(.slice x00a_3 x00l_3 x00c_3), (.int .i64 x01_3), (.int .i64 x02_3)]⟩), (.agg ⟨[(.bool x10_3), (.int .i64 x11_3)]⟩), (.bool x2_3)]⟩) ∧ ∀ g24 : G, Ex g23 g24 →
  J x2_3 x00a_3 x00l_3 x00c_3 x01_3 x02_3 x10_3 x11_3 g24)))))) ∧ (((∀ g28 : G, Ex g9 g28 →
  (CallsP Try.prog 65 #[(.string s)] g28 fun v g29 =>
  ∃ xa_1 : Option Addr, ∃ xl_1 : Nat, ∃ xc_1 : Nat, v = (.slice xa_1 xl_1 xc_1) ∧ Rep 1 (∀ g30 : G, Ex g29 g30 →
  (CallsP Try.prog 64 #[(.agg ⟨[(.slice h0a h0l h0c), (.int .i64 h1), (.int .i64 h2)]⟩), (.int .i64 (4 : Int)), (.int .i64 ((s.size : Nat) : Int)), (.slice xa_1 xl_1 xc_1)] g30 fun v g31 =>
  ∃ x00a_5 : Option Addr, ∃ x00l_5 : Nat, ∃ x00c_5 : Nat, ∃ x01_5 : Int, ∃ x02_5 : Int, ∃ x10_5 : Bool, ∃ x11_5 : Int, ∃ x2_5 : Bool, v = (.tuple ⟨[(.agg ⟨[(.slice x00a_5 x00l_5 x00c_5), (.int .i64 x01_5), (.int .i64 x02_5)]⟩), (.agg ⟨[(.bool x10_5), (.int .i64 x11_5)]⟩), (.bool x2_5)]⟩) ∧ ∀ g32 : G, Ex g31 g32 →
  J x2_5 x00a_5 x00l_5 x00c_5 x01_5 x02_5 x10_5 x11_5 g32)))) ∧ (∀ g36 : G, Ex g9 g36 →
  (CallsP Try.prog 65 #[(.string s)] g36 fun v g37 =>
  ∃ xa_2 : Option Addr, ∃ xl_2 : Nat, ∃ xc_2 : Nat, v = (.slice xa_2 xl_2 xc_2) ∧ ∀ g38 : G, Ex g37 g38 →
  (CallsP Try.prog 64 #[(.agg ⟨[(.slice h0a h0l h0c), (.int .i64 h1), (.int .i64 h2)]⟩), (.int .i64 (4 : Int)), (.int .i64 ((s.size : Nat) : Int)), (.slice xa_2 xl_2 xc_2)] g38 fun v g39 =>
  ∃ x00a_7 : Option Addr, ∃ x00l_7 : Nat, ∃ x00c_7 : Nat, ∃ x01_7 : Int, ∃ x02_7 : Int, ∃ x10_7 : Bool, ∃ x11_7 : Int, ∃ x2_7 : Bool, v = (.tuple ⟨[(.agg ⟨[(.slice x00a_7 x00l_7 x00c_7), (.int .i64 x01_7), (.int .i64 x02_7)]⟩), (.agg ⟨[(.bool x10_7), (.int .i64 x11_7)]⟩), (.bool x2_7)]⟩) ∧ ∀ g40 : G, Ex g39 g40 →
  J x2_7 x00a_7 x00l_7 x00c_7 x01_7 x02_7 x10_7 x11_7 g40)))) ∧ ((∀ g41 : G, Ex g9 g41 →
  (CallsP Try.prog 65 #[(.string s)] g41 fun v g42 =>
  ∃ xa_3 : Option Addr, ∃ xl_3 : Nat, ∃ xc_3 : Nat, v = (.slice xa_3 xl_3 xc_3) ∧ Rep 1 (∀ g43 : G, Ex g42 g43 →
  (CallsP Try.prog 64 #[(.agg ⟨[(.slice h0a h0l h0c), (.int .i64 h1), (.int .i64 h2)]⟩), (.int .i64 (4 : Int)), (.int .i64 ((s.size : Nat) : Int)), (.slice xa_3 xl_3 xc_3)] g43 fun v g44 =>
  ∃ x00a_8 : Option Addr, ∃ x00l_8 : Nat, ∃ x00c_8 : Nat, ∃ x01_8 : Int, ∃ x02_8 : Int, ∃ x10_8 : Bool, ∃ x11_8 : Int, ∃ x2_8 : Bool, v = (.tuple ⟨[(.agg ⟨[(.slice x00a_8 x00l_8 x00c_8), (.int .i64 x01_8), (.int .i64 x02_8)]⟩), (.agg ⟨[(.bool x10_8), (.int .i64 x11_8)]⟩), (.bool x2_8)]⟩) ∧ ∀ g45 : G, Ex g44 g45 →
  J x2_8 x00a_8 x00l_8 x00c_8 x01_8 x02_8 x10_8 x11_8 g45)))) ∧ (∀ g49 : G, Ex g9 g49 →
  (CallsP Try.prog 65 #[(.string s)] g49 fun v g50 =>
  ∃ xa_4 : Option Addr, ∃ xl_4 : Nat, ∃ xc_4 : Nat, v = (.slice xa_4 xl_4 xc_4) ∧ ∀ g51 : G, Ex g50 g51 →
  (CallsP Try.prog 64 #[(.agg ⟨[(.slice h0a h0l h0c), (.int .i64 h1), (.int .i64 h2)]⟩), (.int .i64 (4 : Int)), (.int .i64 ((s.size : Nat) : Int)), (.slice xa_4 xl_4 xc_4)] g51 fun v g52 =>
  ∃ x00a_10 : Option Addr, ∃ x00l_10 : Nat, ∃ x00c_10 : Nat, ∃ x01_10 : Int, ∃ x02_10 : Int, ∃ x10_10 : Bool, ∃ x11_10 : Int, ∃ x2_10 : Bool, v = (.tuple ⟨[(.agg ⟨[(.slice x00a_10 x00l_10 x00c_10), (.int .i64 x01_10), (.int .i64 x02_10)]⟩), (.agg ⟨[(.bool x10_10), (.int .i64 x11_10)]⟩), (.bool x2_10)]⟩) ∧ ∀ g53 : G, Ex g52 g53 →
  J x2_10 x00a_10 x00l_10 x00c_10 x01_10 x02_10 x10_10 x11_10 g53))))))))
theorem F25_eq (h0a : Option Addr) (h0l : Nat) (h0c : Nat) (h1 : Int) (h2 : Int) (s : ByteArray) (g : G) (R : Value → G → Prop) : fnG cfg25 36 [.cell 4 24, .cell 5 41, .tmp 6] c25 an25 [(.agg ⟨[(.slice h0a h0l h0c), (.int .i64 h1), (.int .i64 h2)]⟩), (.string s)] g nobody R = F25 h0a h0l h0c h1 h2 s g R := by kernel_rfl
theorem call25 (h0a : Option Addr) (h0l : Nat) (h0c : Nat) (h1 : Int) (h2 : Int) (s : ByteArray) (g : G) (R : Value → G → Prop) (hF : F25 h0a h0l h0c h1 h2 s g R) : CallsG Try.prog 25 #[(.agg ⟨[(.slice h0a h0l h0c), (.int .i64 h1), (.int .i64 h2)]⟩), (.string s)] g nobody R :=
  fn_soundG (c := cfg25) TTok FNSok mixed Try.func25 (show Try.f25.body = some c25 by kernel_rfl) (show Try.f25.ntmps = 36 by kernel_rfl) (show Try.f25.results.toList = [.cell 4 24, .cell 5 41, .tmp 6] by kernel_rfl) rfl ((F25_eq h0a h0l h0c h1 h2 s g R).mpr hF)

/- 26 pilaster/heap.Put -/
noncomputable def c26 : Code := match Try.f26.body with
  | some c => c
  | none => .skip
noncomputable def cfg26 : Cfg := ⟨Try.prog, TT, FNS, [2, 3, 4, 5, 9, 10], [(2, 2), (3, 3), (4, 4), (5, 5), (9, 9), (10, 10), (35, 2), (38, 2)], [], TCH, false, false⟩
def an26 : AnnG := (.seq .leaf (.seq .leaf (.seq (.join ⟨[(32, .bool)], [], []⟩ .leaf (.cond (.seq .leaf .leaf) .leaf)) (.seq .leaf (.seq .leaf (.seq (.seq .leaf (.cond (.seq .leaf .leaf) .leaf)) (.seq (.treeP false [4, 5] 3 (.quiet 0 (.quiet 1 (.eff 2 .fin .fin)))) .leaf)))))))
def F26 (h0a : Option Addr) (h0l : Nat) (h0c : Nat) (h1 : Int) (h2 : Int) (v0 : Int) (v1 : Int) (v2 : ByteArray) (v3a : Option Addr) (v3l : Nat) (v3c : Nat) (v4a : Option Addr) (v4l : Nat) (v4c : Nat) (g : G) (R : Value → G → Prop) : Prop :=
  ∀ g1 : G, Ex g g1 →
  (CallsP Try.prog 66 #[(.agg ⟨[(.int .i64 v0), (.int .i64 v1), (.string v2), (.slice v3a v3l v3c), (.slice v4a v4l v4c)]⟩)] g1 fun v g2 =>
  ∃ x0 : Int, ∃ x1 : Int, v = (.tuple ⟨[(.int .i64 x0), (.int .i64 x1)]⟩) ∧ ∀ J : Bool → G → Prop,
  (∀ v_1 : Bool, ∀ g3 : G, (ifB v_1
  (∀ g4 : G, Ex g3 g4 →
  R (.tuple ⟨[(.agg ⟨[(.slice none 0 0), (.int .i64 (0 : Int)), (.int .i64 (0 : Int))]⟩), (.agg ⟨[(.bool false), (.int .i64 (0 : Int))]⟩), (.int .i64 (1 : Int))]⟩) g4)
  ((CallsP Try.prog 68 #[(.slice h0a h0l h0c)] g3 fun v g5 =>
  ∃ xa : Option Addr, ∃ xl : Nat, ∃ xc : Nat, v = (.slice xa xl xc) ∧ ∀ g6 : G, Ex g5 g6 →
  (CallsP Try.prog 69 #[(.agg ⟨[(.slice xa xl xc), (.int .i64 h1), (.int .i64 h2)]⟩), (.agg ⟨[(.int .i64 v0), (.int .i64 v1), (.string v2), (.slice v3a v3l v3c), (.slice v4a v4l v4c)]⟩)] g6 fun v g7 =>
  ∃ x00a : Option Addr, ∃ x00l : Nat, ∃ x00c : Nat, ∃ x01 : Int, ∃ x02 : Int, ∃ x10 : Bool, ∃ x11 : Int, ∃ x2 : Bool, v = (.tuple ⟨[(.agg ⟨[(.slice x00a x00l x00c), (.int .i64 x01), (.int .i64 x02)]⟩), (.agg ⟨[(.bool x10), (.int .i64 x11)]⟩), (.bool x2)]⟩) ∧ ifB (!x2)
  (∀ g8 : G, Ex g7 g8 →
  ∀ g9 : G, Ex g8 g9 →
  R (.tuple ⟨[(.agg ⟨[(.slice none 0 0), (.int .i64 (0 : Int)), (.int .i64 (0 : Int))]⟩), (.agg ⟨[(.bool false), (.int .i64 (0 : Int))]⟩), (.int .i64 (25 : Int))]⟩) g9)
  (∀ g10 : G, Ex g7 g10 →
  ∀ g11 : G, Ex g10 g11 →
  R (.tuple ⟨[(.agg ⟨[(.slice x00a x00l x00c), (.int .i64 x01), (.int .i64 x02)]⟩), (.agg ⟨[(.bool x10), (.int .i64 x11)]⟩), (.int .i64 (0 : Int))]⟩) g11))))) → J v_1 g3) →
  (CallsP Try.prog 21 #[(.agg ⟨[(.slice h0a h0l h0c), (.int .i64 h1), (.int .i64 h2)]⟩)] g2 fun v g12 =>
  ∃ x : Bool, v = (.bool x) ∧ ifB (!x)
  (J true g12)
  (ifB (ltI (20000 : Int) x0)
  (J true g12)
  (ifB (ltI (400 : Int) x1)
  (J true g12)
  ((CallsP Try.prog 67 #[(.agg ⟨[(.int .i64 v0), (.int .i64 v1), (.string v2), (.slice v3a v3l v3c), (.slice v4a v4l v4c)]⟩)] g12 fun v g13 =>
  ∃ x_1 : Bool, v = (.bool x_1) ∧ J (!x_1) g13))))))
theorem F26_eq (h0a : Option Addr) (h0l : Nat) (h0c : Nat) (h1 : Int) (h2 : Int) (v0 : Int) (v1 : Int) (v2 : ByteArray) (v3a : Option Addr) (v3l : Nat) (v3c : Nat) (v4a : Option Addr) (v4l : Nat) (v4c : Nat) (g : G) (R : Value → G → Prop) : fnG cfg26 52 [.cell 4 24, .cell 5 41, .tmp 6] c26 an26 [(.agg ⟨[(.slice h0a h0l h0c), (.int .i64 h1), (.int .i64 h2)]⟩), (.agg ⟨[(.int .i64 v0), (.int .i64 v1), (.string v2), (.slice v3a v3l v3c), (.slice v4a v4l v4c)]⟩)] g nobody R = F26 h0a h0l h0c h1 h2 v0 v1 v2 v3a v3l v3c v4a v4l v4c g R := by kernel_rfl
theorem call26 (h0a : Option Addr) (h0l : Nat) (h0c : Nat) (h1 : Int) (h2 : Int) (v0 : Int) (v1 : Int) (v2 : ByteArray) (v3a : Option Addr) (v3l : Nat) (v3c : Nat) (v4a : Option Addr) (v4l : Nat) (v4c : Nat) (g : G) (R : Value → G → Prop) (hF : F26 h0a h0l h0c h1 h2 v0 v1 v2 v3a v3l v3c v4a v4l v4c g R) : CallsG Try.prog 26 #[(.agg ⟨[(.slice h0a h0l h0c), (.int .i64 h1), (.int .i64 h2)]⟩), (.agg ⟨[(.int .i64 v0), (.int .i64 v1), (.string v2), (.slice v3a v3l v3c), (.slice v4a v4l v4c)]⟩)] g nobody R :=
  fn_soundG (c := cfg26) TTok FNSok mixed Try.func26 (show Try.f26.body = some c26 by kernel_rfl) (show Try.f26.ntmps = 52 by kernel_rfl) (show Try.f26.results.toList = [.cell 4 24, .cell 5 41, .tmp 6] by kernel_rfl) rfl ((F26_eq h0a h0l h0c h1 h2 v0 v1 v2 v3a v3l v3c v4a v4l v4c g R).mpr hF)

/- 27 pilaster/pilasterref49.Text -/
noncomputable def c27 : Code := match Try.f27.body with
  | some c => c
  | none => .skip
noncomputable def cfg27 : Cfg := ⟨Try.prog, TT, FNS, [2, 4, 5], [(2, 2), (4, 4), (5, 5)], [], TCH, false, false⟩
def an27 : AnnG := (.seq .leaf (.seq (.tree 9 (.quiet 0 (.quiet 1 (.quiet 2 (.quiet 3 (.eff 4 (.eff 5 (.quiet 6 (.quiet 7 (.quiet 8 .fin))) .fin) .fin)))))) .leaf))
def F27 (h0a : Option Addr) (h0l : Nat) (h0c : Nat) (h1 : Int) (h2 : Int) (s : ByteArray) (g : G) (R : Value → G → Prop) : Prop :=
  ∀ g1 : G, Ex g g1 →
  (CallsP Try.prog 71 #[(.string s)] g1 fun v g2 =>
  ∃ xa : Option Addr, ∃ xl : Nat, ∃ xc : Nat, v = (.slice xa xl xc) ∧ (CallsP Try.prog 70 #[(.agg ⟨[(.slice h0a h0l h0c), (.int .i64 h1), (.int .i64 h2)]⟩), (.int .i64 (4 : Int)), (.int .i64 ((s.size : Nat) : Int)), (.slice xa xl xc)] g2 fun v g3 =>
  ∃ x00a : Option Addr, ∃ x00l : Nat, ∃ x00c : Nat, ∃ x01 : Int, ∃ x02 : Int, ∃ x10 : Bool, ∃ x11 : Int, ∃ x2 : Bool, v = (.tuple ⟨[(.agg ⟨[(.slice x00a x00l x00c), (.int .i64 x01), (.int .i64 x02)]⟩), (.agg ⟨[(.bool x10), (.int .i64 x11)]⟩), (.bool x2)]⟩) ∧ ∀ g4 : G, Ex g3 g4 →
  R (.tuple ⟨[(.agg ⟨[(.slice x00a x00l x00c), (.int .i64 x01), (.int .i64 x02)]⟩), (.agg ⟨[(.bool x10), (.int .i64 x11)]⟩), (.bool x2)]⟩) g4))
theorem F27_eq (h0a : Option Addr) (h0l : Nat) (h0c : Nat) (h1 : Int) (h2 : Int) (s : ByteArray) (g : G) (R : Value → G → Prop) : fnG cfg27 16 [.cell 4 24, .cell 5 41, .tmp 6] c27 an27 [(.agg ⟨[(.slice h0a h0l h0c), (.int .i64 h1), (.int .i64 h2)]⟩), (.string s)] g nobody R = F27 h0a h0l h0c h1 h2 s g R := by kernel_rfl
theorem call27 (h0a : Option Addr) (h0l : Nat) (h0c : Nat) (h1 : Int) (h2 : Int) (s : ByteArray) (g : G) (R : Value → G → Prop) (hF : F27 h0a h0l h0c h1 h2 s g R) : CallsG Try.prog 27 #[(.agg ⟨[(.slice h0a h0l h0c), (.int .i64 h1), (.int .i64 h2)]⟩), (.string s)] g nobody R :=
  fn_soundG (c := cfg27) TTok FNSok mixed Try.func27 (show Try.f27.body = some c27 by kernel_rfl) (show Try.f27.ntmps = 16 by kernel_rfl) (show Try.f27.results.toList = [.cell 4 24, .cell 5 41, .tmp 6] by kernel_rfl) rfl ((F27_eq h0a h0l h0c h1 h2 s g R).mpr hF)

/- 28 pilaster/pilasterref49.Data -/
noncomputable def c28 : Code := match Try.f28.body with
  | some c => c
  | none => .skip
noncomputable def cfg28 : Cfg := ⟨Try.prog, TT, FNS, [1], [(1, 1)], [], TCH, false, false⟩
def an28 : AnnG := (.seq .leaf (.seq .leaf .leaf))
def F28 (v0 : Int) (v1 : Int) (v2 : ByteArray) (v3a : Option Addr) (v3l : Nat) (v3c : Nat) (v4a : Option Addr) (v4l : Nat) (v4c : Nat) (g : G) (R : Value → G → Prop) : Prop :=
  ∀ g1 : G, Ex g g1 →
  (CallsP Try.prog 72 #[(.agg ⟨[(.int .i64 v0), (.int .i64 v1), (.string v2), (.slice v3a v3l v3c), (.slice v4a v4l v4c)]⟩), (.int .i64 (20001 : Int)), (.int .i64 (1 : Int))] g1 fun v g2 =>
  ∃ x : Int, v = (.int .i64 x) ∧ ifB (leI x (20000 : Int))
  ((CallsP Try.prog 73 #[(.agg ⟨[(.int .i64 v0), (.int .i64 v1), (.string v2), (.slice v3a v3l v3c), (.slice v4a v4l v4c)]⟩)] g2 fun v g3 =>
  ∃ x_1 : Bool, v = (.bool x_1) ∧ ∀ g4 : G, Ex g3 g4 →
  R (.bool x_1) g4))
  (∀ g5 : G, Ex g2 g5 →
  R (.bool false) g5))
theorem F28_eq (v0 : Int) (v1 : Int) (v2 : ByteArray) (v3a : Option Addr) (v3l : Nat) (v3c : Nat) (v4a : Option Addr) (v4l : Nat) (v4c : Nat) (g : G) (R : Value → G → Prop) : fnG cfg28 10 [.tmp 2] c28 an28 [(.agg ⟨[(.int .i64 v0), (.int .i64 v1), (.string v2), (.slice v3a v3l v3c), (.slice v4a v4l v4c)]⟩)] g nobody R = F28 v0 v1 v2 v3a v3l v3c v4a v4l v4c g R := by kernel_rfl
theorem call28 (v0 : Int) (v1 : Int) (v2 : ByteArray) (v3a : Option Addr) (v3l : Nat) (v3c : Nat) (v4a : Option Addr) (v4l : Nat) (v4c : Nat) (g : G) (R : Value → G → Prop) (hF : F28 v0 v1 v2 v3a v3l v3c v4a v4l v4c g R) : CallsG Try.prog 28 #[(.agg ⟨[(.int .i64 v0), (.int .i64 v1), (.string v2), (.slice v3a v3l v3c), (.slice v4a v4l v4c)]⟩)] g nobody R :=
  fn_soundG (c := cfg28) TTok FNSok mixed Try.func28 (show Try.f28.body = some c28 by kernel_rfl) (show Try.f28.ntmps = 10 by kernel_rfl) (show Try.f28.results.toList = [.tmp 2] by kernel_rfl) rfl ((F28_eq v0 v1 v2 v3a v3l v3c v4a v4l v4c g R).mpr hF)

/- 29 pilaster/pilasterref49.Put -/
noncomputable def c29 : Code := match Try.f29.body with
  | some c => c
  | none => .skip
noncomputable def cfg29 : Cfg := ⟨Try.prog, TT, FNS, [2, 3, 4, 5, 9, 10], [(2, 2), (3, 3), (4, 4), (5, 5), (9, 9), (10, 10), (12, 3), (16, 3), (19, 3), (23, 3), (30, 3), (38, 3), (56, 3), (60, 3)], [], TCH, false, false⟩
def an29 : AnnG := (.seq .leaf (.seq (.seq .leaf (.cond (.seq (.treeP false [4, 5] 4 (.quiet 0 (.quiet 1 (.quiet 2 (.eff 3 .fin .fin))))) .leaf) .leaf)) (.seq (.seq .leaf (.cond (.seq .leaf .leaf) .leaf)) (.seq .leaf (.seq (.seq .leaf (.blk (.loop ⟨[(7, .sl), (8, .int .i64)], [(2, 2, 0), (4, 4, 0), (5, 5, 0)], [(2, [(.sl), (.int .i64), (.int .i64)]), (4, [(.sl), (.int .i64), (.int .i64)]), (5, [(.bool), (.int .i64)])]⟩ (.seq (.seq .leaf (.cond .leaf .leaf)) (.seq (.blk (.join ⟨[(11, .bool)], [(9, 9, 0), (10, 10, 0)], [(9, [(.sl), (.int .i64), (.int .i64)]), (10, [(.bool), (.int .i64)])]⟩ (.treeP false [] 15 (.quiet 0 (.quiet 1 (.quiet 2 (.quiet 3 (.quiet 4 (.quiet 5 (.eff 6 (.quiet 7 (.quiet 8 (.quiet 9 (.quiet 10 (.eff 11 (.eff 12 (.eff 13 (.eff 14 .fin .fin) .fin) .fin) (.eff 12 (.eff 11 (.eff 13 (.eff 14 .fin .fin) .fin) .fin) .fin)))))) (.eff 11 (.eff 6 (.quiet 7 (.quiet 8 (.quiet 9 (.quiet 10 (.eff 12 (.eff 13 (.eff 14 .fin .fin) .fin) .fin))))) (.eff 12 (.eff 6 (.quiet 7 (.quiet 8 (.quiet 9 (.quiet 10 (.eff 13 (.eff 14 .fin .fin) .fin))))) .fin) .fin)) (.eff 12 (.eff 6 (.quiet 7 (.quiet 8 (.quiet 9 (.quiet 10 (.eff 11 (.eff 13 (.eff 14 .fin .fin) .fin) .fin))))) (.eff 11 (.eff 6 (.quiet 7 (.quiet 8 (.quiet 9 (.quiet 10 (.eff 13 (.eff 14 .fin .fin) .fin))))) .fin) .fin)) .fin)))))))))) (.seq (.seq .leaf (.cond (.seq (.treeP false [4, 5] 3 (.quiet 0 (.quiet 1 (.eff 2 .fin .fin)))) .leaf) .leaf)) (.seq .leaf .leaf)))) .leaf))))) (.seq (.seq .leaf (.cond (.seq .leaf .leaf) .leaf)) (.seq .leaf .leaf)))))))
def F29 (h0a : Option Addr) (h0l : Nat) (h0c : Nat) (h1 : Int) (h2 : Int) (v0 : Int) (v1 : Int) (v2 : ByteArray) (v3a : Option Addr) (v3l : Nat) (v3c : Nat) (v4a : Option Addr) (v4l : Nat) (v4c : Nat) (g : G) (R : Value → G → Prop) : Prop :=
  ifB (eqI v0 (1 : Int))
  (∀ g1 : G, Ex g g1 →
  ∀ g2 : G, Ex g1 g2 →
  (CallsP Try.prog 74 #[(.int .i64 v1)] g2 fun v g3 =>
  ∃ x0 : Bool, ∃ x1 : Int, v = (.agg ⟨[(.bool x0), (.int .i64 x1)]⟩) ∧ ∀ g4 : G, Ex g3 g4 →
  R (.tuple ⟨[(.agg ⟨[(.slice h0a h0l h0c), (.int .i64 h1), (.int .i64 h2)]⟩), (.agg ⟨[(.bool x0), (.int .i64 x1)]⟩), (.bool true)]⟩) g4))
  (ifB (eqI v0 (2 : Int))
  (∀ g5 : G, Ex g g5 →
  (CallsP Try.prog 27 #[(.agg ⟨[(.slice h0a h0l h0c), (.int .i64 h1), (.int .i64 h2)]⟩), (.string v2)] g5 fun v g6 =>
  ∃ x00a : Option Addr, ∃ x00l : Nat, ∃ x00c : Nat, ∃ x01 : Int, ∃ x02 : Int, ∃ x10 : Bool, ∃ x11 : Int, ∃ x2 : Bool, v = (.tuple ⟨[(.agg ⟨[(.slice x00a x00l x00c), (.int .i64 x01), (.int .i64 x02)]⟩), (.agg ⟨[(.bool x10), (.int .i64 x11)]⟩), (.bool x2)]⟩) ∧ ∀ g7 : G, Ex g6 g7 →
  R (.tuple ⟨[(.agg ⟨[(.slice x00a x00l x00c), (.int .i64 x01), (.int .i64 x02)]⟩), (.agg ⟨[(.bool x10), (.int .i64 x11)]⟩), (.bool x2)]⟩) g7))
  (∃ Inv : Nat → Option Addr → Nat → Nat → Int → Option Addr → Nat → Nat → Int → Int → Option Addr → Nat → Nat → Int → Int → Bool → Int → G → Prop, (∀ g8 : G, Ex g g8 →
  (∃ m0 : Nat, Inv m0 none 0 0 (0 : Int) h0a h0l h0c h1 h2 none 0 0 (0 : Int) (0 : Int) false (0 : Int) g8)) ∧
  ∀ m : Nat, ∀ la : Option Addr, ∀ ll : Nat, ∀ lc : Nat, ∀ i : Int, ∀ h0a_1 : Option Addr, ∀ h0l_1 : Nat, ∀ h0c_1 : Nat, ∀ h1_1 : Int, ∀ h2_1 : Int, ∀ x0a : Option Addr, ∀ x0l : Nat, ∀ x0c : Nat, ∀ x1_1 : Int, ∀ x2_1 : Int, ∀ x0_1 : Bool, ∀ x1_2 : Int, ∀ g9 : G, Le g g9 → Inv m la ll lc i h0a_1 h0l_1 h0c_1 h1_1 h2_1 x0a x0l x0c x1_1 x2_1 x0_1 x1_2 g9 →
  ifB (ltI i ((v4l : Nat) : Int))
  (∀ J : Bool → Option Addr → Nat → Nat → Int → Int → Bool → Int → G → Prop,
  (∀ ok : Bool, ∀ next0a : Option Addr, ∀ next0l : Nat, ∀ next0c : Nat, ∀ next1 : Int, ∀ next2 : Int, ∀ w0 : Bool, ∀ w1 : Int, ∀ g10 : G, (ifB (!ok)
  (∀ g11 : G, Ex g10 g11 →
  ∀ g12 : G, Ex g11 g12 →
  R (.tuple ⟨[(.agg ⟨[(.slice next0a next0l next0c), (.int .i64 next1), (.int .i64 next2)]⟩), (.agg ⟨[(.bool w0), (.int .i64 w1)]⟩), (.bool false)]⟩) g12)
  (∀ g13 : G, Ex g10 g13 →
  ∀ g14 : G, NewL g13 g14 41 [(.bool w0), (.int .i64 w1)] →
  ∃ la_1 : Option Addr, ∃ ll_1 : Nat, ∃ lc_1 : Nat, ∃ wo1 : World, Sem.run Try.prog (Builtin.append_ #[22, 22] 22 #[(.slice la ll lc), (.slice (some ⟨g13.w.heap.size, 0, none⟩) 1 1)]) g14.w = .ok (.slice la_1 ll_1 lc_1) wo1 ∧ ∃ g15 : G, g15.w = wo1 ∧ Stp g.w.heap.size nobody g14 g15 ∧ InI64 (i + (1 : Int)) ∧ (∃ m_1 : Nat, m_1 < m ∧ Inv m_1 la_1 ll_1 lc_1 (i + (1 : Int)) next0a next0l next0c next1 next2 x0a x0l x0c x1_1 x2_1 x0_1 x1_2 g15))) → J ok next0a next0l next0c next1 next2 w0 w1 g10) →
  ∀ g16 : G, Ex g9 g16 →
  (0 ≤ i ∧ i < ((v4l : Nat) : Int)) ∧ derefP v4a fun ad => ¬ g16.X (Addr.block (Addr.add ad (Int.toNat i * 5))) ∧ ∃ x0_2 : Int, ∃ x1_3 : Int, ∃ x2_2 : ByteArray, ∃ x3a : Option Addr, ∃ x3l : Nat, ∃ x3c : Nat, ∃ x4a : Option Addr, ∃ x4l : Nat, ∃ x4c : Nat, g16.w.cell? (Addr.add ad (Int.toNat i * 5)) = some (.int .i64 x0_2) ∧ g16.w.cell? (Addr.add (Addr.add ad (Int.toNat i * 5)) 1) = some (.int .i64 x1_3) ∧ g16.w.cell? (Addr.add (Addr.add ad (Int.toNat i * 5)) 2) = some (.string x2_2) ∧ g16.w.cell? (Addr.add (Addr.add ad (Int.toNat i * 5)) 3) = some (.slice x3a x3l x3c) ∧ g16.w.cell? (Addr.add (Addr.add ad (Int.toNat i * 5)) 4) = some (.slice x4a x4l x4c) ∧ (∀ g17 : G, Ex g16 g17 →
  (CallsP Try.prog 29 #[(.agg ⟨[(.slice h0a_1 h0l_1 h0c_1), (.int .i64 h1_1), (.int .i64 h2_1)]⟩), (.agg ⟨[(.int .i64 x0_2), (.int .i64 x1_3), (.string x2_2), (.slice x3a x3l x3c), (.slice x4a x4l x4c)]⟩)] g17 fun v g18 =>
  ∃ x00a_1 : Option Addr, ∃ x00l_1 : Nat, ∃ x00c_1 : Nat, ∃ x01_1 : Int, ∃ x02_1 : Int, ∃ x10_1 : Bool, ∃ x11_1 : Int, ∃ x2_3 : Bool, v = (.tuple ⟨[(.agg ⟨[(.slice x00a_1 x00l_1 x00c_1), (.int .i64 x01_1), (.int .i64 x02_1)]⟩), (.agg ⟨[(.bool x10_1), (.int .i64 x11_1)]⟩), (.bool x2_3)]⟩) ∧ Rep 1 (∀ g19 : G, Ex g18 g19 →
  J x2_3 x00a_1 x00l_1 x00c_1 x01_1 x02_1 x10_1 x11_1 g19))) ∧ ((Rep 1 (∀ g21 : G, Ex g16 g21 →
  (CallsP Try.prog 29 #[(.agg ⟨[(.slice h0a_1 h0l_1 h0c_1), (.int .i64 h1_1), (.int .i64 h2_1)]⟩), (.agg ⟨[(.int .i64 x0_2), (.int .i64 x1_3), (.string x2_2), (.slice x3a x3l x3c), (.slice x4a x4l x4c)]⟩)] g21 fun v g22 =>
  ∃ x00a_2 : Option Addr, ∃ x00l_2 : Nat, ∃ x00c_2 : Nat, ∃ x01_2 : Int, ∃ x02_2 : Int, ∃ x10_2 : Bool, ∃ x11_2 : Int, ∃ x2_4 : Bool, v = (.tuple ⟨[(.agg ⟨[(.slice x00a_2 x00l_2 x00c_2), (.int .i64 x01_2), (.int .i64 x02_2)]⟩), (.agg ⟨[(.bool x10_2), (.int .i64 x11_2)]⟩), (.bool x2_4)]⟩) ∧ ∀ g23 : G, Ex g22 g23 →
  J x2_4 x00a_2 x00l_2 x00c_2 x01_2 x02_2 x10_2 x11_2 g23))) ∧ (Rep 1 (∀ g27 : G, Ex g16 g27 →
  (CallsP Try.prog 29 #[(.agg ⟨[(.slice h0a_1 h0l_1 h0c_1), (.int .i64 h1_1), (.int .i64 h2_1)]⟩), (.agg ⟨[(.int .i64 x0_2), (.int .i64 x1_3), (.string x2_2), (.slice x3a x3l x3c), (.slice x4a x4l x4c)]⟩)] g27 fun v g28 =>
  ∃ x00a_4 : Option Addr, ∃ x00l_4 : Nat, ∃ x00c_4 : Nat, ∃ x01_4 : Int, ∃ x02_4 : Int, ∃ x10_4 : Bool, ∃ x11_4 : Int, ∃ x2_6 : Bool, v = (.tuple ⟨[(.agg ⟨[(.slice x00a_4 x00l_4 x00c_4), (.int .i64 x01_4), (.int .i64 x02_4)]⟩), (.agg ⟨[(.bool x10_4), (.int .i64 x11_4)]⟩), (.bool x2_6)]⟩) ∧ ∀ g29 : G, Ex g28 g29 →
  J x2_6 x00a_4 x00l_4 x00c_4 x01_4 x02_4 x10_4 x11_4 g29)))))
  (ifB (eqI v0 (4 : Int))
  ((CallsP Try.prog 70 #[(.agg ⟨[(.slice h0a_1 h0l_1 h0c_1), (.int .i64 h1_1), (.int .i64 h2_1)]⟩), (.int .i64 (2 : Int)), (.int .i64 v1), (.slice la ll lc)] g9 fun v g33 =>
  ∃ x00a_6 : Option Addr, ∃ x00l_6 : Nat, ∃ x00c_6 : Nat, ∃ x01_6 : Int, ∃ x02_6 : Int, ∃ x10_6 : Bool, ∃ x11_6 : Int, ∃ x2_8 : Bool, v = (.tuple ⟨[(.agg ⟨[(.slice x00a_6 x00l_6 x00c_6), (.int .i64 x01_6), (.int .i64 x02_6)]⟩), (.agg ⟨[(.bool x10_6), (.int .i64 x11_6)]⟩), (.bool x2_8)]⟩) ∧ ∀ g34 : G, Ex g33 g34 →
  R (.tuple ⟨[(.agg ⟨[(.slice x00a_6 x00l_6 x00c_6), (.int .i64 x01_6), (.int .i64 x02_6)]⟩), (.agg ⟨[(.bool x10_6), (.int .i64 x11_6)]⟩), (.bool x2_8)]⟩) g34))
  ((CallsP Try.prog 70 #[(.agg ⟨[(.slice h0a_1 h0l_1 h0c_1), (.int .i64 h1_1), (.int .i64 h2_1)]⟩), (.int .i64 (1 : Int)), (.int .i64 (0 : Int)), (.slice la ll lc)] g9 fun v g35 =>
  ∃ x00a_7 : Option Addr, ∃ x00l_7 : Nat, ∃ x00c_7 : Nat, ∃ x01_7 : Int, ∃ x02_7 : Int, ∃ x10_7 : Bool, ∃ x11_7 : Int, ∃ x2_9 : Bool, v = (.tuple ⟨[(.agg ⟨[(.slice x00a_7 x00l_7 x00c_7), (.int .i64 x01_7), (.int .i64 x02_7)]⟩), (.agg ⟨[(.bool x10_7), (.int .i64 x11_7)]⟩), (.bool x2_9)]⟩) ∧ ∀ g36 : G, Ex g35 g36 →
  R (.tuple ⟨[(.agg ⟨[(.slice x00a_7 x00l_7 x00c_7), (.int .i64 x01_7), (.int .i64 x02_7)]⟩), (.agg ⟨[(.bool x10_7), (.int .i64 x11_7)]⟩), (.bool x2_9)]⟩) g36)))))
theorem F29_eq (h0a : Option Addr) (h0l : Nat) (h0c : Nat) (h1 : Int) (h2 : Int) (v0 : Int) (v1 : Int) (v2 : ByteArray) (v3a : Option Addr) (v3l : Nat) (v3c : Nat) (v4a : Option Addr) (v4l : Nat) (v4c : Nat) (g : G) (R : Value → G → Prop) : fnG cfg29 73 [.cell 4 24, .cell 5 41, .tmp 6] c29 an29 [(.agg ⟨[(.slice h0a h0l h0c), (.int .i64 h1), (.int .i64 h2)]⟩), (.agg ⟨[(.int .i64 v0), (.int .i64 v1), (.string v2), (.slice v3a v3l v3c), (.slice v4a v4l v4c)]⟩)] g nobody R = F29 h0a h0l h0c h1 h2 v0 v1 v2 v3a v3l v3c v4a v4l v4c g R := by kernel_rfl
theorem call29 (h0a : Option Addr) (h0l : Nat) (h0c : Nat) (h1 : Int) (h2 : Int) (v0 : Int) (v1 : Int) (v2 : ByteArray) (v3a : Option Addr) (v3l : Nat) (v3c : Nat) (v4a : Option Addr) (v4l : Nat) (v4c : Nat) (g : G) (R : Value → G → Prop) (hF : F29 h0a h0l h0c h1 h2 v0 v1 v2 v3a v3l v3c v4a v4l v4c g R) : CallsG Try.prog 29 #[(.agg ⟨[(.slice h0a h0l h0c), (.int .i64 h1), (.int .i64 h2)]⟩), (.agg ⟨[(.int .i64 v0), (.int .i64 v1), (.string v2), (.slice v3a v3l v3c), (.slice v4a v4l v4c)]⟩)] g nobody R :=
  fn_soundG (c := cfg29) TTok FNSok mixed Try.func29 (show Try.f29.body = some c29 by kernel_rfl) (show Try.f29.ntmps = 73 by kernel_rfl) (show Try.f29.results.toList = [.cell 4 24, .cell 5 41, .tmp 6] by kernel_rfl) rfl ((F29_eq h0a h0l h0c h1 h2 v0 v1 v2 v3a v3l v3c v4a v4l v4c g R).mpr hF)

/- 30 pilaster/heap.Alloc -/
noncomputable def c30 : Code := match Try.f30.body with
  | some c => c
  | none => .skip
noncomputable def cfg30 : Cfg := ⟨Try.prog, TT, FNS, [4, 8, 9, 13, 14], [(4, 4), (8, 8), (9, 9), (13, 13), (14, 14)], [11], TCH, false, false⟩
def an30 : AnnG := (.seq .leaf (.seq .leaf (.seq (.seq .leaf (.cond (.seq .leaf .leaf) .leaf)) (.join ⟨[], [(8, 8, 0), (9, 9, 0)], [(8, [(.sl), (.int .i64), (.int .i64)]), (9, [(.bool), (.int .i64)])]⟩ (.seq .leaf (.cond (.seq .leaf .leaf) .leaf)) (.seq .leaf (.seq (.seq .leaf (.cond (.seq .leaf .leaf) .leaf)) (.seq (.treeP false [8, 9] 3 (.quiet 0 (.quiet 1 (.eff 2 .fin .fin)))) .leaf)))))))
def F30 (h0a : Option Addr) (h0l : Nat) (h0c : Nat) (h1 : Int) (h2 : Int) (kind : Int) (n : Int) (la : Option Addr) (ll : Nat) (lc : Nat) (g : G) (R : Value → G → Prop) : Prop :=
  ∀ g1 : G, Ex g g1 →
  (CallsP Try.prog 60 #[(.agg ⟨[(.slice h0a h0l h0c), (.int .i64 h1), (.int .i64 h2)]⟩)] g1 fun v g2 =>
  ∃ x0a : Option Addr, ∃ x0l : Nat, ∃ x0c : Nat, ∃ x1 : Bool, v = (.tuple ⟨[(.slice x0a x0l x0c), (.bool x1)]⟩) ∧ ∀ g3 : G, NewD g2 g3 55 [(.slice none 0 0)] →
  stOk g3.w ⟨g2.w.heap.size, 0, none⟩ 1 ∧ ¬ g3.X (Addr.block ⟨g2.w.heap.size, 0, none⟩) ∧ mutAt g3 ⟨g2.w.heap.size, 0, none⟩ 1 ∧ ((Addr.block ⟨g2.w.heap.size, 0, none⟩) < g.w.heap.size → nobody (Addr.block ⟨g2.w.heap.size, 0, none⟩)) ∧ ∀ g4 : G, StG true g3 ⟨g2.w.heap.size, 0, none⟩ [(.slice x0a x0l x0c)] g4 →
  ifB (!x1)
  (∀ g5 : G, Ex g4 g5 →
  R (.tuple ⟨[(.agg ⟨[(.slice none 0 0), (.int .i64 (0 : Int)), (.int .i64 (0 : Int))]⟩), (.agg ⟨[(.bool false), (.int .i64 (0 : Int))]⟩), (.int .i64 (1 : Int))]⟩) g5)
  (∀ J : Option Addr → Nat → Nat → Int → Int → Bool → Int → G → Prop,
  (∀ x0a_1 : Option Addr, ∀ x0l_1 : Nat, ∀ x0c_1 : Nat, ∀ x1_1 : Int, ∀ x2 : Int, ∀ x0 : Bool, ∀ x1_2 : Int, ∀ g6 : G, ((CallsP Try.prog 64 #[(.agg ⟨[(.slice h0a h0l h0c), (.int .i64 h1), (.int .i64 h2)]⟩), (.int .i64 kind), (.int .i64 n), (.slice la ll lc)] g6 fun v g7 =>
  ∃ x00a : Option Addr, ∃ x00l : Nat, ∃ x00c : Nat, ∃ x01 : Int, ∃ x02 : Int, ∃ x10 : Bool, ∃ x11 : Int, ∃ x2_1 : Bool, v = (.tuple ⟨[(.agg ⟨[(.slice x00a x00l x00c), (.int .i64 x01), (.int .i64 x02)]⟩), (.agg ⟨[(.bool x10), (.int .i64 x11)]⟩), (.bool x2_1)]⟩) ∧ ifB (!x2_1)
  (∀ g8 : G, Ex g7 g8 →
  ∀ g9 : G, Ex g8 g9 →
  R (.tuple ⟨[(.agg ⟨[(.slice none 0 0), (.int .i64 (0 : Int)), (.int .i64 (0 : Int))]⟩), (.agg ⟨[(.bool false), (.int .i64 (0 : Int))]⟩), (.int .i64 (25 : Int))]⟩) g9)
  (∀ g10 : G, Ex g7 g10 →
  ∀ g11 : G, Ex g10 g11 →
  R (.tuple ⟨[(.agg ⟨[(.slice x00a x00l x00c), (.int .i64 x01), (.int .i64 x02)]⟩), (.agg ⟨[(.bool x10), (.int .i64 x11)]⟩), (.int .i64 (0 : Int))]⟩) g11))) → J x0a_1 x0l_1 x0c_1 x1_1 x2 x0 x1_2 g6) →
  (CallsP Try.prog 75 #[(.int .i64 kind), (.int .i64 n), (.slice la ll lc)] g4 fun v g12 =>
  ∃ x : Bool, v = (.bool x) ∧ ifB (!x)
  (∀ g13 : G, Ex g12 g13 →
  R (.tuple ⟨[(.agg ⟨[(.slice none 0 0), (.int .i64 (0 : Int)), (.int .i64 (0 : Int))]⟩), (.agg ⟨[(.bool false), (.int .i64 (0 : Int))]⟩), (.int .i64 (2 : Int))]⟩) g13)
  ((CallsP Try.prog 76 #[(.slice la ll lc), (.func (.func 77) #[] ⟨[(.pointer (some ⟨g2.w.heap.size, 0, none⟩))]⟩)] g12 fun v g14 =>
  ∃ x_1 : Bool, v = (.bool x_1) ∧ ifB x_1
  (∀ g15 : G, Ex g14 g15 →
  R (.tuple ⟨[(.agg ⟨[(.slice none 0 0), (.int .i64 (0 : Int)), (.int .i64 (0 : Int))]⟩), (.agg ⟨[(.bool false), (.int .i64 (0 : Int))]⟩), (.int .i64 (2 : Int))]⟩) g15)
  (J none 0 0 (0 : Int) (0 : Int) false (0 : Int) g14))))))
theorem F30_eq (h0a : Option Addr) (h0l : Nat) (h0c : Nat) (h1 : Int) (h2 : Int) (kind : Int) (n : Int) (la : Option Addr) (ll : Nat) (lc : Nat) (g : G) (R : Value → G → Prop) : fnG cfg30 51 [.cell 8 24, .cell 9 41, .tmp 10] c30 an30 [(.agg ⟨[(.slice h0a h0l h0c), (.int .i64 h1), (.int .i64 h2)]⟩), (.int .i64 kind), (.int .i64 n), (.slice la ll lc)] g nobody R = F30 h0a h0l h0c h1 h2 kind n la ll lc g R := by kernel_rfl
theorem call30 (h0a : Option Addr) (h0l : Nat) (h0c : Nat) (h1 : Int) (h2 : Int) (kind : Int) (n : Int) (la : Option Addr) (ll : Nat) (lc : Nat) (g : G) (R : Value → G → Prop) (hF : F30 h0a h0l h0c h1 h2 kind n la ll lc g R) : CallsG Try.prog 30 #[(.agg ⟨[(.slice h0a h0l h0c), (.int .i64 h1), (.int .i64 h2)]⟩), (.int .i64 kind), (.int .i64 n), (.slice la ll lc)] g nobody R :=
  fn_soundG (c := cfg30) TTok FNSok mixed Try.func30 (show Try.f30.body = some c30 by kernel_rfl) (show Try.f30.ntmps = 51 by kernel_rfl) (show Try.f30.results.toList = [.cell 8 24, .cell 9 41, .tmp 10] by kernel_rfl) rfl ((F30_eq h0a h0l h0c h1 h2 kind n la ll lc g R).mpr hF)

/- 31 pilaster/pilasterref49.Alloc -/
noncomputable def c31 : Code := match Try.f31.body with
  | some c => c
  | none => .skip
noncomputable def cfg31 : Cfg := ⟨Try.prog, TT, FNS, [4, 8, 9, 13, 14], [(4, 4), (8, 8), (9, 9), (13, 13), (14, 14)], [], TCH, false, false⟩
def an31 : AnnG := (.seq .leaf (.seq (.seq .leaf (.cond (.seq .leaf .leaf) .leaf)) (.seq .leaf (.seq (.seq .leaf (.blk (.loop ⟨[(12, .int .i64)], [(8, 8, 0), (9, 9, 0)], [(8, [(.sl), (.int .i64), (.int .i64)]), (9, [(.bool), (.int .i64)])]⟩ (.seq (.seq .leaf (.cond .leaf .leaf)) (.seq (.blk (.seq .leaf (.cond (.seq .leaf .leaf) .leaf))) .leaf))))) (.seq .leaf (.seq (.seq .leaf (.cond (.seq (.treeP false [8, 9] 3 (.quiet 0 (.quiet 1 (.eff 2 .fin .fin)))) .leaf) .leaf)) (.seq (.treeP false [8, 9] 3 (.quiet 0 (.quiet 1 (.eff 2 .fin .fin)))) .leaf)))))))
def F31 (h0a : Option Addr) (h0l : Nat) (h0c : Nat) (h1 : Int) (h2 : Int) (kind : Int) (n : Int) (la : Option Addr) (ll : Nat) (lc : Nat) (g : G) (R : Value → G → Prop) : Prop :=
  ∀ g1 : G, Ex g g1 →
  (CallsP Try.prog 79 #[(.int .i64 kind), (.int .i64 n), (.slice la ll lc)] g1 fun v g2 =>
  ∃ x : Bool, v = (.bool x) ∧ ifB (!x)
  (∀ g3 : G, Ex g2 g3 →
  R (.tuple ⟨[(.agg ⟨[(.slice none 0 0), (.int .i64 (0 : Int)), (.int .i64 (0 : Int))]⟩), (.agg ⟨[(.bool false), (.int .i64 (0 : Int))]⟩), (.int .i64 (2 : Int))]⟩) g3)
  ((CallsP Try.prog 36 #[(.agg ⟨[(.slice h0a h0l h0c), (.int .i64 h1), (.int .i64 h2)]⟩)] g2 fun v g4 =>
  ∃ alla : Option Addr, ∃ alll : Nat, ∃ allc : Nat, v = (.slice alla alll allc) ∧ ∃ Inv : Nat → Int → Option Addr → Nat → Nat → Int → Int → Bool → Int → G → Prop, ((∃ m0 : Nat, Inv m0 (0 : Int) none 0 0 (0 : Int) (0 : Int) false (0 : Int) g4)) ∧
  ∀ m : Nat, ∀ i : Int, ∀ x0a : Option Addr, ∀ x0l : Nat, ∀ x0c : Nat, ∀ x1 : Int, ∀ x2 : Int, ∀ x0 : Bool, ∀ x1_1 : Int, ∀ g5 : G, Le g4 g5 → Inv m i x0a x0l x0c x1 x2 x0 x1_1 g5 →
  ifB (ltI i ((ll : Nat) : Int))
  ((0 ≤ i ∧ i < ((ll : Nat) : Int)) ∧ derefP la fun ad => ∃ x0_1 : Bool, ∃ x1_2 : Int, g5.w.cell? (Addr.add ad (Int.toNat i * 2)) = some (.bool x0_1) ∧ g5.w.cell? (Addr.add (Addr.add ad (Int.toNat i * 2)) 1) = some (.int .i64 x1_2) ∧ (CallsP Try.prog 63 #[(.slice alla alll allc), (.agg ⟨[(.bool x0_1), (.int .i64 x1_2)]⟩)] g5 fun v g6 =>
  ∃ x_1 : Bool, v = (.bool x_1) ∧ ifB (!x_1)
  (∀ g7 : G, Ex g6 g7 →
  R (.tuple ⟨[(.agg ⟨[(.slice none 0 0), (.int .i64 (0 : Int)), (.int .i64 (0 : Int))]⟩), (.agg ⟨[(.bool false), (.int .i64 (0 : Int))]⟩), (.int .i64 (2 : Int))]⟩) g7)
  (InI64 (i + (1 : Int)) ∧ (∃ m_1 : Nat, m_1 < m ∧ Inv m_1 (i + (1 : Int)) x0a x0l x0c x1 x2 x0 x1_1 g6))))
  ((CallsP Try.prog 70 #[(.agg ⟨[(.slice h0a h0l h0c), (.int .i64 h1), (.int .i64 h2)]⟩), (.int .i64 kind), (.int .i64 n), (.slice la ll lc)] g5 fun v g8 =>
  ∃ x00a : Option Addr, ∃ x00l : Nat, ∃ x00c : Nat, ∃ x01 : Int, ∃ x02 : Int, ∃ x10 : Bool, ∃ x11 : Int, ∃ x2_1 : Bool, v = (.tuple ⟨[(.agg ⟨[(.slice x00a x00l x00c), (.int .i64 x01), (.int .i64 x02)]⟩), (.agg ⟨[(.bool x10), (.int .i64 x11)]⟩), (.bool x2_1)]⟩) ∧ ifB (!x2_1)
  (∀ g9 : G, Ex g8 g9 →
  ∀ g10 : G, Ex g9 g10 →
  R (.tuple ⟨[(.agg ⟨[(.slice x00a x00l x00c), (.int .i64 x01), (.int .i64 x02)]⟩), (.agg ⟨[(.bool x10), (.int .i64 x11)]⟩), (.int .i64 (25 : Int))]⟩) g10)
  (∀ g11 : G, Ex g8 g11 →
  ∀ g12 : G, Ex g11 g12 →
  R (.tuple ⟨[(.agg ⟨[(.slice x00a x00l x00c), (.int .i64 x01), (.int .i64 x02)]⟩), (.agg ⟨[(.bool x10), (.int .i64 x11)]⟩), (.int .i64 (0 : Int))]⟩) g12))))))
theorem F31_eq (h0a : Option Addr) (h0l : Nat) (h0c : Nat) (h1 : Int) (h2 : Int) (kind : Int) (n : Int) (la : Option Addr) (ll : Nat) (lc : Nat) (g : G) (R : Value → G → Prop) : fnG cfg31 55 [.cell 8 24, .cell 9 41, .tmp 10] c31 an31 [(.agg ⟨[(.slice h0a h0l h0c), (.int .i64 h1), (.int .i64 h2)]⟩), (.int .i64 kind), (.int .i64 n), (.slice la ll lc)] g nobody R = F31 h0a h0l h0c h1 h2 kind n la ll lc g R := by kernel_rfl
theorem call31 (h0a : Option Addr) (h0l : Nat) (h0c : Nat) (h1 : Int) (h2 : Int) (kind : Int) (n : Int) (la : Option Addr) (ll : Nat) (lc : Nat) (g : G) (R : Value → G → Prop) (hF : F31 h0a h0l h0c h1 h2 kind n la ll lc g R) : CallsG Try.prog 31 #[(.agg ⟨[(.slice h0a h0l h0c), (.int .i64 h1), (.int .i64 h2)]⟩), (.int .i64 kind), (.int .i64 n), (.slice la ll lc)] g nobody R :=
  fn_soundG (c := cfg31) TTok FNSok mixed Try.func31 (show Try.f31.body = some c31 by kernel_rfl) (show Try.f31.ntmps = 55 by kernel_rfl) (show Try.f31.results.toList = [.cell 8 24, .cell 9 41, .tmp 10] by kernel_rfl) rfl ((F31_eq h0a h0l h0c h1 h2 kind n la ll lc g R).mpr hF)

/- 32 pilaster/heap.Block -/
noncomputable def c32 : Code := match Try.f32.body with
  | some c => c
  | none => .skip
noncomputable def cfg32 : Cfg := ⟨Try.prog, TT, FNS, [2, 3], [(2, 2), (3, 3), (17, 3), (26, 2), (28, 3), (33, 2), (35, 3), (42, 3)], [], TCH, false, false⟩
def an32 : AnnG := (.seq .leaf (.seq .leaf (.seq (.seq .leaf (.cond (.seq .leaf .leaf) .leaf)) (.join ⟨[], [], []⟩ (.seq .leaf (.cond (.seq .leaf .leaf) .leaf)) (.seq (.tree 21 (.quiet 0 (.quiet 1 (.quiet 2 (.quiet 3 (.quiet 4 (.quiet 5 (.quiet 6 (.quiet 7 (.quiet 8 (.quiet 9 (.quiet 10 (.quiet 11 (.quiet 12 (.quiet 13 (.quiet 14 (.quiet 15 (.quiet 16 (.quiet 17 (.eff 18 (.eff 19 (.quiet 20 .fin) .fin) .fin)))))))))))))))))))) .leaf)))))
def F32 (h0a : Option Addr) (h0l : Nat) (h0c : Nat) (h1 : Int) (h2 : Int) (w0 : Bool) (w1 : Int) (g : G) (R : Value → G → Prop) : Prop :=
  ∀ g1 : G, Ex g g1 →
  (CallsP Try.prog 60 #[(.agg ⟨[(.slice h0a h0l h0c), (.int .i64 h1), (.int .i64 h2)]⟩)] g1 fun v g2 =>
  ∃ x0a : Option Addr, ∃ x0l : Nat, ∃ x0c : Nat, ∃ x1 : Bool, v = (.tuple ⟨[(.slice x0a x0l x0c), (.bool x1)]⟩) ∧ ifB (!x1)
  (∀ g3 : G, Ex g2 g3 →
  R (.tuple ⟨[(.int .i64 (0 : Int)), (.int .i64 (0 : Int)), (.slice none 0 0), (.int .i64 (1 : Int))]⟩) g3)
  (∀ J : G → Prop,
  (∀ g4 : G, (∀ g5 : G, Ex g4 g5 →
  (0 ≤ w1 ∧ w1 < ((h0l : Nat) : Int)) ∧ derefP h0a fun ad => ∃ kind : Int, g5.w.cell? (Addr.add (Addr.add ad (Int.toNat w1 * 2)) 1) = some (.int .i64 kind) ∧ InI64 (w1 + (1 : Int)) ∧ (0 ≤ (w1 + (1 : Int)) ∧ (w1 + (1 : Int)) < ((h0l : Nat) : Int)) ∧ derefP h0a fun ad_1 => ∃ n : Int, g5.w.cell? (Addr.add (Addr.add ad_1 (Int.toNat (w1 + (1 : Int)) * 2)) 1) = some (.int .i64 n) ∧ (CallsP Try.prog 80 #[(.agg ⟨[(.slice h0a h0l h0c), (.int .i64 h1), (.int .i64 h2)]⟩), (.int .i64 w1)] g5 fun v g6 =>
  ∃ xa : Option Addr, ∃ xl : Nat, ∃ xc : Nat, v = (.slice xa xl xc) ∧ (CallsP Try.prog 68 #[(.slice xa xl xc)] g6 fun v g7 =>
  ∃ la : Option Addr, ∃ ll : Nat, ∃ lc : Nat, v = (.slice la ll lc) ∧ ∀ g8 : G, Ex g7 g8 →
  R (.tuple ⟨[(.int .i64 kind), (.int .i64 n), (.slice la ll lc), (.int .i64 (0 : Int))]⟩) g8))) → J g4) →
  ifB (!w0)
  (∀ g9 : G, Ex g2 g9 →
  R (.tuple ⟨[(.int .i64 (0 : Int)), (.int .i64 (0 : Int)), (.slice none 0 0), (.int .i64 (2 : Int))]⟩) g9)
  ((CallsP Try.prog 78 #[(.slice x0a x0l x0c), (.agg ⟨[(.bool w0), (.int .i64 w1)]⟩)] g2 fun v g10 =>
  ∃ x : Bool, v = (.bool x) ∧ ifB (!x)
  (∀ g11 : G, Ex g10 g11 →
  R (.tuple ⟨[(.int .i64 (0 : Int)), (.int .i64 (0 : Int)), (.slice none 0 0), (.int .i64 (2 : Int))]⟩) g11)
  (J g10)))))
theorem F32_eq (h0a : Option Addr) (h0l : Nat) (h0c : Nat) (h1 : Int) (h2 : Int) (w0 : Bool) (w1 : Int) (g : G) (R : Value → G → Prop) : fnG cfg32 46 [.tmp 4, .tmp 5, .tmp 6, .tmp 7] c32 an32 [(.agg ⟨[(.slice h0a h0l h0c), (.int .i64 h1), (.int .i64 h2)]⟩), (.agg ⟨[(.bool w0), (.int .i64 w1)]⟩)] g nobody R = F32 h0a h0l h0c h1 h2 w0 w1 g R := by kernel_rfl
theorem call32 (h0a : Option Addr) (h0l : Nat) (h0c : Nat) (h1 : Int) (h2 : Int) (w0 : Bool) (w1 : Int) (g : G) (R : Value → G → Prop) (hF : F32 h0a h0l h0c h1 h2 w0 w1 g R) : CallsG Try.prog 32 #[(.agg ⟨[(.slice h0a h0l h0c), (.int .i64 h1), (.int .i64 h2)]⟩), (.agg ⟨[(.bool w0), (.int .i64 w1)]⟩)] g nobody R :=
  fn_soundG (c := cfg32) TTok FNSok mixed Try.func32 (show Try.f32.body = some c32 by kernel_rfl) (show Try.f32.ntmps = 46 by kernel_rfl) (show Try.f32.results.toList = [.tmp 4, .tmp 5, .tmp 6, .tmp 7] by kernel_rfl) rfl ((F32_eq h0a h0l h0c h1 h2 w0 w1 g R).mpr hF)

/- 33 pilaster/heap.String -/
noncomputable def c33 : Code := match Try.f33.body with
  | some c => c
  | none => .skip
noncomputable def cfg33 : Cfg := ⟨Try.prog, TT, FNS, [2, 3, 12], [(2, 2), (3, 3), (12, 12), (35, 12)], [], TCH, false, false⟩
def an33 : AnnG := (.seq .leaf (.seq .leaf (.seq (.blk (.seq .leaf (.cond (.seq .leaf .leaf) (.seq .leaf (.cond (.seq .leaf .leaf) .leaf))))) (.seq .leaf (.seq (.seq .leaf (.blk (.loop ⟨[(10, .sl), (30, .int .i64)], [], []⟩ (.seq .leaf (.seq (.cond .leaf .leaf) (.seq (.blk (.seq .leaf .leaf)) .leaf)))))) (.seq .leaf .leaf))))))
def F33 (h0a : Option Addr) (h0l : Nat) (h0c : Nat) (h1 : Int) (h2 : Int) (w0 : Bool) (w1 : Int) (g : G) (R : Value → G → Prop) : Prop :=
  ∀ g1 : G, Ex g g1 →
  (CallsP Try.prog 32 #[(.agg ⟨[(.slice h0a h0l h0c), (.int .i64 h1), (.int .i64 h2)]⟩), (.agg ⟨[(.bool w0), (.int .i64 w1)]⟩)] g1 fun v g2 =>
  ∃ x0 : Int, ∃ x1 : Int, ∃ x2a : Option Addr, ∃ x2l : Nat, ∃ x2c : Nat, ∃ x3 : Int, v = (.tuple ⟨[(.int .i64 x0), (.int .i64 x1), (.slice x2a x2l x2c), (.int .i64 x3)]⟩) ∧ ifB (!eqI x3 (0 : Int))
  (∀ g3 : G, Ex g2 g3 →
  R (.tuple ⟨[(.string (bs [])), (.int .i64 x3)]⟩) g3)
  (ifB (!eqI x0 (4 : Int))
  (∀ g4 : G, Ex g2 g4 →
  R (.tuple ⟨[(.string (bs [])), (.int .i64 (12 : Int))]⟩) g4)
  (∃ Inv : Nat → Option Addr → Nat → Nat → Int → G → Prop, ((∃ m0 : Nat, Inv m0 none 0 0 (0 : Int) g2)) ∧
  ∀ m : Nat, ∀ outa : Option Addr, ∀ outl : Nat, ∀ outc : Nat, ∀ v_1 : Int, ∀ g5 : G, Le g2 g5 → Inv m outa outl outc v_1 g5 →
  ifB (ltI v_1 ((x2l : Nat) : Int))
  ((0 ≤ v_1 ∧ v_1 < ((x2l : Nat) : Int)) ∧ derefP x2a fun ad => ∃ x0_1 : Bool, ∃ x1_1 : Int, g5.w.cell? (Addr.add ad (Int.toNat v_1 * 2)) = some (.bool x0_1) ∧ g5.w.cell? (Addr.add (Addr.add ad (Int.toNat v_1 * 2)) 1) = some (.int .i64 x1_1) ∧ ∀ g6 : G, Ex g5 g6 →
  ∀ g7 : G, NewL g6 g7 5 [(.int .u8 (IntKind.u8.wrap x1_1))] →
  ∃ outa_1 : Option Addr, ∃ outl_1 : Nat, ∃ outc_1 : Nat, ∃ wo1 : World, Sem.run Try.prog (Builtin.append_ #[66, 66] 66 #[(.slice outa outl outc), (.slice (some ⟨g6.w.heap.size, 0, none⟩) 1 1)]) g7.w = .ok (.slice outa_1 outl_1 outc_1) wo1 ∧ ∃ g8 : G, g8.w = wo1 ∧ Stp g.w.heap.size nobody g7 g8 ∧ InI64 (v_1 + (1 : Int)) ∧ (∃ m_1 : Nat, m_1 < m ∧ Inv m_1 outa_1 outl_1 outc_1 (v_1 + (1 : Int)) g8))
  (∃ x : ByteArray, ∃ wo2 : World, Sem.run Try.prog (convert 66 9 (.slice outa outl outc)) g5.w = .ok (.string x) wo2 ∧ ∃ g9 : G, g9.w = wo2 ∧ Stp g.w.heap.size nobody g5 g9 ∧ ∀ g10 : G, Ex g9 g10 →
  R (.tuple ⟨[(.string x), (.int .i64 (0 : Int))]⟩) g10))))
theorem F33_eq (h0a : Option Addr) (h0l : Nat) (h0c : Nat) (h1 : Int) (h2 : Int) (w0 : Bool) (w1 : Int) (g : G) (R : Value → G → Prop) : fnG cfg33 43 [.tmp 4, .tmp 5] c33 an33 [(.agg ⟨[(.slice h0a h0l h0c), (.int .i64 h1), (.int .i64 h2)]⟩), (.agg ⟨[(.bool w0), (.int .i64 w1)]⟩)] g nobody R = F33 h0a h0l h0c h1 h2 w0 w1 g R := by kernel_rfl
theorem call33 (h0a : Option Addr) (h0l : Nat) (h0c : Nat) (h1 : Int) (h2 : Int) (w0 : Bool) (w1 : Int) (g : G) (R : Value → G → Prop) (hF : F33 h0a h0l h0c h1 h2 w0 w1 g R) : CallsG Try.prog 33 #[(.agg ⟨[(.slice h0a h0l h0c), (.int .i64 h1), (.int .i64 h2)]⟩), (.agg ⟨[(.bool w0), (.int .i64 w1)]⟩)] g nobody R :=
  fn_soundG (c := cfg33) TTok FNSok mixed Try.func33 (show Try.f33.body = some c33 by kernel_rfl) (show Try.f33.ntmps = 43 by kernel_rfl) (show Try.f33.results.toList = [.tmp 4, .tmp 5] by kernel_rfl) rfl ((F33_eq h0a h0l h0c h1 h2 w0 w1 g R).mpr hF)

/- 34 pilaster/heap.Blocks -/
noncomputable def c34 : Code := match Try.f34.body with
  | some c => c
  | none => .skip
noncomputable def cfg34 : Cfg := ⟨Try.prog, TT, FNS, [1], [(1, 1)], [], TCH, false, false⟩
def an34 : AnnG := (.seq .leaf (.seq .leaf (.seq (.seq .leaf (.cond (.seq .leaf .leaf) .leaf)) (.seq .leaf .leaf))))
def F34 (h0a : Option Addr) (h0l : Nat) (h0c : Nat) (h1 : Int) (h2 : Int) (g : G) (R : Value → G → Prop) : Prop :=
  ∀ g1 : G, Ex g g1 →
  (CallsP Try.prog 60 #[(.agg ⟨[(.slice h0a h0l h0c), (.int .i64 h1), (.int .i64 h2)]⟩)] g1 fun v g2 =>
  ∃ x0a : Option Addr, ∃ x0l : Nat, ∃ x0c : Nat, ∃ x1 : Bool, v = (.tuple ⟨[(.slice x0a x0l x0c), (.bool x1)]⟩) ∧ ifB (!x1)
  (∀ g3 : G, Ex g2 g3 →
  R (.tuple ⟨[(.slice none 0 0), (.int .i64 (1 : Int))]⟩) g3)
  (∀ g4 : G, Ex g2 g4 →
  R (.tuple ⟨[(.slice x0a x0l x0c), (.int .i64 (0 : Int))]⟩) g4))
theorem F34_eq (h0a : Option Addr) (h0l : Nat) (h0c : Nat) (h1 : Int) (h2 : Int) (g : G) (R : Value → G → Prop) : fnG cfg34 14 [.tmp 2, .tmp 3] c34 an34 [(.agg ⟨[(.slice h0a h0l h0c), (.int .i64 h1), (.int .i64 h2)]⟩)] g nobody R = F34 h0a h0l h0c h1 h2 g R := by kernel_rfl
theorem call34 (h0a : Option Addr) (h0l : Nat) (h0c : Nat) (h1 : Int) (h2 : Int) (g : G) (R : Value → G → Prop) (hF : F34 h0a h0l h0c h1 h2 g R) : CallsG Try.prog 34 #[(.agg ⟨[(.slice h0a h0l h0c), (.int .i64 h1), (.int .i64 h2)]⟩)] g nobody R :=
  fn_soundG (c := cfg34) TTok FNSok mixed Try.func34 (show Try.f34.body = some c34 by kernel_rfl) (show Try.f34.ntmps = 14 by kernel_rfl) (show Try.f34.results.toList = [.tmp 2, .tmp 3] by kernel_rfl) rfl ((F34_eq h0a h0l h0c h1 h2 g R).mpr hF)

/- 35 slices.Equal[[]int,int] -/
noncomputable def c35 : Code := match Try.f35.body with
  | some c => c
  | none => .skip
noncomputable def cfg35 : Cfg := ⟨Try.prog, TT, FNS, [], [], [], TCH, false, false⟩
def an35 : AnnG := (.seq .leaf (.seq (.seq .leaf (.cond (.seq .leaf .leaf) .leaf)) (.seq (.seq .leaf (.blk (.loop ⟨[(13, .int .i64)], [], []⟩ (.seq .leaf (.seq (.cond .leaf .leaf) (.seq (.blk (.seq .leaf (.seq (.tree 8 (.quiet 0 (.quiet 1 (.quiet 2 (.quiet 3 (.quiet 4 (.quiet 5 (.quiet 6 (.quiet 7 .fin))))))))) (.cond (.seq .leaf .leaf) .leaf)))) .leaf)))))) (.seq .leaf .leaf))))
def F35 (s1a : Option Addr) (s1l : Nat) (s1c : Nat) (s2a : Option Addr) (s2l : Nat) (s2c : Nat) (g : G) (R : Value → G → Prop) : Prop :=
  ifB (!eqI ((s1l : Nat) : Int) ((s2l : Nat) : Int))
  (∀ g1 : G, Ex g g1 →
  R (.bool false) g1)
  (∃ Inv : Nat → Int → G → Prop, ((∃ m0 : Nat, Inv m0 (0 : Int) g)) ∧
  ∀ m : Nat, ∀ v_1 : Int, ∀ g2 : G, Le g g2 → Inv m v_1 g2 →
  ifB (ltI v_1 ((s1l : Nat) : Int))
  (∀ g3 : G, Ex g2 g3 →
  (0 ≤ v_1 ∧ v_1 < ((s1l : Nat) : Int)) ∧ derefP s1a fun ad => ∃ x : Int, g3.w.cell? (Addr.add ad (Int.toNat v_1 * 1)) = some (.int .i64 x) ∧ (0 ≤ v_1 ∧ v_1 < ((s2l : Nat) : Int)) ∧ derefP s2a fun ad_1 => ∃ x_1 : Int, g3.w.cell? (Addr.add ad_1 (Int.toNat v_1 * 1)) = some (.int .i64 x_1) ∧ ifB (!eqI x x_1)
  (∀ g4 : G, Ex g3 g4 →
  R (.bool false) g4)
  (InI64 (v_1 + (1 : Int)) ∧ (∃ m_1 : Nat, m_1 < m ∧ Inv m_1 (v_1 + (1 : Int)) g3)))
  (∀ g5 : G, Ex g2 g5 →
  R (.bool true) g5))
theorem F35_eq (s1a : Option Addr) (s1l : Nat) (s1c : Nat) (s2a : Option Addr) (s2l : Nat) (s2c : Nat) (g : G) (R : Value → G → Prop) : fnG cfg35 26 [.tmp 4] c35 an35 [(.slice s1a s1l s1c), (.slice s2a s2l s2c)] g nobody R = F35 s1a s1l s1c s2a s2l s2c g R := by kernel_rfl
theorem call35 (s1a : Option Addr) (s1l : Nat) (s1c : Nat) (s2a : Option Addr) (s2l : Nat) (s2c : Nat) (g : G) (R : Value → G → Prop) (hF : F35 s1a s1l s1c s2a s2l s2c g R) : CallsG Try.prog 35 #[(.slice s1a s1l s1c), (.slice s2a s2l s2c)] g nobody R :=
  fn_soundG (c := cfg35) TTok FNSok mixed Try.func35 (show Try.f35.body = some c35 by kernel_rfl) (show Try.f35.ntmps = 26 by kernel_rfl) (show Try.f35.results.toList = [.tmp 4] by kernel_rfl) rfl ((F35_eq s1a s1l s1c s2a s2l s2c g R).mpr hF)

/- 36 pilaster/pilasterref49.Blocks -/
noncomputable def c36 : Code := match Try.f36.body with
  | some c => c
  | none => .skip
noncomputable def cfg36 : Cfg := ⟨Try.prog, TT, FNS, [1], [(1, 1), (6, 1)], [], TCH, false, false⟩
def an36 : AnnG := (.seq .leaf (.seq .leaf (.seq .leaf .leaf)))
def F36 (h0a : Option Addr) (h0l : Nat) (h0c : Nat) (h1 : Int) (h2 : Int) (g : G) (R : Value → G → Prop) : Prop :=
  ∀ g1 : G, Ex g g1 →
  (CallsP Try.prog 62 #[(.slice h0a h0l h0c)] g1 fun v g2 =>
  ∃ x0a : Option Addr, ∃ x0l : Nat, ∃ x0c : Nat, ∃ x1 : Bool, v = (.tuple ⟨[(.slice x0a x0l x0c), (.bool x1)]⟩) ∧ ∀ g3 : G, Ex g2 g3 →
  R (.slice x0a x0l x0c) g3)
theorem F36_eq (h0a : Option Addr) (h0l : Nat) (h0c : Nat) (h1 : Int) (h2 : Int) (g : G) (R : Value → G → Prop) : fnG cfg36 12 [.tmp 2] c36 an36 [(.agg ⟨[(.slice h0a h0l h0c), (.int .i64 h1), (.int .i64 h2)]⟩)] g nobody R = F36 h0a h0l h0c h1 h2 g R := by kernel_rfl
theorem call36 (h0a : Option Addr) (h0l : Nat) (h0c : Nat) (h1 : Int) (h2 : Int) (g : G) (R : Value → G → Prop) (hF : F36 h0a h0l h0c h1 h2 g R) : CallsG Try.prog 36 #[(.agg ⟨[(.slice h0a h0l h0c), (.int .i64 h1), (.int .i64 h2)]⟩)] g nobody R :=
  fn_soundG (c := cfg36) TTok FNSok mixed Try.func36 (show Try.f36.body = some c36 by kernel_rfl) (show Try.f36.ntmps = 12 by kernel_rfl) (show Try.f36.results.toList = [.tmp 2] by kernel_rfl) rfl ((F36_eq h0a h0l h0c h1 h2 g R).mpr hF)

/- 37 pilaster/pilasterref49.Refers -/
noncomputable def c37 : Code := match Try.f37.body with
  | some c => c
  | none => .skip
noncomputable def cfg37 : Cfg := ⟨Try.prog, TT, FNS, [2, 3], [(2, 2), (3, 3), (5, 3), (10, 3)], [], TCH, false, false⟩
def an37 : AnnG := (.seq .leaf (.seq (.tree 7 (.quiet 0 (.quiet 1 (.quiet 2 (.quiet 3 (.quiet 5 (.quiet 6 (.eff 4 .fin .fin)))))))) .leaf))
def F37 (h0a : Option Addr) (h0l : Nat) (h0c : Nat) (h1 : Int) (h2 : Int) (w0 : Bool) (w1 : Int) (g : G) (R : Value → G → Prop) : Prop :=
  ∀ g1 : G, Ex g g1 →
  ifB w0
  ((CallsP Try.prog 36 #[(.agg ⟨[(.slice h0a h0l h0c), (.int .i64 h1), (.int .i64 h2)]⟩)] g1 fun v g2 =>
  ∃ xa : Option Addr, ∃ xl : Nat, ∃ xc : Nat, v = (.slice xa xl xc) ∧ (CallsP Try.prog 81 #[(.slice xa xl xc), (.int .i64 w1)] g2 fun v g3 =>
  ∃ x : Bool, v = (.bool x) ∧ ∀ g4 : G, Ex g3 g4 →
  R (.bool x) g4)))
  (∀ g5 : G, Ex g1 g5 →
  R (.bool false) g5)
theorem F37_eq (h0a : Option Addr) (h0l : Nat) (h0c : Nat) (h1 : Int) (h2 : Int) (w0 : Bool) (w1 : Int) (g : G) (R : Value → G → Prop) : fnG cfg37 14 [.tmp 4] c37 an37 [(.agg ⟨[(.slice h0a h0l h0c), (.int .i64 h1), (.int .i64 h2)]⟩), (.agg ⟨[(.bool w0), (.int .i64 w1)]⟩)] g nobody R = F37 h0a h0l h0c h1 h2 w0 w1 g R := by kernel_rfl
theorem call37 (h0a : Option Addr) (h0l : Nat) (h0c : Nat) (h1 : Int) (h2 : Int) (w0 : Bool) (w1 : Int) (g : G) (R : Value → G → Prop) (hF : F37 h0a h0l h0c h1 h2 w0 w1 g R) : CallsG Try.prog 37 #[(.agg ⟨[(.slice h0a h0l h0c), (.int .i64 h1), (.int .i64 h2)]⟩), (.agg ⟨[(.bool w0), (.int .i64 w1)]⟩)] g nobody R :=
  fn_soundG (c := cfg37) TTok FNSok mixed Try.func37 (show Try.f37.body = some c37 by kernel_rfl) (show Try.f37.ntmps = 14 by kernel_rfl) (show Try.f37.results.toList = [.tmp 4] by kernel_rfl) rfl ((F37_eq h0a h0l h0c h1 h2 w0 w1 g R).mpr hF)

/- 38 pilaster/pilasterref49.Block -/
noncomputable def c38 : Code := match Try.f38.body with
  | some c => c
  | none => .skip
noncomputable def cfg38 : Cfg := ⟨Try.prog, TT, FNS, [2], [(2, 2), (8, 2), (15, 2), (21, 2), (29, 2)], [], TCH, false, false⟩
def an38 : AnnG := (.seq .leaf (.seq .leaf (.seq (.treeB 25 (.quiet 0 (.quiet 1 (.quiet 2 (.quiet 3 (.quiet 4 (.quiet 5 (.quiet 6 (.quiet 7 (.quiet 8 (.quiet 9 (.quiet 10 (.quiet 11 (.quiet 12 (.quiet 14 (.quiet 15 (.quiet 16 (.quiet 17 (.quiet 18 (.quiet 19 (.quiet 20 (.quiet 21 (.quiet 22 (.eff 13 (.eff 23 (.quiet 24 .fin) .fin) .fin)))))))))))))))))))))))) .leaf)))
def F38 (h0a : Option Addr) (h0l : Nat) (h0c : Nat) (h1 : Int) (h2 : Int) (at0 : Int) (g : G) (R : Value → G → Prop) : Prop :=
  InI64 (at0 + (2 : Int)) ∧ (0 ≤ (at0 + (2 : Int)) ∧ (at0 + (2 : Int)) < ((h0l : Nat) : Int)) ∧ derefP h0a fun ad => ∀ g1 : G, Ex g g1 →
  ∃ n : Int, g1.w.cell? (Addr.add (Addr.add ad (Int.toNat (at0 + (2 : Int)) * 2)) 1) = some (.int .i64 n) ∧ ∀ g2 : G, Ex g1 g2 →
  ∃ MR1 : Nat → Prop, (∀ b, MR1 b → ¬ g2.X b) ∧ (0 ≤ at0 ∧ at0 < ((h0l : Nat) : Int)) ∧ derefP h0a fun ad_1 => ¬ MR1 (Addr.block (Addr.add (Addr.add ad_1 (Int.toNat at0 * 2)) 1)) ∧ ∃ x : Int, g2.w.cell? (Addr.add (Addr.add ad_1 (Int.toNat at0 * 2)) 1) = some (.int .i64 x) ∧ InI64 (at0 + (1 : Int)) ∧ (0 ≤ (at0 + (1 : Int)) ∧ (at0 + (1 : Int)) < ((h0l : Nat) : Int)) ∧ derefP h0a fun ad_2 => ¬ MR1 (Addr.block (Addr.add (Addr.add ad_2 (Int.toNat (at0 + (1 : Int)) * 2)) 1)) ∧ ∃ x_1 : Int, g2.w.cell? (Addr.add (Addr.add ad_2 (Int.toNat (at0 + (1 : Int)) * 2)) 1) = some (.int .i64 x_1) ∧ InI64 (at0 + (3 : Int)) ∧ InI64 (at0 + (3 : Int)) ∧ InI64 ((at0 + (3 : Int)) + n) ∧ (0 ≤ ((at0 + (3 : Int)) + n) ∧ ((at0 + (3 : Int)) + n) ≤ ((h0c : Nat) : Int)) ∧ (0 ≤ (at0 + (3 : Int)) ∧ (at0 + (3 : Int)) ≤ (((Int.toNat ((at0 + (3 : Int)) + n)) : Nat) : Int)) ∧ ∀ g3 : G, NewL g2 g3 41 [] →
  ∃ xa : Option Addr, ∃ xl : Nat, ∃ xc : Nat, ∃ wo1 : World, Sem.run Try.prog (Builtin.append_ #[22, 22] 22 #[(.slice (some ⟨g2.w.heap.size, 0, none⟩) 0 0), (.slice (slAddr h0a h0c (Int.toNat (at0 + (3 : Int))) 2) ((Int.toNat ((at0 + (3 : Int)) + n)) - (Int.toNat (at0 + (3 : Int)))) (h0c - (Int.toNat (at0 + (3 : Int)))))]) g3.w = .ok (.slice xa xl xc) wo1 ∧ ∃ g4 : G, g4.w = wo1 ∧ Stp g.w.heap.size nobody g3 g4 ∧ SameBut MR1 g2 g4 ∧ ∀ g5 : G, Ex g4 g5 →
  R (.tuple ⟨[(.int .i64 x), (.int .i64 x_1), (.slice xa xl xc)]⟩) g5
theorem F38_eq (h0a : Option Addr) (h0l : Nat) (h0c : Nat) (h1 : Int) (h2 : Int) (at0 : Int) (g : G) (R : Value → G → Prop) : fnG cfg38 39 [.tmp 4, .tmp 5, .tmp 6] c38 an38 [(.agg ⟨[(.slice h0a h0l h0c), (.int .i64 h1), (.int .i64 h2)]⟩), (.int .i64 at0)] g nobody R = F38 h0a h0l h0c h1 h2 at0 g R := by kernel_rfl
theorem call38 (h0a : Option Addr) (h0l : Nat) (h0c : Nat) (h1 : Int) (h2 : Int) (at0 : Int) (g : G) (R : Value → G → Prop) (hF : F38 h0a h0l h0c h1 h2 at0 g R) : CallsG Try.prog 38 #[(.agg ⟨[(.slice h0a h0l h0c), (.int .i64 h1), (.int .i64 h2)]⟩), (.int .i64 at0)] g nobody R :=
  fn_soundG (c := cfg38) TTok FNSok mixed Try.func38 (show Try.f38.body = some c38 by kernel_rfl) (show Try.f38.ntmps = 39 by kernel_rfl) (show Try.f38.results.toList = [.tmp 4, .tmp 5, .tmp 6] by kernel_rfl) rfl ((F38_eq h0a h0l h0c h1 h2 at0 g R).mpr hF)

/- 39 pilaster/pilasterref49.SameWords -/
noncomputable def c39 : Code := match Try.f39.body with
  | some c => c
  | none => .skip
noncomputable def cfg39 : Cfg := ⟨Try.prog, TT, FNS, [], [], [], TCH, false, false⟩
def an39 : AnnG := (.seq .leaf (.seq (.seq .leaf (.cond (.seq .leaf .leaf) .leaf)) (.seq (.seq .leaf (.blk (.loop ⟨[(5, .int .i64)], [], []⟩ (.seq (.seq .leaf (.cond .leaf .leaf)) (.seq (.blk (.seq (.tree 8 (.quiet 0 (.quiet 1 (.quiet 2 (.quiet 3 (.quiet 4 (.quiet 5 (.quiet 6 (.quiet 7 .fin))))))))) (.cond (.seq .leaf .leaf) .leaf))) .leaf))))) (.seq .leaf .leaf))))
def F39 (aa : Option Addr) (al : Nat) (ac : Nat) (ba : Option Addr) (bl : Nat) (bc : Nat) (g : G) (R : Value → G → Prop) : Prop :=
  ifB (!eqI ((al : Nat) : Int) ((bl : Nat) : Int))
  (∀ g1 : G, Ex g g1 →
  R (.bool false) g1)
  (∃ Inv : Nat → Int → G → Prop, ((∃ m0 : Nat, Inv m0 (0 : Int) g)) ∧
  ∀ m : Nat, ∀ i : Int, ∀ g2 : G, Le g g2 → Inv m i g2 →
  ifB (ltI i ((al : Nat) : Int))
  (∀ g3 : G, Ex g2 g3 →
  (0 ≤ i ∧ i < ((al : Nat) : Int)) ∧ derefP aa fun ad => ∃ x0 : Bool, ∃ x1 : Int, g3.w.cell? (Addr.add ad (Int.toNat i * 2)) = some (.bool x0) ∧ g3.w.cell? (Addr.add (Addr.add ad (Int.toNat i * 2)) 1) = some (.int .i64 x1) ∧ (0 ≤ i ∧ i < ((bl : Nat) : Int)) ∧ derefP ba fun ad_1 => ∃ x0_1 : Bool, ∃ x1_1 : Int, g3.w.cell? (Addr.add ad_1 (Int.toNat i * 2)) = some (.bool x0_1) ∧ g3.w.cell? (Addr.add (Addr.add ad_1 (Int.toNat i * 2)) 1) = some (.int .i64 x1_1) ∧ ifB (!((x0 == x0_1) && ((eqI x1 x1_1) && true)))
  (∀ g4 : G, Ex g3 g4 →
  R (.bool false) g4)
  (InI64 (i + (1 : Int)) ∧ (∃ m_1 : Nat, m_1 < m ∧ Inv m_1 (i + (1 : Int)) g3)))
  (∀ g5 : G, Ex g2 g5 →
  R (.bool true) g5))
theorem F39_eq (aa : Option Addr) (al : Nat) (ac : Nat) (ba : Option Addr) (bl : Nat) (bc : Nat) (g : G) (R : Value → G → Prop) : fnG cfg39 26 [.tmp 4] c39 an39 [(.slice aa al ac), (.slice ba bl bc)] g nobody R = F39 aa al ac ba bl bc g R := by kernel_rfl
theorem call39 (aa : Option Addr) (al : Nat) (ac : Nat) (ba : Option Addr) (bl : Nat) (bc : Nat) (g : G) (R : Value → G → Prop) (hF : F39 aa al ac ba bl bc g R) : CallsG Try.prog 39 #[(.slice aa al ac), (.slice ba bl bc)] g nobody R :=
  fn_soundG (c := cfg39) TTok FNSok mixed Try.func39 (show Try.f39.body = some c39 by kernel_rfl) (show Try.f39.ntmps = 26 by kernel_rfl) (show Try.f39.results.toList = [.tmp 4] by kernel_rfl) rfl ((F39_eq aa al ac ba bl bc g R).mpr hF)

/- 40 pilaster/pilasterref49.String -/
noncomputable def c40 : Code := match Try.f40.body with
  | some c => c
  | none => .skip
noncomputable def cfg40 : Cfg := ⟨Try.prog, TT, FNS, [], [], [], TCH, false, false⟩
def an40 : AnnG := (.seq .leaf (.seq .leaf (.seq (.seq .leaf (.blk (.loop ⟨[(3, .sl), (4, .int .i64)], [], []⟩ (.seq (.seq .leaf (.cond .leaf .leaf)) (.seq (.blk .leaf) .leaf))))) (.seq .leaf .leaf))))
def F40 (la : Option Addr) (ll : Nat) (lc : Nat) (g : G) (R : Value → G → Prop) : Prop :=
  ∃ Inv : Nat → Option Addr → Nat → Nat → Int → G → Prop, ((∃ m0 : Nat, Inv m0 none 0 0 (0 : Int) g)) ∧
  ∀ m : Nat, ∀ ba : Option Addr, ∀ bl : Nat, ∀ bc : Nat, ∀ i : Int, ∀ g1 : G, Le g g1 → Inv m ba bl bc i g1 →
  ifB (ltI i ((ll : Nat) : Int))
  ((0 ≤ i ∧ i < ((ll : Nat) : Int)) ∧ derefP la fun ad => ∃ x : Int, g1.w.cell? (Addr.add (Addr.add ad (Int.toNat i * 2)) 1) = some (.int .i64 x) ∧ ∀ g2 : G, NewL g1 g2 5 [(.int .u8 (IntKind.u8.wrap x))] →
  ∃ ba_1 : Option Addr, ∃ bl_1 : Nat, ∃ bc_1 : Nat, ∃ wo1 : World, Sem.run Try.prog (Builtin.append_ #[66, 66] 66 #[(.slice ba bl bc), (.slice (some ⟨g1.w.heap.size, 0, none⟩) 1 1)]) g2.w = .ok (.slice ba_1 bl_1 bc_1) wo1 ∧ ∃ g3 : G, g3.w = wo1 ∧ Stp g.w.heap.size nobody g2 g3 ∧ InI64 (i + (1 : Int)) ∧ (∃ m_1 : Nat, m_1 < m ∧ Inv m_1 ba_1 bl_1 bc_1 (i + (1 : Int)) g3))
  (∃ x_1 : ByteArray, ∃ wo2 : World, Sem.run Try.prog (convert 66 9 (.slice ba bl bc)) g1.w = .ok (.string x_1) wo2 ∧ ∃ g4 : G, g4.w = wo2 ∧ Stp g.w.heap.size nobody g1 g4 ∧ ∀ g5 : G, Ex g4 g5 →
  R (.string x_1) g5)
theorem F40_eq (la : Option Addr) (ll : Nat) (lc : Nat) (g : G) (R : Value → G → Prop) : fnG cfg40 22 [.tmp 2] c40 an40 [(.slice la ll lc)] g nobody R = F40 la ll lc g R := by kernel_rfl
theorem call40 (la : Option Addr) (ll : Nat) (lc : Nat) (g : G) (R : Value → G → Prop) (hF : F40 la ll lc g R) : CallsG Try.prog 40 #[(.slice la ll lc)] g nobody R :=
  fn_soundG (c := cfg40) TTok FNSok mixed Try.func40 (show Try.f40.body = some c40 by kernel_rfl) (show Try.f40.ntmps = 22 by kernel_rfl) (show Try.f40.results.toList = [.tmp 2] by kernel_rfl) rfl ((F40_eq la ll lc g R).mpr hF)

/- 50 pilaster/pilasterlaw49.nodes -/
noncomputable def c50 : Code := match Try.f50.body with
  | some c => c
  | none => .skip
noncomputable def cfg50 : Cfg := ⟨Try.prog, TT, FNS, [3, 9], [(3, 3), (9, 9), (13, 3), (19, 3), (24, 3), (31, 3), (37, 3)], [], TCH, false, false⟩
def an50 : AnnG := (.seq .leaf (.seq (.join ⟨[(35, .bool)], [], []⟩ .leaf (.cond (.seq .leaf .leaf) .leaf)) (.seq .leaf (.seq (.seq .leaf (.blk (.loop ⟨[(7, .int .i64), (40, .int .i64)], [], []⟩ (.seq .leaf (.seq (.cond .leaf .leaf) (.seq (.blk (.seq .leaf (.seq (.seq .leaf (.cond (.seq .leaf .leaf) .leaf)) .leaf))) .leaf)))))) (.seq .leaf .leaf)))))
def F50 (v0 : Int) (v1 : Int) (v2 : ByteArray) (v3a : Option Addr) (v3l : Nat) (v3c : Nat) (v4a : Option Addr) (v4l : Nat) (v4c : Nat) (most : Int) (depth : Int) (g : G) (R : Value → G → Prop) : Prop :=
  ∀ J : Bool → G → Prop,
  (∀ v_1 : Bool, ∀ g1 : G, (ifB v_1
  (∀ g2 : G, Ex g1 g2 →
  R (.int .i64 most) g2)
  (∃ Inv : Nat → Int → Int → G → Prop, ((∃ m0 : Nat, Inv m0 (1 : Int) (0 : Int) g1)) ∧
  ∀ m : Nat, ∀ n : Int, ∀ v_2 : Int, ∀ g3 : G, Le g1 g3 → Inv m n v_2 g3 →
  ifB (ltI v_2 ((v4l : Nat) : Int))
  ((0 ≤ v_2 ∧ v_2 < ((v4l : Nat) : Int)) ∧ derefP v4a fun ad => ∃ x0 : Int, ∃ x1 : Int, ∃ x2 : ByteArray, ∃ x3a : Option Addr, ∃ x3l : Nat, ∃ x3c : Nat, ∃ x4a : Option Addr, ∃ x4l : Nat, ∃ x4c : Nat, g3.w.cell? (Addr.add ad (Int.toNat v_2 * 5)) = some (.int .i64 x0) ∧ g3.w.cell? (Addr.add (Addr.add ad (Int.toNat v_2 * 5)) 1) = some (.int .i64 x1) ∧ g3.w.cell? (Addr.add (Addr.add ad (Int.toNat v_2 * 5)) 2) = some (.string x2) ∧ g3.w.cell? (Addr.add (Addr.add ad (Int.toNat v_2 * 5)) 3) = some (.slice x3a x3l x3c) ∧ g3.w.cell? (Addr.add (Addr.add ad (Int.toNat v_2 * 5)) 4) = some (.slice x4a x4l x4c) ∧ ifB (leI most n)
  (∀ g4 : G, Ex g3 g4 →
  R (.int .i64 most) g4)
  (InI64 (most - n) ∧ InI64 (depth + (1 : Int)) ∧ ∀ g5 : G, Ex g3 g5 →
  (CallsP Try.prog 50 #[(.agg ⟨[(.int .i64 x0), (.int .i64 x1), (.string x2), (.slice x3a x3l x3c), (.slice x4a x4l x4c)]⟩), (.int .i64 (most - n)), (.int .i64 (depth + (1 : Int)))] g5 fun v g6 =>
  ∃ x : Int, v = (.int .i64 x) ∧ InI64 (n + x) ∧ InI64 (v_2 + (1 : Int)) ∧ (∃ m_1 : Nat, m_1 < m ∧ Inv m_1 (n + x) (v_2 + (1 : Int)) g6))))
  (∀ g7 : G, Ex g3 g7 →
  R (.int .i64 (minI n most)) g7))) → J v_1 g1) →
  ifB (ltI (250 : Int) depth)
  (∀ g8 : G, Ex g g8 →
  J true g8)
  (ifB (ltI (100 : Int) ((v3l : Nat) : Int))
  (∀ g9 : G, Ex g g9 →
  J true g9)
  (ifB (ltI (300 : Int) ((v2.size : Nat) : Int))
  (ifB (leI ((v2.size : Nat) : Int) (16384 : Int))
  (∀ g10 : G, Ex g g10 →
  J true g10)
  (∀ g11 : G, Ex g g11 →
  J (ltI (16484 : Int) ((v2.size : Nat) : Int)) g11))
  (∀ g12 : G, Ex g g12 →
  J (ltI (16484 : Int) ((v2.size : Nat) : Int)) g12)))
theorem F50_eq (v0 : Int) (v1 : Int) (v2 : ByteArray) (v3a : Option Addr) (v3l : Nat) (v3c : Nat) (v4a : Option Addr) (v4l : Nat) (v4c : Nat) (most : Int) (depth : Int) (g : G) (R : Value → G → Prop) : fnG cfg50 61 [.tmp 6] c50 an50 [(.agg ⟨[(.int .i64 v0), (.int .i64 v1), (.string v2), (.slice v3a v3l v3c), (.slice v4a v4l v4c)]⟩), (.int .i64 most), (.int .i64 depth)] g nobody R = F50 v0 v1 v2 v3a v3l v3c v4a v4l v4c most depth g R := by kernel_rfl
theorem call50 (v0 : Int) (v1 : Int) (v2 : ByteArray) (v3a : Option Addr) (v3l : Nat) (v3c : Nat) (v4a : Option Addr) (v4l : Nat) (v4c : Nat) (most : Int) (depth : Int) (g : G) (R : Value → G → Prop) (hF : F50 v0 v1 v2 v3a v3l v3c v4a v4l v4c most depth g R) : CallsG Try.prog 50 #[(.agg ⟨[(.int .i64 v0), (.int .i64 v1), (.string v2), (.slice v3a v3l v3c), (.slice v4a v4l v4c)]⟩), (.int .i64 most), (.int .i64 depth)] g nobody R :=
  fn_soundG (c := cfg50) TTok FNSok mixed Try.func50 (show Try.f50.body = some c50 by kernel_rfl) (show Try.f50.ntmps = 61 by kernel_rfl) (show Try.f50.results.toList = [.tmp 6] by kernel_rfl) rfl ((F50_eq v0 v1 v2 v3a v3l v3c v4a v4l v4c most depth g R).mpr hF)

/- 51 pilaster/pilasterlaw49.read -/
noncomputable def c51 : Code := match Try.f51.body with
  | some c => c
  | none => .skip
noncomputable def cfg51 : Cfg := ⟨Try.prog, TT, FNS, [3, 4, 6, 12, 16, 17], [(3, 3), (4, 4), (6, 6), (12, 12), (16, 16), (17, 17), (19, 4), (22, 4), (78, 12), (83, 12)], [], TCH, false, false⟩
def an51 : AnnG := (.seq .leaf (.seq (.seq .leaf (.cond (.seq .leaf .leaf) .leaf)) (.seq .leaf (.join ⟨[], [(6, 6, 0)], [(6, [(.int .i64), (.int .i64), (.str), (.sl), (.sl)])]⟩ (.seq .leaf (.cond (.seq .leaf .leaf) .leaf)) (.seq .leaf (.join ⟨[], [(6, 6, 0), (12, 12, 0)], [(6, [(.int .i64), (.int .i64), (.str), (.sl), (.sl)]), (12, [(.int .i64), (.int .i64), (.str), (.sl), (.sl)])]⟩ (.seq .leaf (.blk (.seq .leaf (.cond (.seq .leaf (.seq .leaf .leaf)) (.seq .leaf (.cond .leaf (.seq .leaf (.cond (.seq .leaf .leaf) .leaf)))))))) (.seq (.seq .leaf (.blk (.loop ⟨[(63, .int .i64)], [(6, 6, 0), (12, 12, 0)], [(6, [(.int .i64), (.int .i64), (.str), (.sl), (.sl)]), (12, [(.int .i64), (.int .i64), (.str), (.sl), (.sl)])]⟩ (.seq .leaf (.seq (.cond .leaf .leaf) (.seq (.blk (.seq .leaf (.seq .leaf (.seq (.seq .leaf (.cond (.seq .leaf .leaf) .leaf)) .leaf)))) .leaf)))))) (.seq .leaf .leaf))))))))
def F51 (h0a : Option Addr) (h0l : Nat) (h0c : Nat) (h1 : Int) (h2 : Int) (w0 : Bool) (w1 : Int) (depth : Int) (g : G) (R : Value → G → Prop) : Prop :=
  ifB (!w0)
  (∀ g1 : G, Ex g g1 →
  ∀ g2 : G, Ex g1 g2 →
  R (.tuple ⟨[(.agg ⟨[(.int .i64 (1 : Int)), (.int .i64 w1), (.string (bs [])), (.slice none 0 0), (.slice none 0 0)]⟩), (.bool true)]⟩) g2)
  (∀ g3 : G, Ex g g3 →
  (CallsP Try.prog 32 #[(.agg ⟨[(.slice h0a h0l h0c), (.int .i64 h1), (.int .i64 h2)]⟩), (.agg ⟨[(.bool w0), (.int .i64 w1)]⟩)] g3 fun v g4 =>
  ∃ x0 : Int, ∃ x1 : Int, ∃ x2a : Option Addr, ∃ x2l : Nat, ∃ x2c : Nat, ∃ x3 : Int, v = (.tuple ⟨[(.int .i64 x0), (.int .i64 x1), (.slice x2a x2l x2c), (.int .i64 x3)]⟩) ∧ ∀ J : Int → Int → ByteArray → Option Addr → Nat → Nat → Option Addr → Nat → Nat → G → Prop,
  (∀ x0_1 : Int, ∀ x1_1 : Int, ∀ x2 : ByteArray, ∀ x3a : Option Addr, ∀ x3l : Nat, ∀ x3c : Nat, ∀ x4a : Option Addr, ∀ x4l : Nat, ∀ x4c : Nat, ∀ g5 : G, (∀ J_1 : Int → Int → ByteArray → Option Addr → Nat → Nat → Option Addr → Nat → Nat → Int → Int → ByteArray → Option Addr → Nat → Nat → Option Addr → Nat → Nat → G → Prop,
  (∀ x0_2 : Int, ∀ x1_2 : Int, ∀ x2_1 : ByteArray, ∀ x3a_1 : Option Addr, ∀ x3l_1 : Nat, ∀ x3c_1 : Nat, ∀ x4a_1 : Option Addr, ∀ x4l_1 : Nat, ∀ x4c_1 : Nat, ∀ v0 : Int, ∀ v1 : Int, ∀ v2 : ByteArray, ∀ v3a : Option Addr, ∀ v3l : Nat, ∀ v3c : Nat, ∀ v4a : Option Addr, ∀ v4l : Nat, ∀ v4c : Nat, ∀ g6 : G, (∃ Inv : Nat → Int → Int → Int → ByteArray → Option Addr → Nat → Nat → Option Addr → Nat → Nat → Int → Int → ByteArray → Option Addr → Nat → Nat → Option Addr → Nat → Nat → G → Prop, ((∃ m0 : Nat, Inv m0 (0 : Int) x0_2 x1_2 x2_1 x3a_1 x3l_1 x3c_1 x4a_1 x4l_1 x4c_1 v0 v1 v2 v3a v3l v3c v4a v4l v4c g6)) ∧
  ∀ m : Nat, ∀ v_1 : Int, ∀ x0_3 : Int, ∀ x1_3 : Int, ∀ x2_2 : ByteArray, ∀ x3a_2 : Option Addr, ∀ x3l_2 : Nat, ∀ x3c_2 : Nat, ∀ x4a_2 : Option Addr, ∀ x4l_2 : Nat, ∀ x4c_2 : Nat, ∀ v0_1 : Int, ∀ v1_1 : Int, ∀ v2_1 : ByteArray, ∀ v3a_1 : Option Addr, ∀ v3l_1 : Nat, ∀ v3c_1 : Nat, ∀ v4a_1 : Option Addr, ∀ v4l_1 : Nat, ∀ v4c_1 : Nat, ∀ g7 : G, Le g6 g7 → Inv m v_1 x0_3 x1_3 x2_2 x3a_2 x3l_2 x3c_2 x4a_2 x4l_2 x4c_2 v0_1 v1_1 v2_1 v3a_1 v3l_1 v3c_1 v4a_1 v4l_1 v4c_1 g7 →
  ifB (ltI v_1 ((x2l : Nat) : Int))
  ((0 ≤ v_1 ∧ v_1 < ((x2l : Nat) : Int)) ∧ derefP x2a fun ad => ∃ x0_4 : Bool, ∃ x1_4 : Int, g7.w.cell? (Addr.add ad (Int.toNat v_1 * 2)) = some (.bool x0_4) ∧ g7.w.cell? (Addr.add (Addr.add ad (Int.toNat v_1 * 2)) 1) = some (.int .i64 x1_4) ∧ InI64 (depth + (1 : Int)) ∧ ∀ g8 : G, Ex g7 g8 →
  (CallsP Try.prog 51 #[(.agg ⟨[(.slice h0a h0l h0c), (.int .i64 h1), (.int .i64 h2)]⟩), (.agg ⟨[(.bool x0_4), (.int .i64 x1_4)]⟩), (.int .i64 (depth + (1 : Int)))] g8 fun v g9 =>
  ∃ x00 : Int, ∃ x01 : Int, ∃ x02 : ByteArray, ∃ x03a : Option Addr, ∃ x03l : Nat, ∃ x03c : Nat, ∃ x04a : Option Addr, ∃ x04l : Nat, ∃ x04c : Nat, ∃ x1_5 : Bool, v = (.tuple ⟨[(.agg ⟨[(.int .i64 x00), (.int .i64 x01), (.string x02), (.slice x03a x03l x03c), (.slice x04a x04l x04c)]⟩), (.bool x1_5)]⟩) ∧ ifB (!x1_5)
  (∀ g10 : G, Ex g9 g10 →
  ∀ g11 : G, Ex g10 g11 →
  R (.tuple ⟨[(.agg ⟨[(.int .i64 (0 : Int)), (.int .i64 (0 : Int)), (.string (bs [])), (.slice none 0 0), (.slice none 0 0)]⟩), (.bool false)]⟩) g11)
  (∀ g12 : G, Ex g9 g12 →
  ∀ g13 : G, NewL g12 g13 38 [(.int .i64 x00), (.int .i64 x01), (.string x02), (.slice x03a x03l x03c), (.slice x04a x04l x04c)] →
  ∃ xa : Option Addr, ∃ xl : Nat, ∃ xc : Nat, ∃ wo1 : World, Sem.run Try.prog (Builtin.append_ #[36, 36] 36 #[(.slice v4a_1 v4l_1 v4c_1), (.slice (some ⟨g12.w.heap.size, 0, none⟩) 1 1)]) g13.w = .ok (.slice xa xl xc) wo1 ∧ ∃ g14 : G, g14.w = wo1 ∧ Stp g.w.heap.size nobody g13 g14 ∧ InI64 (v_1 + (1 : Int)) ∧ ∀ g15 : G, Ex g14 g15 →
  (∃ m_1 : Nat, m_1 < m ∧ Inv m_1 (v_1 + (1 : Int)) x0_3 x1_3 x2_2 x3a_2 x3l_2 x3c_2 x4a_2 x4l_2 x4c_2 v0_1 v1_1 v2_1 v3a_1 v3l_1 v3c_1 xa xl xc g15))))
  (∀ g16 : G, Ex g7 g16 →
  R (.tuple ⟨[(.agg ⟨[(.int .i64 v0_1), (.int .i64 v1_1), (.string v2_1), (.slice v3a_1 v3l_1 v3c_1), (.slice v4a_1 v4l_1 v4c_1)]⟩), (.bool true)]⟩) g16)) → J_1 x0_2 x1_2 x2_1 x3a_1 x3l_1 x3c_1 x4a_1 x4l_1 x4c_1 v0 v1 v2 v3a v3l v3c v4a v4l v4c g6) →
  ifB (eqI x0 (4 : Int))
  (∀ g17 : G, Ex g5 g17 →
  (CallsP Try.prog 33 #[(.agg ⟨[(.slice h0a h0l h0c), (.int .i64 h1), (.int .i64 h2)]⟩), (.agg ⟨[(.bool w0), (.int .i64 w1)]⟩)] g17 fun v g18 =>
  ∃ x0_5 : ByteArray, ∃ x1_6 : Int, v = (.tuple ⟨[(.string x0_5), (.int .i64 x1_6)]⟩) ∧ ∀ g19 : G, Ex g18 g19 →
  R (.tuple ⟨[(.agg ⟨[(.int .i64 (2 : Int)), (.int .i64 (0 : Int)), (.string x0_5), (.slice none 0 0), (.slice none 0 0)]⟩), (.bool (eqI x1_6 (0 : Int)))]⟩) g19))
  (ifB (eqI x0 (2 : Int))
  (∀ g20 : G, Ex g5 g20 →
  ∀ g21 : G, Ex g20 g21 →
  J_1 x0_1 x1_1 x2 x3a x3l x3c x4a x4l x4c (4 : Int) x1 (bs []) none 0 0 none 0 0 g21)
  (ifB (eqI x0 (3 : Int))
  (∀ g22 : G, Ex g5 g22 →
  ∀ g23 : G, Ex g22 g23 →
  R (.tuple ⟨[(.agg ⟨[(.int .i64 (0 : Int)), (.int .i64 (0 : Int)), (.string (bs [])), (.slice none 0 0), (.slice none 0 0)]⟩), (.bool false)]⟩) g23)
  (∀ g24 : G, Ex g5 g24 →
  J_1 x0_1 x1_1 x2 x3a x3l x3c x4a x4l x4c (3 : Int) (0 : Int) (bs []) none 0 0 none 0 0 g24)))) → J x0_1 x1_1 x2 x3a x3l x3c x4a x4l x4c g5) →
  ifB (!eqI x3 (0 : Int))
  (∀ g25 : G, Ex g4 g25 →
  R (.tuple ⟨[(.agg ⟨[(.int .i64 (0 : Int)), (.int .i64 (0 : Int)), (.string (bs [])), (.slice none 0 0), (.slice none 0 0)]⟩), (.bool false)]⟩) g25)
  (ifB (ltI (250 : Int) depth)
  (∀ g26 : G, Ex g4 g26 →
  R (.tuple ⟨[(.agg ⟨[(.int .i64 (0 : Int)), (.int .i64 (0 : Int)), (.string (bs [])), (.slice none 0 0), (.slice none 0 0)]⟩), (.bool false)]⟩) g26)
  (J (0 : Int) (0 : Int) (bs []) none 0 0 none 0 0 g4))))
theorem F51_eq (h0a : Option Addr) (h0l : Nat) (h0c : Nat) (h1 : Int) (h2 : Int) (w0 : Bool) (w1 : Int) (depth : Int) (g : G) (R : Value → G → Prop) : fnG cfg51 86 [.cell 6 38, .tmp 7] c51 an51 [(.agg ⟨[(.slice h0a h0l h0c), (.int .i64 h1), (.int .i64 h2)]⟩), (.agg ⟨[(.bool w0), (.int .i64 w1)]⟩), (.int .i64 depth)] g nobody R = F51 h0a h0l h0c h1 h2 w0 w1 depth g R := by kernel_rfl
theorem call51 (h0a : Option Addr) (h0l : Nat) (h0c : Nat) (h1 : Int) (h2 : Int) (w0 : Bool) (w1 : Int) (depth : Int) (g : G) (R : Value → G → Prop) (hF : F51 h0a h0l h0c h1 h2 w0 w1 depth g R) : CallsG Try.prog 51 #[(.agg ⟨[(.slice h0a h0l h0c), (.int .i64 h1), (.int .i64 h2)]⟩), (.agg ⟨[(.bool w0), (.int .i64 w1)]⟩), (.int .i64 depth)] g nobody R :=
  fn_soundG (c := cfg51) TTok FNSok mixed Try.func51 (show Try.f51.body = some c51 by kernel_rfl) (show Try.f51.ntmps = 86 by kernel_rfl) (show Try.f51.results.toList = [.cell 6 38, .tmp 7] by kernel_rfl) rfl ((F51_eq h0a h0l h0c h1 h2 w0 w1 depth g R).mpr hF)

/- 52 pilaster/pilasterlaw49.same -/
noncomputable def c52 : Code := match Try.f52.body with
  | some c => c
  | none => .skip
noncomputable def cfg52 : Cfg := ⟨Try.prog, TT, FNS, [2, 3], [(2, 2), (3, 3), (5, 2), (7, 3), (11, 2), (13, 3), (18, 2), (20, 3), (25, 2), (27, 3), (32, 2), (34, 3)], [], TCH, false, false⟩
def an52 : AnnG := (.seq .leaf (.seq .leaf .leaf))
def F52 (a0 : Int) (a1 : Int) (a2 : ByteArray) (a3a : Option Addr) (a3l : Nat) (a3c : Nat) (a4a : Option Addr) (a4l : Nat) (a4c : Nat) (b0 : Int) (b1 : Int) (b2 : ByteArray) (b3a : Option Addr) (b3l : Nat) (b3c : Nat) (b4a : Option Addr) (b4l : Nat) (b4c : Nat) (g : G) (R : Value → G → Prop) : Prop :=
  ifB (eqI a0 b0)
  (ifB (eqI a1 b1)
  (ifB (strEq a2 b2)
  (∀ g1 : G, Ex g g1 →
  (CallsP Try.prog 87 #[(.slice a3a a3l a3c), (.slice b3a b3l b3c)] g1 fun v g2 =>
  ∃ x : Bool, v = (.bool x) ∧ ifB x
  ((CallsP Try.prog 88 #[(.slice a4a a4l a4c), (.slice b4a b4l b4c), (.func (.func 52) #[] #[])] g2 fun v g3 =>
  ∃ x_1 : Bool, v = (.bool x_1) ∧ ∀ g4 : G, Ex g3 g4 →
  R (.bool x_1) g4))
  (∀ g5 : G, Ex g2 g5 →
  R (.bool false) g5)))
  (∀ g6 : G, Ex g g6 →
  R (.bool false) g6))
  (∀ g7 : G, Ex g g7 →
  R (.bool false) g7))
  (∀ g8 : G, Ex g g8 →
  R (.bool false) g8)
theorem F52_eq (a0 : Int) (a1 : Int) (a2 : ByteArray) (a3a : Option Addr) (a3l : Nat) (a3c : Nat) (a4a : Option Addr) (a4l : Nat) (a4c : Nat) (b0 : Int) (b1 : Int) (b2 : ByteArray) (b3a : Option Addr) (b3l : Nat) (b3c : Nat) (b4a : Option Addr) (b4l : Nat) (b4c : Nat) (g : G) (R : Value → G → Prop) : fnG cfg52 38 [.tmp 4] c52 an52 [(.agg ⟨[(.int .i64 a0), (.int .i64 a1), (.string a2), (.slice a3a a3l a3c), (.slice a4a a4l a4c)]⟩), (.agg ⟨[(.int .i64 b0), (.int .i64 b1), (.string b2), (.slice b3a b3l b3c), (.slice b4a b4l b4c)]⟩)] g nobody R = F52 a0 a1 a2 a3a a3l a3c a4a a4l a4c b0 b1 b2 b3a b3l b3c b4a b4l b4c g R := by kernel_rfl
theorem call52 (a0 : Int) (a1 : Int) (a2 : ByteArray) (a3a : Option Addr) (a3l : Nat) (a3c : Nat) (a4a : Option Addr) (a4l : Nat) (a4c : Nat) (b0 : Int) (b1 : Int) (b2 : ByteArray) (b3a : Option Addr) (b3l : Nat) (b3c : Nat) (b4a : Option Addr) (b4l : Nat) (b4c : Nat) (g : G) (R : Value → G → Prop) (hF : F52 a0 a1 a2 a3a a3l a3c a4a a4l a4c b0 b1 b2 b3a b3l b3c b4a b4l b4c g R) : CallsG Try.prog 52 #[(.agg ⟨[(.int .i64 a0), (.int .i64 a1), (.string a2), (.slice a3a a3l a3c), (.slice a4a a4l a4c)]⟩), (.agg ⟨[(.int .i64 b0), (.int .i64 b1), (.string b2), (.slice b3a b3l b3c), (.slice b4a b4l b4c)]⟩)] g nobody R :=
  fn_soundG (c := cfg52) TTok FNSok mixed Try.func52 (show Try.f52.body = some c52 by kernel_rfl) (show Try.f52.ntmps = 38 by kernel_rfl) (show Try.f52.results.toList = [.tmp 4] by kernel_rfl) rfl ((F52_eq a0 a1 a2 a3a a3l a3c a4a a4l a4c b0 b1 b2 b3a b3l b3c b4a b4l b4c g R).mpr hF)

/- 59 pilaster/heap.length -/
noncomputable def c59 : Code := match Try.f59.body with
  | some c => c
  | none => .skip
noncomputable def cfg59 : Cfg := ⟨Try.prog, TT, FNS, [], [], [], TCH, false, false⟩
def an59 : AnnG := (.seq .leaf (.seq (.seq .leaf (.blk (.join ⟨[(6, .bool)], [], []⟩ (.seq .leaf (.cond .leaf .leaf)) (.cond (.seq .leaf .leaf) (.seq .leaf (.cond (.seq .leaf .leaf) (.seq .leaf (.cond (.seq .leaf .leaf) .leaf)))))))) (.seq .leaf .leaf)))
def F59 (kind : Int) (n : Int) (g : G) (R : Value → G → Prop) : Prop :=
  ∀ J : Bool → G → Prop,
  (∀ v_1 : Bool, ∀ g1 : G, (ifB v_1
  (ifB (leI (0 : Int) n)
  (∀ g2 : G, Ex g1 g2 →
  R (.bool (leI n (1000 : Int))) g2)
  (∀ g3 : G, Ex g1 g3 →
  R (.bool false) g3))
  (ifB (eqI kind (2 : Int))
  (∀ g4 : G, Ex g1 g4 →
  R (.bool (eqI n (1 : Int))) g4)
  (ifB (eqI kind (4 : Int))
  (ifB (leI (0 : Int) n)
  (∀ g5 : G, Ex g1 g5 →
  R (.bool (leI n (16384 : Int))) g5)
  (∀ g6 : G, Ex g1 g6 →
  R (.bool false) g6))
  (∀ g7 : G, Ex g1 g7 →
  R (.bool false) g7)))) → J v_1 g1) →
  ifB (eqI kind (1 : Int))
  (J true g)
  (J (eqI kind (3 : Int)) g)
theorem F59_eq (kind : Int) (n : Int) (g : G) (R : Value → G → Prop) : fnG cfg59 27 [.tmp 4] c59 an59 [(.int .i64 kind), (.int .i64 n)] g nobody R = F59 kind n g R := by kernel_rfl
theorem call59 (kind : Int) (n : Int) (g : G) (R : Value → G → Prop) (hF : F59 kind n g R) : CallsG Try.prog 59 #[(.int .i64 kind), (.int .i64 n)] g nobody R :=
  fn_soundG (c := cfg59) TTok FNSok mixed Try.func59 (show Try.f59.body = some c59 by kernel_rfl) (show Try.f59.ntmps = 27 by kernel_rfl) (show Try.f59.results.toList = [.tmp 4] by kernel_rfl) rfl ((F59_eq kind n g R).mpr hF)

/- 60 pilaster/heap.checked -/
noncomputable def c60 : Code := match Try.f60.body with
  | some c => c
  | none => .skip
noncomputable def cfg60 : Cfg := ⟨Try.prog, TT, FNS, [1, 9], [(1, 1), (9, 9), (10, 1), (14, 1), (19, 1), (21, 1), (27, 1), (29, 1)], [], TCH, false, false⟩
def an60 : AnnG := (.seq .leaf (.join ⟨[], [], []⟩ (.seq .leaf (.cond (.seq .leaf .leaf) .leaf)) (.seq .leaf (.seq (.seq .leaf (.cond (.seq .leaf .leaf) .leaf)) (.seq (.seq .leaf (.blk (.loop ⟨[(42, .int .i64)], [], []⟩ (.seq .leaf (.seq (.cond .leaf .leaf) (.seq (.blk (.seq .leaf (.seq .leaf (.blk (.loop ⟨[(50, .int .i64)], [], []⟩ (.seq .leaf (.seq (.cond .leaf .leaf) (.seq (.blk (.seq .leaf (.seq .leaf (.cond (.seq .leaf .leaf) .leaf)))) .leaf)))))))) .leaf)))))) (.seq .leaf .leaf))))))
def F60 (h0a : Option Addr) (h0l : Nat) (h0c : Nat) (h1 : Int) (h2 : Int) (g : G) (R : Value → G → Prop) : Prop :=
  ∀ J : G → Prop,
  (∀ g1 : G, ((CallsP Try.prog 94 #[(.agg ⟨[(.slice h0a h0l h0c), (.int .i64 h1), (.int .i64 h2)]⟩)] g1 fun v g2 =>
  ∃ x0a : Option Addr, ∃ x0l : Nat, ∃ x0c : Nat, ∃ x1 : Bool, v = (.tuple ⟨[(.slice x0a x0l x0c), (.bool x1)]⟩) ∧ ifB (!x1)
  (∀ g3 : G, Ex g2 g3 →
  R (.tuple ⟨[(.slice none 0 0), (.bool false)]⟩) g3)
  (∃ Inv : Nat → Int → G → Prop, ((∃ m0 : Nat, Inv m0 (0 : Int) g2)) ∧
  ∀ m : Nat, ∀ v_1 : Int, ∀ g4 : G, Le g2 g4 → Inv m v_1 g4 →
  ifB (ltI v_1 ((x0l : Nat) : Int))
  ((0 ≤ v_1 ∧ v_1 < ((x0l : Nat) : Int)) ∧ derefP x0a fun ad => ∃ at0 : Int, g4.w.cell? (Addr.add ad (Int.toNat v_1 * 1)) = some (.int .i64 at0) ∧ (CallsP Try.prog 80 #[(.agg ⟨[(.slice h0a h0l h0c), (.int .i64 h1), (.int .i64 h2)]⟩), (.int .i64 at0)] g4 fun v g5 =>
  ∃ xa : Option Addr, ∃ xl : Nat, ∃ xc : Nat, v = (.slice xa xl xc) ∧ ∃ Inv_1 : Nat → Int → G → Prop, ((∃ m0 : Nat, Inv_1 m0 (0 : Int) g5)) ∧
  ∀ m_2 : Nat, ∀ v_2 : Int, ∀ g6 : G, Le g5 g6 → Inv_1 m_2 v_2 g6 →
  ifB (ltI v_2 ((xl : Nat) : Int))
  ((0 ≤ v_2 ∧ v_2 < ((xl : Nat) : Int)) ∧ derefP xa fun ad_1 => ∃ x0 : Bool, ∃ x1_1 : Int, g6.w.cell? (Addr.add ad_1 (Int.toNat v_2 * 2)) = some (.bool x0) ∧ g6.w.cell? (Addr.add (Addr.add ad_1 (Int.toNat v_2 * 2)) 1) = some (.int .i64 x1_1) ∧ ∀ g7 : G, Ex g6 g7 →
  (CallsP Try.prog 78 #[(.slice x0a x0l x0c), (.agg ⟨[(.bool x0), (.int .i64 x1_1)]⟩)] g7 fun v g8 =>
  ∃ x : Bool, v = (.bool x) ∧ ifB (!x)
  (∀ g9 : G, Ex g8 g9 →
  R (.tuple ⟨[(.slice none 0 0), (.bool false)]⟩) g9)
  (InI64 (v_2 + (1 : Int)) ∧ (∃ m_3 : Nat, m_3 < m_2 ∧ Inv_1 m_3 (v_2 + (1 : Int)) g8))))
  (InI64 (v_1 + (1 : Int)) ∧ (∃ m_1 : Nat, m_1 < m ∧ Inv m_1 (v_1 + (1 : Int)) g6))))
  (∀ g10 : G, Ex g4 g10 →
  R (.tuple ⟨[(.slice x0a x0l x0c), (.bool true)]⟩) g10)))) → J g1) →
  ifB (ltI h2 (0 : Int))
  (∀ g11 : G, Ex g g11 →
  R (.tuple ⟨[(.slice none 0 0), (.bool false)]⟩) g11)
  (ifB (ltI (65536 : Int) h2)
  (∀ g12 : G, Ex g g12 →
  R (.tuple ⟨[(.slice none 0 0), (.bool false)]⟩) g12)
  (ifB (!eqI h1 ((h0l : Nat) : Int))
  (∀ g13 : G, Ex g g13 →
  R (.tuple ⟨[(.slice none 0 0), (.bool false)]⟩) g13)
  (ifB (ltI h2 h1)
  (∀ g14 : G, Ex g g14 →
  R (.tuple ⟨[(.slice none 0 0), (.bool false)]⟩) g14)
  (∀ g15 : G, Ex g g15 →
  J g15))))
theorem F60_eq (h0a : Option Addr) (h0l : Nat) (h0c : Nat) (h1 : Int) (h2 : Int) (g : G) (R : Value → G → Prop) : fnG cfg60 61 [.tmp 2, .tmp 3] c60 an60 [(.agg ⟨[(.slice h0a h0l h0c), (.int .i64 h1), (.int .i64 h2)]⟩)] g nobody R = F60 h0a h0l h0c h1 h2 g R := by kernel_rfl
theorem call60 (h0a : Option Addr) (h0l : Nat) (h0c : Nat) (h1 : Int) (h2 : Int) (g : G) (R : Value → G → Prop) (hF : F60 h0a h0l h0c h1 h2 g R) : CallsG Try.prog 60 #[(.agg ⟨[(.slice h0a h0l h0c), (.int .i64 h1), (.int .i64 h2)]⟩)] g nobody R :=
  fn_soundG (c := cfg60) TTok FNSok mixed Try.func60 (show Try.f60.body = some c60 by kernel_rfl) (show Try.f60.ntmps = 61 by kernel_rfl) (show Try.f60.results.toList = [.tmp 2, .tmp 3] by kernel_rfl) rfl ((F60_eq h0a h0l h0c h1 h2 g R).mpr hF)

/- 61 pilaster/pilasterref49.in -/
noncomputable def c61 : Code := match Try.f61.body with
  | some c => c
  | none => .skip
noncomputable def cfg61 : Cfg := ⟨Try.prog, TT, FNS, [], [], [], TCH, false, false⟩
def an61 : AnnG := (.seq .leaf (.seq .leaf .leaf))
def F61 (n : Int) (low : Int) (high : Int) (g : G) (R : Value → G → Prop) : Prop :=
  ifB (leI low n)
  (∀ g1 : G, Ex g g1 →
  R (.bool (leI n high)) g1)
  (∀ g2 : G, Ex g g2 →
  R (.bool false) g2)
theorem F61_eq (n : Int) (low : Int) (high : Int) (g : G) (R : Value → G → Prop) : fnG cfg61 15 [.tmp 6] c61 an61 [(.int .i64 n), (.int .i64 low), (.int .i64 high)] g nobody R = F61 n low high g R := by kernel_rfl
theorem call61 (n : Int) (low : Int) (high : Int) (g : G) (R : Value → G → Prop) (hF : F61 n low high g R) : CallsG Try.prog 61 #[(.int .i64 n), (.int .i64 low), (.int .i64 high)] g nobody R :=
  fn_soundG (c := cfg61) TTok FNSok mixed Try.func61 (show Try.f61.body = some c61 by kernel_rfl) (show Try.f61.ntmps = 15 by kernel_rfl) (show Try.f61.results.toList = [.tmp 6] by kernel_rfl) rfl ((F61_eq n low high g R).mpr hF)

/- 62 pilaster/pilasterref49.starts -/
noncomputable def c62 : Code := match Try.f62.body with
  | some c => c
  | none => .skip
noncomputable def cfg62 : Cfg := ⟨Try.prog, TT, FNS, [], [], [], TCH, false, false⟩
def an62 : AnnG := (.seq .leaf (.seq .leaf (.seq .leaf (.seq (.blk (.loop ⟨[(4, .sl), (5, .int .i64)], [], []⟩ (.seq (.seq .leaf (.cond .leaf .leaf)) (.blk (.join ⟨[], [], []⟩ (.seq .leaf (.cond (.seq .leaf .leaf) .leaf)) (.seq .leaf (.join ⟨[], [], []⟩ (.seq (.tree 31 (.quiet 0 (.quiet 1 (.quiet 2 (.quiet 3 (.quiet 4 (.quiet 5 (.quiet 6 (.quiet 7 (.quiet 8 (.quiet 9 (.quiet 10 (.quiet 11 (.quiet 12 (.quiet 13 (.quiet 14 (.quiet 15 (.quiet 16 (.quiet 17 (.quiet 18 (.quiet 19 (.quiet 20 (.quiet 21 (.quiet 22 (.quiet 23 (.quiet 24 (.quiet 25 (.quiet 26 (.quiet 27 (.quiet 28 (.quiet 29 (.quiet 30 .fin)))))))))))))))))))))))))))))))) (.cond (.seq .leaf .leaf) .leaf)) (.seq .leaf .leaf)))))))) (.seq .leaf .leaf)))))
def F62 (la : Option Addr) (ll : Nat) (lc : Nat) (g : G) (R : Value → G → Prop) : Prop :=
  ∃ Inv : Nat → Option Addr → Nat → Nat → Int → G → Prop, ((∃ m0 : Nat, Inv m0 none 0 0 (0 : Int) g)) ∧
  ∀ m : Nat, ∀ outa : Option Addr, ∀ outl : Nat, ∀ outc : Nat, ∀ at0 : Int, ∀ g1 : G, Le g g1 → Inv m outa outl outc at0 g1 →
  ifB (ltI at0 ((ll : Nat) : Int))
  (∀ J : G → Prop,
  (∀ g2 : G, (InI64 (at0 + (2 : Int)) ∧ (0 ≤ (at0 + (2 : Int)) ∧ (at0 + (2 : Int)) < ((ll : Nat) : Int)) ∧ derefP la fun ad => ∃ n : Int, g2.w.cell? (Addr.add (Addr.add ad (Int.toNat (at0 + (2 : Int)) * 2)) 1) = some (.int .i64 n) ∧ ∀ J_1 : G → Prop,
  (∀ g3 : G, (∀ g4 : G, NewL g3 g4 3 [(.int .i64 at0)] →
  ∃ outa_1 : Option Addr, ∃ outl_1 : Nat, ∃ outc_1 : Nat, ∃ wo1 : World, Sem.run Try.prog (Builtin.append_ #[55, 55] 55 #[(.slice outa outl outc), (.slice (some ⟨g3.w.heap.size, 0, none⟩) 1 1)]) g4.w = .ok (.slice outa_1 outl_1 outc_1) wo1 ∧ ∃ g5 : G, g5.w = wo1 ∧ Stp g.w.heap.size nobody g4 g5 ∧ InI64 (at0 + (3 : Int)) ∧ InI64 ((at0 + (3 : Int)) + n) ∧ (∃ m_1 : Nat, m_1 < m ∧ Inv m_1 outa_1 outl_1 outc_1 ((at0 + (3 : Int)) + n) g5)) → J_1 g3) →
  ∀ g6 : G, Ex g2 g6 →
  ifB (ltI n (0 : Int))
  (∀ g7 : G, Ex g6 g7 →
  R (.tuple ⟨[(.slice none 0 0), (.bool false)]⟩) g7)
  (InI64 (((ll : Nat) : Int) - at0) ∧ InI64 ((((ll : Nat) : Int) - at0) - (3 : Int)) ∧ ifB (ltI ((((ll : Nat) : Int) - at0) - (3 : Int)) n)
  (∀ g8 : G, Ex g6 g8 →
  R (.tuple ⟨[(.slice none 0 0), (.bool false)]⟩) g8)
  ((0 ≤ at0 ∧ at0 < ((ll : Nat) : Int)) ∧ derefP la fun ad_1 => ∃ x : Int, g6.w.cell? (Addr.add (Addr.add ad_1 (Int.toNat at0 * 2)) 1) = some (.int .i64 x) ∧ InI64 (at0 + (1 : Int)) ∧ (0 ≤ (at0 + (1 : Int)) ∧ (at0 + (1 : Int)) < ((ll : Nat) : Int)) ∧ derefP la fun ad_2 => ∃ x_1 : Int, g6.w.cell? (Addr.add (Addr.add ad_2 (Int.toNat (at0 + (1 : Int)) * 2)) 1) = some (.int .i64 x_1) ∧ InI64 (at0 + (3 : Int)) ∧ InI64 (at0 + (3 : Int)) ∧ InI64 ((at0 + (3 : Int)) + n) ∧ (0 ≤ ((at0 + (3 : Int)) + n) ∧ ((at0 + (3 : Int)) + n) ≤ ((lc : Nat) : Int)) ∧ (0 ≤ (at0 + (3 : Int)) ∧ (at0 + (3 : Int)) ≤ (((Int.toNat ((at0 + (3 : Int)) + n)) : Nat) : Int)) ∧ (CallsP Try.prog 79 #[(.int .i64 x), (.int .i64 x_1), (.slice (slAddr la lc (Int.toNat (at0 + (3 : Int))) 2) ((Int.toNat ((at0 + (3 : Int)) + n)) - (Int.toNat (at0 + (3 : Int)))) (lc - (Int.toNat (at0 + (3 : Int)))))] g6 fun v g9 =>
  ∃ x_2 : Bool, v = (.bool x_2) ∧ ifB (!x_2)
  (∀ g10 : G, Ex g9 g10 →
  R (.tuple ⟨[(.slice none 0 0), (.bool false)]⟩) g10)
  (J_1 g9))))) → J g2) →
  InI64 (at0 + (3 : Int)) ∧ ifB (ltI ((ll : Nat) : Int) (at0 + (3 : Int)))
  (∀ g11 : G, Ex g1 g11 →
  R (.tuple ⟨[(.slice none 0 0), (.bool false)]⟩) g11)
  ((0 ≤ at0 ∧ at0 < ((ll : Nat) : Int)) ∧ derefP la fun ad_3 => ∃ x_3 : Bool, g1.w.cell? (Addr.add ad_3 (Int.toNat at0 * 2)) = some (.bool x_3) ∧ ifB x_3
  (∀ g12 : G, Ex g1 g12 →
  R (.tuple ⟨[(.slice none 0 0), (.bool false)]⟩) g12)
  (InI64 (at0 + (1 : Int)) ∧ (0 ≤ (at0 + (1 : Int)) ∧ (at0 + (1 : Int)) < ((ll : Nat) : Int)) ∧ derefP la fun ad_4 => ∃ x_4 : Bool, g1.w.cell? (Addr.add ad_4 (Int.toNat (at0 + (1 : Int)) * 2)) = some (.bool x_4) ∧ ifB x_4
  (∀ g13 : G, Ex g1 g13 →
  R (.tuple ⟨[(.slice none 0 0), (.bool false)]⟩) g13)
  (InI64 (at0 + (2 : Int)) ∧ (0 ≤ (at0 + (2 : Int)) ∧ (at0 + (2 : Int)) < ((ll : Nat) : Int)) ∧ derefP la fun ad_5 => ∃ x_5 : Bool, g1.w.cell? (Addr.add ad_5 (Int.toNat (at0 + (2 : Int)) * 2)) = some (.bool x_5) ∧ ifB x_5
  (∀ g14 : G, Ex g1 g14 →
  R (.tuple ⟨[(.slice none 0 0), (.bool false)]⟩) g14)
  (J g1)))))
  (∀ g15 : G, Ex g1 g15 →
  R (.tuple ⟨[(.slice outa outl outc), (.bool true)]⟩) g15)
theorem F62_eq (la : Option Addr) (ll : Nat) (lc : Nat) (g : G) (R : Value → G → Prop) : fnG cfg62 88 [.tmp 2, .tmp 3] c62 an62 [(.slice la ll lc)] g nobody R = F62 la ll lc g R := by kernel_rfl
theorem call62 (la : Option Addr) (ll : Nat) (lc : Nat) (g : G) (R : Value → G → Prop) (hF : F62 la ll lc g R) : CallsG Try.prog 62 #[(.slice la ll lc)] g nobody R :=
  fn_soundG (c := cfg62) TTok FNSok mixed Try.func62 (show Try.f62.body = some c62 by kernel_rfl) (show Try.f62.ntmps = 88 by kernel_rfl) (show Try.f62.results.toList = [.tmp 2, .tmp 3] by kernel_rfl) rfl ((F62_eq la ll lc g R).mpr hF)

/- 63 pilaster/pilasterref49.word -/
noncomputable def c63 : Code := match Try.f63.body with
  | some c => c
  | none => .skip
noncomputable def cfg63 : Cfg := ⟨Try.prog, TT, FNS, [3], [(3, 3), (5, 3), (8, 3), (11, 3)], [], TCH, false, false⟩
def an63 : AnnG := (.seq .leaf (.seq (.seq .leaf (.cond (.seq .leaf .leaf) .leaf)) (.seq .leaf .leaf)))
def F63 (la : Option Addr) (ll : Nat) (lc : Nat) (w0 : Bool) (w1 : Int) (g : G) (R : Value → G → Prop) : Prop :=
  ifB w0
  (∀ g1 : G, Ex g g1 →
  (CallsP Try.prog 81 #[(.slice la ll lc), (.int .i64 w1)] g1 fun v g2 =>
  ∃ x : Bool, v = (.bool x) ∧ ∀ g3 : G, Ex g2 g3 →
  R (.bool x) g3))
  (∀ g4 : G, Ex g g4 →
  (CallsP Try.prog 95 #[(.int .i64 w1)] g4 fun v g5 =>
  ∃ x_1 : Bool, v = (.bool x_1) ∧ ∀ g6 : G, Ex g5 g6 →
  R (.bool x_1) g6))
theorem F63_eq (la : Option Addr) (ll : Nat) (lc : Nat) (w0 : Bool) (w1 : Int) (g : G) (R : Value → G → Prop) : fnG cfg63 14 [.tmp 4] c63 an63 [(.slice la ll lc), (.agg ⟨[(.bool w0), (.int .i64 w1)]⟩)] g nobody R = F63 la ll lc w0 w1 g R := by kernel_rfl
theorem call63 (la : Option Addr) (ll : Nat) (lc : Nat) (w0 : Bool) (w1 : Int) (g : G) (R : Value → G → Prop) (hF : F63 la ll lc w0 w1 g R) : CallsG Try.prog 63 #[(.slice la ll lc), (.agg ⟨[(.bool w0), (.int .i64 w1)]⟩)] g nobody R :=
  fn_soundG (c := cfg63) TTok FNSok mixed Try.func63 (show Try.f63.body = some c63 by kernel_rfl) (show Try.f63.ntmps = 14 by kernel_rfl) (show Try.f63.results.toList = [.tmp 4] by kernel_rfl) rfl ((F63_eq la ll lc w0 w1 g R).mpr hF)

/- 64 pilaster/heap.add -/
noncomputable def c64 : Code := match Try.f64.body with
  | some c => c
  | none => .skip
noncomputable def cfg64 : Cfg := ⟨Try.prog, TT, FNS, [4, 8, 9], [(4, 4), (8, 8), (9, 9), (15, 4), (17, 4), (23, 4), (25, 4), (38, 4), (39, 4), (42, 4)], [], TCH, false, false⟩
def an64 : AnnG := (.seq .leaf (.seq (.seq .leaf (.cond (.seq .leaf .leaf) .leaf)) (.seq .leaf (.seq (.tree 11 (.quiet 0 (.quiet 1 (.quiet 2 (.quiet 4 (.quiet 6 (.quiet 7 (.quiet 10 (.eff 3 (.eff 5 (.eff 8 (.eff 9 .fin .fin) .fin) .fin) .fin))))))))) (.seq .leaf (.seq (.tree 3 (.quiet 0 (.quiet 1 (.eff 2 .fin .fin)))) .leaf))))))
def F64 (h0a : Option Addr) (h0l : Nat) (h0c : Nat) (h1 : Int) (h2 : Int) (kind : Int) (n : Int) (la : Option Addr) (ll : Nat) (lc : Nat) (g : G) (R : Value → G → Prop) : Prop :=
  InI64 (((ll : Nat) : Int) + (3 : Int)) ∧ InI64 (h2 - h1) ∧ ifB (ltI (h2 - h1) (((ll : Nat) : Int) + (3 : Int)))
  (∀ g1 : G, Ex g g1 →
  ∀ g2 : G, Ex g1 g2 →
  R (.tuple ⟨[(.agg ⟨[(.slice none 0 0), (.int .i64 (0 : Int)), (.int .i64 (0 : Int))]⟩), (.agg ⟨[(.bool false), (.int .i64 (0 : Int))]⟩), (.bool false)]⟩) g2)
  (∀ g3 : G, Ex g g3 →
  (CallsP Try.prog 97 #[(.int .i64 kind)] g3 fun v g4 =>
  ∃ x0 : Bool, ∃ x1 : Int, v = (.agg ⟨[(.bool x0), (.int .i64 x1)]⟩) ∧ (CallsP Try.prog 97 #[(.int .i64 n)] g4 fun v g5 =>
  ∃ x0_1 : Bool, ∃ x1_1 : Int, v = (.agg ⟨[(.bool x0_1), (.int .i64 x1_1)]⟩) ∧ (CallsP Try.prog 97 #[(.int .i64 ((ll : Nat) : Int))] g5 fun v g6 =>
  ∃ x0_2 : Bool, ∃ x1_2 : Int, v = (.agg ⟨[(.bool x0_2), (.int .i64 x1_2)]⟩) ∧ ∀ g7 : G, NewL g6 g7 41 [(.bool x0), (.int .i64 x1), (.bool x0_1), (.int .i64 x1_1), (.bool x0_2), (.int .i64 x1_2)] →
  ∀ g8 : G, NewL g7 g8 22 [(.slice h0a h0l h0c), (.slice (some ⟨g6.w.heap.size, 0, none⟩) 3 3), (.slice la ll lc)] →
  (CallsP Try.prog 96 #[(.slice (some ⟨g7.w.heap.size, 0, none⟩) 3 3)] g8 fun v g9 =>
  ∃ xa : Option Addr, ∃ xl : Nat, ∃ xc : Nat, v = (.slice xa xl xc) ∧ ∀ g10 : G, Ex g9 g10 →
  (CallsP Try.prog 98 #[(.int .i64 h1)] g10 fun v g11 =>
  ∃ x0_3 : Bool, ∃ x1_3 : Int, v = (.agg ⟨[(.bool x0_3), (.int .i64 x1_3)]⟩) ∧ ∀ g12 : G, Ex g11 g12 →
  R (.tuple ⟨[(.agg ⟨[(.slice xa xl xc), (.int .i64 ((xl : Nat) : Int)), (.int .i64 h2)]⟩), (.agg ⟨[(.bool x0_3), (.int .i64 x1_3)]⟩), (.bool true)]⟩) g12))))))
theorem F64_eq (h0a : Option Addr) (h0l : Nat) (h0c : Nat) (h1 : Int) (h2 : Int) (kind : Int) (n : Int) (la : Option Addr) (ll : Nat) (lc : Nat) (g : G) (R : Value → G → Prop) : fnG cfg64 46 [.cell 8 24, .cell 9 41, .tmp 10] c64 an64 [(.agg ⟨[(.slice h0a h0l h0c), (.int .i64 h1), (.int .i64 h2)]⟩), (.int .i64 kind), (.int .i64 n), (.slice la ll lc)] g nobody R = F64 h0a h0l h0c h1 h2 kind n la ll lc g R := by kernel_rfl
theorem call64 (h0a : Option Addr) (h0l : Nat) (h0c : Nat) (h1 : Int) (h2 : Int) (kind : Int) (n : Int) (la : Option Addr) (ll : Nat) (lc : Nat) (g : G) (R : Value → G → Prop) (hF : F64 h0a h0l h0c h1 h2 kind n la ll lc g R) : CallsG Try.prog 64 #[(.agg ⟨[(.slice h0a h0l h0c), (.int .i64 h1), (.int .i64 h2)]⟩), (.int .i64 kind), (.int .i64 n), (.slice la ll lc)] g nobody R :=
  fn_soundG (c := cfg64) TTok FNSok mixed Try.func64 (show Try.f64.body = some c64 by kernel_rfl) (show Try.f64.ntmps = 46 by kernel_rfl) (show Try.f64.results.toList = [.cell 8 24, .cell 9 41, .tmp 10] by kernel_rfl) rfl ((F64_eq h0a h0l h0c h1 h2 kind n la ll lc g R).mpr hF)

/- 65 pilaster/heap.bytesOf -/
noncomputable def c65 : Code := match Try.f65.body with
  | some c => c
  | none => .skip
noncomputable def cfg65 : Cfg := ⟨Try.prog, TT, FNS, [], [], [], TCH, false, false⟩
def an65 : AnnG := (.seq .leaf (.seq .leaf (.seq (.seq .leaf (.blk (.loop ⟨[(3, .sl), (9, .int .i64)], [], []⟩ (.seq .leaf (.seq (.cond .leaf .leaf) (.seq (.blk (.seq .leaf .leaf)) .leaf)))))) (.seq .leaf .leaf))))
def F65 (s : ByteArray) (g : G) (R : Value → G → Prop) : Prop :=
  ∃ xa : Option Addr, ∃ xl : Nat, ∃ xc : Nat, ∃ wo1 : World, Sem.run Try.prog (convert 9 66 (.string s)) g.w = .ok (.slice xa xl xc) wo1 ∧ ∃ g1 : G, g1.w = wo1 ∧ Stp g.w.heap.size nobody g g1 ∧ ∃ Inv : Nat → Option Addr → Nat → Nat → Int → G → Prop, ((∃ m0 : Nat, Inv m0 none 0 0 (0 : Int) g1)) ∧
  ∀ m : Nat, ∀ outa : Option Addr, ∀ outl : Nat, ∀ outc : Nat, ∀ v_1 : Int, ∀ g2 : G, Le g1 g2 → Inv m outa outl outc v_1 g2 →
  ifB (ltI v_1 ((xl : Nat) : Int))
  ((0 ≤ v_1 ∧ v_1 < ((xl : Nat) : Int)) ∧ derefP xa fun ad => ∃ c : Int, g2.w.cell? (Addr.add ad (Int.toNat v_1 * 1)) = some (.int .u8 c) ∧ InI64 c ∧ (CallsP Try.prog 97 #[(.int .i64 c)] g2 fun v g3 =>
  ∃ x0 : Bool, ∃ x1 : Int, v = (.agg ⟨[(.bool x0), (.int .i64 x1)]⟩) ∧ ∀ g4 : G, NewL g3 g4 41 [(.bool x0), (.int .i64 x1)] →
  ∃ outa_1 : Option Addr, ∃ outl_1 : Nat, ∃ outc_1 : Nat, ∃ wo2 : World, Sem.run Try.prog (Builtin.append_ #[22, 22] 22 #[(.slice outa outl outc), (.slice (some ⟨g3.w.heap.size, 0, none⟩) 1 1)]) g4.w = .ok (.slice outa_1 outl_1 outc_1) wo2 ∧ ∃ g5 : G, g5.w = wo2 ∧ Stp g.w.heap.size nobody g4 g5 ∧ InI64 (v_1 + (1 : Int)) ∧ (∃ m_1 : Nat, m_1 < m ∧ Inv m_1 outa_1 outl_1 outc_1 (v_1 + (1 : Int)) g5)))
  (∀ g6 : G, Ex g2 g6 →
  R (.slice outa outl outc) g6)
theorem F65_eq (s : ByteArray) (g : G) (R : Value → G → Prop) : fnG cfg65 21 [.tmp 2] c65 an65 [(.string s)] g nobody R = F65 s g R := by kernel_rfl
theorem call65 (s : ByteArray) (g : G) (R : Value → G → Prop) (hF : F65 s g R) : CallsG Try.prog 65 #[(.string s)] g nobody R :=
  fn_soundG (c := cfg65) TTok FNSok mixed Try.func65 (show Try.f65.body = some c65 by kernel_rfl) (show Try.f65.ntmps = 21 by kernel_rfl) (show Try.f65.results.toList = [.tmp 2] by kernel_rfl) rfl ((F65_eq s g R).mpr hF)

/- 66 pilaster/heap.size -/
noncomputable def c66 : Code := match Try.f66.body with
  | some c => c
  | none => .skip
noncomputable def cfg66 : Cfg := ⟨Try.prog, TT, FNS, [1, 5], [(1, 1), (5, 5), (8, 1)], [], TCH, false, false⟩
def an66 : AnnG := (.seq .leaf (.seq (.seq .leaf (.blk (.loop ⟨[(2, .int .i64), (3, .int .i64), (11, .int .i64)], [], []⟩ (.seq .leaf (.seq (.cond .leaf .leaf) (.seq (.blk (.seq .leaf (.seq .leaf (.seq .leaf .leaf)))) .leaf)))))) (.seq .leaf .leaf)))
def F66 (v0 : Int) (v1 : Int) (v2 : ByteArray) (v3a : Option Addr) (v3l : Nat) (v3c : Nat) (v4a : Option Addr) (v4l : Nat) (v4c : Nat) (g : G) (R : Value → G → Prop) : Prop :=
  ∃ Inv : Nat → Int → Int → Int → G → Prop, (∀ g1 : G, Ex g g1 →
  (∃ m0 : Nat, Inv m0 (0 : Int) (0 : Int) (0 : Int) g1)) ∧
  ∀ m : Nat, ∀ nodes : Int, ∀ depth : Int, ∀ v_1 : Int, ∀ g2 : G, Le g g2 → Inv m nodes depth v_1 g2 →
  ifB (ltI v_1 ((v4l : Nat) : Int))
  ((0 ≤ v_1 ∧ v_1 < ((v4l : Nat) : Int)) ∧ derefP v4a fun ad => ∃ x0 : Int, ∃ x1 : Int, ∃ x2 : ByteArray, ∃ x3a : Option Addr, ∃ x3l : Nat, ∃ x3c : Nat, ∃ x4a : Option Addr, ∃ x4l : Nat, ∃ x4c : Nat, g2.w.cell? (Addr.add ad (Int.toNat v_1 * 5)) = some (.int .i64 x0) ∧ g2.w.cell? (Addr.add (Addr.add ad (Int.toNat v_1 * 5)) 1) = some (.int .i64 x1) ∧ g2.w.cell? (Addr.add (Addr.add ad (Int.toNat v_1 * 5)) 2) = some (.string x2) ∧ g2.w.cell? (Addr.add (Addr.add ad (Int.toNat v_1 * 5)) 3) = some (.slice x3a x3l x3c) ∧ g2.w.cell? (Addr.add (Addr.add ad (Int.toNat v_1 * 5)) 4) = some (.slice x4a x4l x4c) ∧ ∀ g3 : G, Ex g2 g3 →
  (CallsP Try.prog 66 #[(.agg ⟨[(.int .i64 x0), (.int .i64 x1), (.string x2), (.slice x3a x3l x3c), (.slice x4a x4l x4c)]⟩)] g3 fun v g4 =>
  ∃ x0_1 : Int, ∃ x1_1 : Int, v = (.tuple ⟨[(.int .i64 x0_1), (.int .i64 x1_1)]⟩) ∧ InI64 (nodes + x0_1) ∧ InI64 (v_1 + (1 : Int)) ∧ (∃ m_1 : Nat, m_1 < m ∧ Inv m_1 (nodes + x0_1) (maxI depth x1_1) (v_1 + (1 : Int)) g4)))
  (InI64 (nodes + (1 : Int)) ∧ InI64 (depth + (1 : Int)) ∧ ∀ g5 : G, Ex g2 g5 →
  R (.tuple ⟨[(.int .i64 (nodes + (1 : Int))), (.int .i64 (depth + (1 : Int)))]⟩) g5)
theorem F66_eq (v0 : Int) (v1 : Int) (v2 : ByteArray) (v3a : Option Addr) (v3l : Nat) (v3c : Nat) (v4a : Option Addr) (v4l : Nat) (v4c : Nat) (g : G) (R : Value → G → Prop) : fnG cfg66 31 [.tmp 2, .tmp 3] c66 an66 [(.agg ⟨[(.int .i64 v0), (.int .i64 v1), (.string v2), (.slice v3a v3l v3c), (.slice v4a v4l v4c)]⟩)] g nobody R = F66 v0 v1 v2 v3a v3l v3c v4a v4l v4c g R := by kernel_rfl
theorem call66 (v0 : Int) (v1 : Int) (v2 : ByteArray) (v3a : Option Addr) (v3l : Nat) (v3c : Nat) (v4a : Option Addr) (v4l : Nat) (v4c : Nat) (g : G) (R : Value → G → Prop) (hF : F66 v0 v1 v2 v3a v3l v3c v4a v4l v4c g R) : CallsG Try.prog 66 #[(.agg ⟨[(.int .i64 v0), (.int .i64 v1), (.string v2), (.slice v3a v3l v3c), (.slice v4a v4l v4c)]⟩)] g nobody R :=
  fn_soundG (c := cfg66) TTok FNSok mixed Try.func66 (show Try.f66.body = some c66 by kernel_rfl) (show Try.f66.ntmps = 31 by kernel_rfl) (show Try.f66.results.toList = [.tmp 2, .tmp 3] by kernel_rfl) rfl ((F66_eq v0 v1 v2 v3a v3l v3c v4a v4l v4c g R).mpr hF)

/- 67 pilaster/heap.data -/
noncomputable def c67 : Code := match Try.f67.body with
  | some c => c
  | none => .skip
noncomputable def cfg67 : Cfg := ⟨Try.prog, TT, FNS, [1], [(1, 1), (3, 1), (8, 1), (12, 1), (18, 1), (22, 1), (27, 1), (32, 1), (36, 1), (40, 1), (47, 1), (52, 1), (59, 1), (64, 1), (71, 1), (75, 1), (80, 1), (86, 1)], [], TCH, false, false⟩
def an67 : AnnG := (.seq .leaf (.join ⟨[], [], []⟩ (.seq .leaf (.cond (.seq .leaf .leaf) .leaf)) (.seq (.seq .leaf (.blk (.seq .leaf (.cond (.seq .leaf .leaf) (.seq .leaf (.cond (.seq .leaf .leaf) (.seq .leaf (.cond (.seq .leaf .leaf) (.seq .leaf (.cond (.seq .leaf .leaf) .leaf)))))))))) (.seq .leaf .leaf))))
def F67 (v0 : Int) (v1 : Int) (v2 : ByteArray) (v3a : Option Addr) (v3l : Nat) (v3c : Nat) (v4a : Option Addr) (v4l : Nat) (v4c : Nat) (g : G) (R : Value → G → Prop) : Prop :=
  ∀ J : G → Prop,
  (∀ g1 : G, (ifB (eqI v0 (1 : Int))
  ((CallsP Try.prog 99 #[(.int .i64 v1)] g1 fun v g2 =>
  ∃ x : Bool, v = (.bool x) ∧ ifB x
  (∀ g3 : G, Ex g2 g3 →
  R (.bool (eqI ((v4l : Nat) : Int) (0 : Int))) g3)
  (∀ g4 : G, Ex g2 g4 →
  R (.bool false) g4)))
  (ifB (eqI v0 (2 : Int))
  (ifB (leI ((v2.size : Nat) : Int) (16384 : Int))
  (∀ g5 : G, Ex g1 g5 →
  R (.bool (eqI ((v4l : Nat) : Int) (0 : Int))) g5)
  (∀ g6 : G, Ex g1 g6 →
  R (.bool false) g6))
  (ifB (eqI v0 (3 : Int))
  (ifB (leI ((v4l : Nat) : Int) (1000 : Int))
  ((CallsP Try.prog 100 #[(.slice v4a v4l v4c), (.func (.func 101) #[] #[])] g1 fun v g7 =>
  ∃ x_1 : Bool, v = (.bool x_1) ∧ ∀ g8 : G, Ex g7 g8 →
  R (.bool (!x_1)) g8))
  (∀ g9 : G, Ex g1 g9 →
  R (.bool false) g9))
  (ifB (eqI v0 (4 : Int))
  (ifB (leI (0 : Int) v1)
  (ifB (leI v1 (1000 : Int))
  (ifB (eqI ((v4l : Nat) : Int) (1 : Int))
  ((0 ≤ (0 : Int) ∧ (0 : Int) < ((v4l : Nat) : Int)) ∧ derefP v4a fun ad => ∃ x0 : Int, ∃ x1 : Int, ∃ x2 : ByteArray, ∃ x3a : Option Addr, ∃ x3l : Nat, ∃ x3c : Nat, ∃ x4a : Option Addr, ∃ x4l : Nat, ∃ x4c : Nat, g1.w.cell? (Addr.add ad (Int.toNat (0 : Int) * 5)) = some (.int .i64 x0) ∧ g1.w.cell? (Addr.add (Addr.add ad (Int.toNat (0 : Int) * 5)) 1) = some (.int .i64 x1) ∧ g1.w.cell? (Addr.add (Addr.add ad (Int.toNat (0 : Int) * 5)) 2) = some (.string x2) ∧ g1.w.cell? (Addr.add (Addr.add ad (Int.toNat (0 : Int) * 5)) 3) = some (.slice x3a x3l x3c) ∧ g1.w.cell? (Addr.add (Addr.add ad (Int.toNat (0 : Int) * 5)) 4) = some (.slice x4a x4l x4c) ∧ (CallsP Try.prog 67 #[(.agg ⟨[(.int .i64 x0), (.int .i64 x1), (.string x2), (.slice x3a x3l x3c), (.slice x4a x4l x4c)]⟩)] g1 fun v g10 =>
  ∃ x_2 : Bool, v = (.bool x_2) ∧ ∀ g11 : G, Ex g10 g11 →
  R (.bool x_2) g11))
  (∀ g12 : G, Ex g1 g12 →
  R (.bool false) g12))
  (∀ g13 : G, Ex g1 g13 →
  R (.bool false) g13))
  (∀ g14 : G, Ex g1 g14 →
  R (.bool false) g14))
  (∀ g15 : G, Ex g1 g15 →
  R (.bool false) g15))))) → J g1) →
  ifB (ltI (0 : Int) ((v3l : Nat) : Int))
  (∀ g16 : G, Ex g g16 →
  R (.bool false) g16)
  (ifB (!eqI v0 (2 : Int))
  (ifB (!strEq v2 (bs []))
  (∀ g17 : G, Ex g g17 →
  R (.bool false) g17)
  (ifB (!eqI v0 (1 : Int))
  (ifB (!eqI v0 (4 : Int))
  (ifB (!eqI v1 (0 : Int))
  (∀ g18 : G, Ex g g18 →
  R (.bool false) g18)
  (∀ g19 : G, Ex g g19 →
  J g19))
  (∀ g20 : G, Ex g g20 →
  J g20))
  (∀ g21 : G, Ex g g21 →
  J g21)))
  (ifB (!eqI v0 (1 : Int))
  (ifB (!eqI v0 (4 : Int))
  (ifB (!eqI v1 (0 : Int))
  (∀ g22 : G, Ex g g22 →
  R (.bool false) g22)
  (∀ g23 : G, Ex g g23 →
  J g23))
  (∀ g24 : G, Ex g g24 →
  J g24))
  (∀ g25 : G, Ex g g25 →
  J g25)))
theorem F67_eq (v0 : Int) (v1 : Int) (v2 : ByteArray) (v3a : Option Addr) (v3l : Nat) (v3c : Nat) (v4a : Option Addr) (v4l : Nat) (v4c : Nat) (g : G) (R : Value → G → Prop) : fnG cfg67 92 [.tmp 2] c67 an67 [(.agg ⟨[(.int .i64 v0), (.int .i64 v1), (.string v2), (.slice v3a v3l v3c), (.slice v4a v4l v4c)]⟩)] g nobody R = F67 v0 v1 v2 v3a v3l v3c v4a v4l v4c g R := by kernel_rfl
theorem call67 (v0 : Int) (v1 : Int) (v2 : ByteArray) (v3a : Option Addr) (v3l : Nat) (v3c : Nat) (v4a : Option Addr) (v4l : Nat) (v4c : Nat) (g : G) (R : Value → G → Prop) (hF : F67 v0 v1 v2 v3a v3l v3c v4a v4l v4c g R) : CallsG Try.prog 67 #[(.agg ⟨[(.int .i64 v0), (.int .i64 v1), (.string v2), (.slice v3a v3l v3c), (.slice v4a v4l v4c)]⟩)] g nobody R :=
  fn_soundG (c := cfg67) TTok FNSok mixed Try.func67 (show Try.f67.body = some c67 by kernel_rfl) (show Try.f67.ntmps = 92 by kernel_rfl) (show Try.f67.results.toList = [.tmp 2] by kernel_rfl) rfl ((F67_eq v0 v1 v2 v3a v3l v3c v4a v4l v4c g R).mpr hF)

/- 68 slices.Clone[[]pilaster/api.Word,pilaster/api.Word] -/
noncomputable def c68 : Code := match Try.f68.body with
  | some c => c
  | none => .skip
noncomputable def cfg68 : Cfg := ⟨Try.prog, TT, FNS, [], [], [], TCH, false, false⟩
def an68 : AnnG := (.seq .leaf (.seq (.seq .leaf (.cond (.seq .leaf .leaf) .leaf)) (.seq .leaf .leaf)))
def F68 (sa : Option Addr) (sl : Nat) (sc : Nat) (g : G) (R : Value → G → Prop) : Prop :=
  ifB sa.isNone
  (∀ g1 : G, Ex g g1 →
  R (.slice none 0 0) g1)
  (∀ g2 : G, NewL g g2 41 [] →
  ∃ xa : Option Addr, ∃ xl : Nat, ∃ xc : Nat, ∃ wo1 : World, Sem.run Try.prog (Builtin.append_ #[22, 22] 22 #[(.slice (some ⟨g.w.heap.size, 0, none⟩) 0 0), (.slice sa sl sc)]) g2.w = .ok (.slice xa xl xc) wo1 ∧ ∃ g3 : G, g3.w = wo1 ∧ Stp g.w.heap.size nobody g2 g3 ∧ ∀ g4 : G, Ex g3 g4 →
  R (.slice xa xl xc) g4)
theorem F68_eq (sa : Option Addr) (sl : Nat) (sc : Nat) (g : G) (R : Value → G → Prop) : fnG cfg68 8 [.tmp 2] c68 an68 [(.slice sa sl sc)] g nobody R = F68 sa sl sc g R := by kernel_rfl
theorem call68 (sa : Option Addr) (sl : Nat) (sc : Nat) (g : G) (R : Value → G → Prop) (hF : F68 sa sl sc g R) : CallsG Try.prog 68 #[(.slice sa sl sc)] g nobody R :=
  fn_soundG (c := cfg68) TTok FNSok mixed Try.func68 (show Try.f68.body = some c68 by kernel_rfl) (show Try.f68.ntmps = 8 by kernel_rfl) (show Try.f68.results.toList = [.tmp 2] by kernel_rfl) rfl ((F68_eq sa sl sc g R).mpr hF)

/- 69 pilaster/heap.put -/
noncomputable def c69 : Code := match Try.f69.body with
  | some c => c
  | none => .skip
noncomputable def cfg69 : Cfg := ⟨Try.prog, TT, FNS, [2, 3, 4, 5, 9, 10, 11], [(2, 2), (3, 3), (4, 4), (5, 5), (9, 9), (10, 10), (11, 11), (13, 3), (18, 3), (24, 3), (27, 3), (34, 3), (58, 3), (62, 3)], [], TCH, false, false⟩
def an69 : AnnG := (.seq .leaf (.seq (.seq .leaf (.blk (.seq .leaf (.cond (.seq (.treeP false [4, 5] 4 (.quiet 0 (.quiet 1 (.quiet 2 (.eff 3 .fin .fin))))) .leaf) (.seq .leaf (.cond (.seq (.treeP false [4, 5] 11 (.quiet 0 (.quiet 1 (.quiet 2 (.quiet 3 (.quiet 4 (.quiet 5 (.eff 6 (.eff 7 (.quiet 8 (.quiet 9 (.quiet 10 .fin))) .fin) .fin)))))))) .leaf) .leaf)))))) (.seq .leaf (.seq (.seq .leaf (.blk (.loop ⟨[(7, .sl), (37, .int .i64)], [(2, 2, 0), (4, 4, 0), (5, 5, 0)], [(2, [(.sl), (.int .i64), (.int .i64)]), (4, [(.sl), (.int .i64), (.int .i64)]), (5, [(.bool), (.int .i64)])]⟩ (.seq .leaf (.seq (.cond .leaf .leaf) (.seq (.blk (.seq .leaf (.seq .leaf (.seq (.seq .leaf (.cond (.seq .leaf .leaf) .leaf)) (.seq .leaf .leaf))))) .leaf)))))) (.seq (.seq .leaf (.cond (.seq .leaf .leaf) .leaf)) (.seq .leaf .leaf))))))
def F69 (h0a : Option Addr) (h0l : Nat) (h0c : Nat) (h1 : Int) (h2 : Int) (v0 : Int) (v1 : Int) (v2 : ByteArray) (v3a : Option Addr) (v3l : Nat) (v3c : Nat) (v4a : Option Addr) (v4l : Nat) (v4c : Nat) (g : G) (R : Value → G → Prop) : Prop :=
  ifB (eqI v0 (1 : Int))
  (∀ g1 : G, Ex g g1 →
  ∀ g2 : G, Ex g1 g2 →
  (CallsP Try.prog 97 #[(.int .i64 v1)] g2 fun v g3 =>
  ∃ x0 : Bool, ∃ x1 : Int, v = (.agg ⟨[(.bool x0), (.int .i64 x1)]⟩) ∧ ∀ g4 : G, Ex g3 g4 →
  R (.tuple ⟨[(.agg ⟨[(.slice h0a h0l h0c), (.int .i64 h1), (.int .i64 h2)]⟩), (.agg ⟨[(.bool x0), (.int .i64 x1)]⟩), (.bool true)]⟩) g4))
  (ifB (eqI v0 (2 : Int))
  (∀ g5 : G, Ex g g5 →
  ∀ g6 : G, Ex g5 g6 →
  (CallsP Try.prog 65 #[(.string v2)] g6 fun v g7 =>
  ∃ xa : Option Addr, ∃ xl : Nat, ∃ xc : Nat, v = (.slice xa xl xc) ∧ ∀ g8 : G, Ex g7 g8 →
  (CallsP Try.prog 64 #[(.agg ⟨[(.slice h0a h0l h0c), (.int .i64 h1), (.int .i64 h2)]⟩), (.int .i64 (4 : Int)), (.int .i64 ((v2.size : Nat) : Int)), (.slice xa xl xc)] g8 fun v g9 =>
  ∃ x00a : Option Addr, ∃ x00l : Nat, ∃ x00c : Nat, ∃ x01 : Int, ∃ x02 : Int, ∃ x10 : Bool, ∃ x11 : Int, ∃ x2 : Bool, v = (.tuple ⟨[(.agg ⟨[(.slice x00a x00l x00c), (.int .i64 x01), (.int .i64 x02)]⟩), (.agg ⟨[(.bool x10), (.int .i64 x11)]⟩), (.bool x2)]⟩) ∧ ∀ g10 : G, Ex g9 g10 →
  R (.tuple ⟨[(.agg ⟨[(.slice x00a x00l x00c), (.int .i64 x01), (.int .i64 x02)]⟩), (.agg ⟨[(.bool x10), (.int .i64 x11)]⟩), (.bool x2)]⟩) g10)))
  (∃ Inv : Nat → Option Addr → Nat → Nat → Int → Option Addr → Nat → Nat → Int → Int → Option Addr → Nat → Nat → Int → Int → Bool → Int → G → Prop, (∀ g11 : G, Ex g g11 →
  (∃ m0 : Nat, Inv m0 none 0 0 (0 : Int) h0a h0l h0c h1 h2 none 0 0 (0 : Int) (0 : Int) false (0 : Int) g11)) ∧
  ∀ m : Nat, ∀ la : Option Addr, ∀ ll : Nat, ∀ lc : Nat, ∀ v_1 : Int, ∀ h0a_1 : Option Addr, ∀ h0l_1 : Nat, ∀ h0c_1 : Nat, ∀ h1_1 : Int, ∀ h2_1 : Int, ∀ x0a : Option Addr, ∀ x0l : Nat, ∀ x0c : Nat, ∀ x1_1 : Int, ∀ x2_1 : Int, ∀ x0_1 : Bool, ∀ x1_2 : Int, ∀ g12 : G, Le g g12 → Inv m la ll lc v_1 h0a_1 h0l_1 h0c_1 h1_1 h2_1 x0a x0l x0c x1_1 x2_1 x0_1 x1_2 g12 →
  ifB (ltI v_1 ((v4l : Nat) : Int))
  ((0 ≤ v_1 ∧ v_1 < ((v4l : Nat) : Int)) ∧ derefP v4a fun ad => ∃ x0_2 : Int, ∃ x1_3 : Int, ∃ x2_2 : ByteArray, ∃ x3a : Option Addr, ∃ x3l : Nat, ∃ x3c : Nat, ∃ x4a : Option Addr, ∃ x4l : Nat, ∃ x4c : Nat, g12.w.cell? (Addr.add ad (Int.toNat v_1 * 5)) = some (.int .i64 x0_2) ∧ g12.w.cell? (Addr.add (Addr.add ad (Int.toNat v_1 * 5)) 1) = some (.int .i64 x1_3) ∧ g12.w.cell? (Addr.add (Addr.add ad (Int.toNat v_1 * 5)) 2) = some (.string x2_2) ∧ g12.w.cell? (Addr.add (Addr.add ad (Int.toNat v_1 * 5)) 3) = some (.slice x3a x3l x3c) ∧ g12.w.cell? (Addr.add (Addr.add ad (Int.toNat v_1 * 5)) 4) = some (.slice x4a x4l x4c) ∧ ∀ g13 : G, Ex g12 g13 →
  (CallsP Try.prog 69 #[(.agg ⟨[(.slice h0a_1 h0l_1 h0c_1), (.int .i64 h1_1), (.int .i64 h2_1)]⟩), (.agg ⟨[(.int .i64 x0_2), (.int .i64 x1_3), (.string x2_2), (.slice x3a x3l x3c), (.slice x4a x4l x4c)]⟩)] g13 fun v g14 =>
  ∃ x00a_1 : Option Addr, ∃ x00l_1 : Nat, ∃ x00c_1 : Nat, ∃ x01_1 : Int, ∃ x02_1 : Int, ∃ x10_1 : Bool, ∃ x11_1 : Int, ∃ x2_3 : Bool, v = (.tuple ⟨[(.agg ⟨[(.slice x00a_1 x00l_1 x00c_1), (.int .i64 x01_1), (.int .i64 x02_1)]⟩), (.agg ⟨[(.bool x10_1), (.int .i64 x11_1)]⟩), (.bool x2_3)]⟩) ∧ ifB (!x2_3)
  (∀ g15 : G, Ex g14 g15 →
  ∀ g16 : G, Ex g15 g16 →
  R (.tuple ⟨[(.agg ⟨[(.slice none 0 0), (.int .i64 (0 : Int)), (.int .i64 (0 : Int))]⟩), (.agg ⟨[(.bool false), (.int .i64 (0 : Int))]⟩), (.bool false)]⟩) g16)
  (∀ g17 : G, Ex g14 g17 →
  ∀ g18 : G, NewL g17 g18 41 [(.bool x10_1), (.int .i64 x11_1)] →
  ∃ la_1 : Option Addr, ∃ ll_1 : Nat, ∃ lc_1 : Nat, ∃ wo1 : World, Sem.run Try.prog (Builtin.append_ #[22, 22] 22 #[(.slice la ll lc), (.slice (some ⟨g17.w.heap.size, 0, none⟩) 1 1)]) g18.w = .ok (.slice la_1 ll_1 lc_1) wo1 ∧ ∃ g19 : G, g19.w = wo1 ∧ Stp g.w.heap.size nobody g18 g19 ∧ InI64 (v_1 + (1 : Int)) ∧ (∃ m_1 : Nat, m_1 < m ∧ Inv m_1 la_1 ll_1 lc_1 (v_1 + (1 : Int)) x00a_1 x00l_1 x00c_1 x01_1 x02_1 x0a x0l x0c x1_1 x2_1 x0_1 x1_2 g19))))
  (ifB (eqI v0 (4 : Int))
  ((CallsP Try.prog 64 #[(.agg ⟨[(.slice h0a_1 h0l_1 h0c_1), (.int .i64 h1_1), (.int .i64 h2_1)]⟩), (.int .i64 (2 : Int)), (.int .i64 v1), (.slice la ll lc)] g12 fun v g20 =>
  ∃ x00a_2 : Option Addr, ∃ x00l_2 : Nat, ∃ x00c_2 : Nat, ∃ x01_2 : Int, ∃ x02_2 : Int, ∃ x10_2 : Bool, ∃ x11_2 : Int, ∃ x2_4 : Bool, v = (.tuple ⟨[(.agg ⟨[(.slice x00a_2 x00l_2 x00c_2), (.int .i64 x01_2), (.int .i64 x02_2)]⟩), (.agg ⟨[(.bool x10_2), (.int .i64 x11_2)]⟩), (.bool x2_4)]⟩) ∧ ∀ g21 : G, Ex g20 g21 →
  R (.tuple ⟨[(.agg ⟨[(.slice x00a_2 x00l_2 x00c_2), (.int .i64 x01_2), (.int .i64 x02_2)]⟩), (.agg ⟨[(.bool x10_2), (.int .i64 x11_2)]⟩), (.bool x2_4)]⟩) g21))
  ((CallsP Try.prog 64 #[(.agg ⟨[(.slice h0a_1 h0l_1 h0c_1), (.int .i64 h1_1), (.int .i64 h2_1)]⟩), (.int .i64 (1 : Int)), (.int .i64 (0 : Int)), (.slice la ll lc)] g12 fun v g22 =>
  ∃ x00a_3 : Option Addr, ∃ x00l_3 : Nat, ∃ x00c_3 : Nat, ∃ x01_3 : Int, ∃ x02_3 : Int, ∃ x10_3 : Bool, ∃ x11_3 : Int, ∃ x2_5 : Bool, v = (.tuple ⟨[(.agg ⟨[(.slice x00a_3 x00l_3 x00c_3), (.int .i64 x01_3), (.int .i64 x02_3)]⟩), (.agg ⟨[(.bool x10_3), (.int .i64 x11_3)]⟩), (.bool x2_5)]⟩) ∧ ∀ g23 : G, Ex g22 g23 →
  R (.tuple ⟨[(.agg ⟨[(.slice x00a_3 x00l_3 x00c_3), (.int .i64 x01_3), (.int .i64 x02_3)]⟩), (.agg ⟨[(.bool x10_3), (.int .i64 x11_3)]⟩), (.bool x2_5)]⟩) g23)))))
theorem F69_eq (h0a : Option Addr) (h0l : Nat) (h0c : Nat) (h1 : Int) (h2 : Int) (v0 : Int) (v1 : Int) (v2 : ByteArray) (v3a : Option Addr) (v3l : Nat) (v3c : Nat) (v4a : Option Addr) (v4l : Nat) (v4c : Nat) (g : G) (R : Value → G → Prop) : fnG cfg69 75 [.cell 4 24, .cell 5 41, .tmp 6] c69 an69 [(.agg ⟨[(.slice h0a h0l h0c), (.int .i64 h1), (.int .i64 h2)]⟩), (.agg ⟨[(.int .i64 v0), (.int .i64 v1), (.string v2), (.slice v3a v3l v3c), (.slice v4a v4l v4c)]⟩)] g nobody R = F69 h0a h0l h0c h1 h2 v0 v1 v2 v3a v3l v3c v4a v4l v4c g R := by kernel_rfl
theorem call69 (h0a : Option Addr) (h0l : Nat) (h0c : Nat) (h1 : Int) (h2 : Int) (v0 : Int) (v1 : Int) (v2 : ByteArray) (v3a : Option Addr) (v3l : Nat) (v3c : Nat) (v4a : Option Addr) (v4l : Nat) (v4c : Nat) (g : G) (R : Value → G → Prop) (hF : F69 h0a h0l h0c h1 h2 v0 v1 v2 v3a v3l v3c v4a v4l v4c g R) : CallsG Try.prog 69 #[(.agg ⟨[(.slice h0a h0l h0c), (.int .i64 h1), (.int .i64 h2)]⟩), (.agg ⟨[(.int .i64 v0), (.int .i64 v1), (.string v2), (.slice v3a v3l v3c), (.slice v4a v4l v4c)]⟩)] g nobody R :=
  fn_soundG (c := cfg69) TTok FNSok mixed Try.func69 (show Try.f69.body = some c69 by kernel_rfl) (show Try.f69.ntmps = 75 by kernel_rfl) (show Try.f69.results.toList = [.cell 4 24, .cell 5 41, .tmp 6] by kernel_rfl) rfl ((F69_eq h0a h0l h0c h1 h2 v0 v1 v2 v3a v3l v3c v4a v4l v4c g R).mpr hF)

/- 70 pilaster/pilasterref49.Add -/
noncomputable def c70 : Code := match Try.f70.body with
  | some c => c
  | none => .skip
noncomputable def cfg70 : Cfg := ⟨Try.prog, TT, FNS, [4, 11], [(4, 4), (11, 11), (12, 4), (18, 4), (24, 4), (27, 4), (33, 4), (36, 11), (47, 11), (48, 11), (52, 11), (54, 4)], [], TCH, false, false⟩
def an70 : AnnG := (.seq .leaf (.seq (.seq .leaf (.cond (.seq .leaf .leaf) .leaf)) (.join ⟨[], [(11, 11, 0)], [(11, [(.sl), (.int .i64), (.int .i64)])]⟩ (.treeB 14 (.quiet 1 (.quiet 2 (.quiet 4 (.quiet 5 (.quiet 6 (.quiet 7 (.quiet 8 (.quiet 9 (.quiet 10 (.quiet 11 (.eff 0 (.eff 3 (.eff 12 (.eff 13 .fin .fin) (.eff 13 (.eff 12 .fin .fin) .fin)) (.eff 13 (.eff 3 (.eff 12 .fin .fin) .fin) .fin)) (.eff 13 (.eff 0 (.eff 3 (.eff 12 .fin .fin) .fin) .fin) .fin))))))))))))) (.seq (.treeB 10 (.quiet 0 (.quiet 1 (.quiet 2 (.quiet 4 (.quiet 6 (.quiet 7 (.eff 3 (.eff 5 (.eff 8 (.eff 9 .fin .fin) .fin) .fin) .fin)))))))) (.seq .leaf (.seq (.treeB 5 (.quiet 0 (.quiet 1 (.quiet 2 (.eff 3 (.eff 4 .fin .fin) (.eff 4 (.eff 3 .fin .fin) .fin)))))) .leaf))))))
def F70 (h0a : Option Addr) (h0l : Nat) (h0c : Nat) (h1 : Int) (h2 : Int) (kind : Int) (n : Int) (la : Option Addr) (ll : Nat) (lc : Nat) (g : G) (R : Value → G → Prop) : Prop :=
  ∀ g1 : G, Ex g g1 →
  ∀ g2 : G, NewD g1 g2 24 [(.slice none 0 0), (.int .i64 (0 : Int)), (.int .i64 (0 : Int))] →
  ∀ g3 : G, NewD g2 g3 41 [(.bool false), (.int .i64 (0 : Int))] →
  InI64 (h1 + (3 : Int)) ∧ InI64 ((h1 + (3 : Int)) + ((ll : Nat) : Int)) ∧ ifB (ltI h2 ((h1 + (3 : Int)) + ((ll : Nat) : Int)))
  (stOk g3.w ⟨g1.w.heap.size, 0, none⟩ 3 ∧ ¬ g3.X (Addr.block ⟨g1.w.heap.size, 0, none⟩) ∧ mutAt g3 ⟨g1.w.heap.size, 0, none⟩ 3 ∧ ((Addr.block ⟨g1.w.heap.size, 0, none⟩) < g.w.heap.size → nobody (Addr.block ⟨g1.w.heap.size, 0, none⟩)) ∧ ∀ g4 : G, StG false g3 ⟨g1.w.heap.size, 0, none⟩ [(.slice none 0 0), (.int .i64 (0 : Int)), (.int .i64 (0 : Int))] g4 →
  stOk g4.w ⟨g2.w.heap.size, 0, none⟩ 2 ∧ ¬ g4.X (Addr.block ⟨g2.w.heap.size, 0, none⟩) ∧ mutAt g4 ⟨g2.w.heap.size, 0, none⟩ 2 ∧ ((Addr.block ⟨g2.w.heap.size, 0, none⟩) < g.w.heap.size → nobody (Addr.block ⟨g2.w.heap.size, 0, none⟩)) ∧ ∀ g5 : G, StG false g4 ⟨g2.w.heap.size, 0, none⟩ [(.bool false), (.int .i64 (0 : Int))] g5 →
  ∃ r0a : Option Addr, ∃ r0l : Nat, ∃ r0c : Nat, ∃ r1 : Int, ∃ r2 : Int, g5.w.cell? ⟨g1.w.heap.size, 0, none⟩ = some (.slice r0a r0l r0c) ∧ g5.w.cell? (Addr.add ⟨g1.w.heap.size, 0, none⟩ 1) = some (.int .i64 r1) ∧ g5.w.cell? (Addr.add ⟨g1.w.heap.size, 0, none⟩ 2) = some (.int .i64 r2) ∧ ∃ r0 : Bool, ∃ r1_1 : Int, g5.w.cell? ⟨g2.w.heap.size, 0, none⟩ = some (.bool r0) ∧ g5.w.cell? (Addr.add ⟨g2.w.heap.size, 0, none⟩ 1) = some (.int .i64 r1_1) ∧ ∀ g6 : G, Ex g5 g6 →
  R (.tuple ⟨[(.agg ⟨[(.slice r0a r0l r0c), (.int .i64 r1), (.int .i64 r2)]⟩), (.agg ⟨[(.bool r0), (.int .i64 r1_1)]⟩), (.bool false)]⟩) g6)
  (∀ J : Option Addr → Nat → Nat → Int → Int → G → Prop,
  (∀ out0a : Option Addr, ∀ out0l : Nat, ∀ out0c : Nat, ∀ out1 : Int, ∀ out2 : Int, ∀ g7 : G, (∀ g8 : G, Ex g7 g8 →
  ∃ MR1 : Nat → Prop, (∀ b, MR1 b → ¬ g8.X b) ∧ (CallsP Try.prog 74 #[(.int .i64 kind)] g8 fun v g9 =>
  ∃ x0 : Bool, ∃ x1 : Int, v = (.agg ⟨[(.bool x0), (.int .i64 x1)]⟩) ∧ (CallsP Try.prog 74 #[(.int .i64 n)] g9 fun v g10 =>
  ∃ x0_1 : Bool, ∃ x1_1 : Int, v = (.agg ⟨[(.bool x0_1), (.int .i64 x1_1)]⟩) ∧ (CallsP Try.prog 74 #[(.int .i64 ((ll : Nat) : Int))] g10 fun v g11 =>
  ∃ x0_2 : Bool, ∃ x1_2 : Int, v = (.agg ⟨[(.bool x0_2), (.int .i64 x1_2)]⟩) ∧ ∀ g12 : G, NewL g11 g12 41 [(.bool x0), (.int .i64 x1), (.bool x0_1), (.int .i64 x1_1), (.bool x0_2), (.int .i64 x1_2)] →
  ∃ xa : Option Addr, ∃ xl : Nat, ∃ xc : Nat, ∃ wo1 : World, Sem.run Try.prog (Builtin.append_ #[22, 22] 22 #[(.slice out0a out0l out0c), (.slice (some ⟨g11.w.heap.size, 0, none⟩) 3 3)]) g12.w = .ok (.slice xa xl xc) wo1 ∧ ∃ g13 : G, g13.w = wo1 ∧ Stp g.w.heap.size nobody g12 g13 ∧ ∀ g14 : G, Ex g13 g14 →
  ∃ xa_1 : Option Addr, ∃ xl_1 : Nat, ∃ xc_1 : Nat, ∃ wo2 : World, Sem.run Try.prog (Builtin.append_ #[22, 22] 22 #[(.slice xa xl xc), (.slice la ll lc)]) g14.w = .ok (.slice xa_1 xl_1 xc_1) wo2 ∧ ∃ g15 : G, g15.w = wo2 ∧ Stp g.w.heap.size nobody g14 g15 ∧ ∀ g16 : G, Ex g15 g16 →
  ∃ MR2 : Nat → Prop, (∀ b, MR2 b → ¬ g16.X b) ∧ (stOk g16.w ⟨g1.w.heap.size, 0, none⟩ 3 ∧ ¬ g16.X (Addr.block ⟨g1.w.heap.size, 0, none⟩) ∧ mutAt g16 ⟨g1.w.heap.size, 0, none⟩ 3 ∧ ((Addr.block ⟨g1.w.heap.size, 0, none⟩) < g.w.heap.size → nobody (Addr.block ⟨g1.w.heap.size, 0, none⟩)) ∧ ∀ g17 : G, StG false g16 ⟨g1.w.heap.size, 0, none⟩ [(.slice xa_1 xl_1 xc_1), (.int .i64 out1), (.int .i64 out2)] g17 →
  SameBut MR2 g16 g17 ∧ stOk g17.w ⟨g2.w.heap.size, 0, none⟩ 2 ∧ ¬ g17.X (Addr.block ⟨g2.w.heap.size, 0, none⟩) ∧ mutAt g17 ⟨g2.w.heap.size, 0, none⟩ 2 ∧ ((Addr.block ⟨g2.w.heap.size, 0, none⟩) < g.w.heap.size → nobody (Addr.block ⟨g2.w.heap.size, 0, none⟩)) ∧ ∀ g18 : G, StG false g17 ⟨g2.w.heap.size, 0, none⟩ [(.bool true), (.int .i64 h1)] g18 →
  ∃ r0a_1 : Option Addr, ∃ r0l_1 : Nat, ∃ r0c_1 : Nat, ∃ r1_2 : Int, ∃ r2_1 : Int, g18.w.cell? ⟨g1.w.heap.size, 0, none⟩ = some (.slice r0a_1 r0l_1 r0c_1) ∧ g18.w.cell? (Addr.add ⟨g1.w.heap.size, 0, none⟩ 1) = some (.int .i64 r1_2) ∧ g18.w.cell? (Addr.add ⟨g1.w.heap.size, 0, none⟩ 2) = some (.int .i64 r2_1) ∧ ∃ r0_1 : Bool, ∃ r1_3 : Int, g18.w.cell? ⟨g2.w.heap.size, 0, none⟩ = some (.bool r0_1) ∧ g18.w.cell? (Addr.add ⟨g2.w.heap.size, 0, none⟩ 1) = some (.int .i64 r1_3) ∧ ∀ g19 : G, Ex g18 g19 →
  R (.tuple ⟨[(.agg ⟨[(.slice r0a_1 r0l_1 r0c_1), (.int .i64 r1_2), (.int .i64 r2_1)]⟩), (.agg ⟨[(.bool r0_1), (.int .i64 r1_3)]⟩), (.bool true)]⟩) g19) ∧ (stOk g16.w ⟨g1.w.heap.size, 0, none⟩ 3 ∧ ¬ g16.X (Addr.block ⟨g1.w.heap.size, 0, none⟩) ∧ mutAt g16 ⟨g1.w.heap.size, 0, none⟩ 3 ∧ ((Addr.block ⟨g1.w.heap.size, 0, none⟩) < g.w.heap.size → nobody (Addr.block ⟨g1.w.heap.size, 0, none⟩)) ∧ ∀ g20 : G, StG false g16 ⟨g1.w.heap.size, 0, none⟩ [(.slice xa_1 xl_1 xc_1), (.int .i64 out1), (.int .i64 out2)] g20 →
  SameBut MR2 g16 g20 ∧ stOk g20.w ⟨g2.w.heap.size, 0, none⟩ 2 ∧ ¬ g20.X (Addr.block ⟨g2.w.heap.size, 0, none⟩) ∧ mutAt g20 ⟨g2.w.heap.size, 0, none⟩ 2 ∧ ((Addr.block ⟨g2.w.heap.size, 0, none⟩) < g.w.heap.size → nobody (Addr.block ⟨g2.w.heap.size, 0, none⟩)) ∧ ∀ g21 : G, StG false g20 ⟨g2.w.heap.size, 0, none⟩ [(.bool true), (.int .i64 h1)] g21 →
  ∃ r0a_2 : Option Addr, ∃ r0l_2 : Nat, ∃ r0c_2 : Nat, ∃ r1_4 : Int, ∃ r2_2 : Int, g21.w.cell? ⟨g1.w.heap.size, 0, none⟩ = some (.slice r0a_2 r0l_2 r0c_2) ∧ g21.w.cell? (Addr.add ⟨g1.w.heap.size, 0, none⟩ 1) = some (.int .i64 r1_4) ∧ g21.w.cell? (Addr.add ⟨g1.w.heap.size, 0, none⟩ 2) = some (.int .i64 r2_2) ∧ ∃ r0_2 : Bool, ∃ r1_5 : Int, g21.w.cell? ⟨g2.w.heap.size, 0, none⟩ = some (.bool r0_2) ∧ g21.w.cell? (Addr.add ⟨g2.w.heap.size, 0, none⟩ 1) = some (.int .i64 r1_5) ∧ ∀ g22 : G, Ex g21 g22 →
  R (.tuple ⟨[(.agg ⟨[(.slice r0a_2 r0l_2 r0c_2), (.int .i64 r1_4), (.int .i64 r2_2)]⟩), (.agg ⟨[(.bool r0_2), (.int .i64 r1_5)]⟩), (.bool true)]⟩) g22))))) → J out0a out0l out0c out1 out2 g7) →
  ∀ g23 : G, Ex g3 g23 →
  ∃ MR3 : Nat → Prop, (∀ b, MR3 b → ¬ g23.X b) ∧ InI64 (h1 + (3 : Int)) ∧ InI64 ((h1 + (3 : Int)) + ((ll : Nat) : Int)) ∧ (∀ g24 : G, NewL g23 g24 41 [] →
  (∃ xa_2 : Option Addr, ∃ xl_2 : Nat, ∃ xc_2 : Nat, ∃ wo3 : World, Sem.run Try.prog (Builtin.append_ #[22, 22] 22 #[(.slice (some ⟨g23.w.heap.size, 0, none⟩) 0 0), (.slice h0a h0l h0c)]) g24.w = .ok (.slice xa_2 xl_2 xc_2) wo3 ∧ ∃ g25 : G, g25.w = wo3 ∧ Stp g.w.heap.size nobody g24 g25 ∧ SameBut MR3 g23 g25 ∧ (∀ g26 : G, Ex g25 g26 →
  J xa_2 xl_2 xc_2 ((h1 + (3 : Int)) + ((ll : Nat) : Int)) h2 g26) ∧ (∀ g27 : G, Ex g25 g27 →
  ∀ g28 : G, Ex g27 g28 →
  J xa_2 xl_2 xc_2 ((h1 + (3 : Int)) + ((ll : Nat) : Int)) h2 g28)) ∧ (∀ g29 : G, Ex g24 g29 →
  ∃ xa_3 : Option Addr, ∃ xl_3 : Nat, ∃ xc_3 : Nat, ∃ wo4 : World, Sem.run Try.prog (Builtin.append_ #[22, 22] 22 #[(.slice (some ⟨g23.w.heap.size, 0, none⟩) 0 0), (.slice h0a h0l h0c)]) g29.w = .ok (.slice xa_3 xl_3 xc_3) wo4 ∧ ∃ g30 : G, g30.w = wo4 ∧ Stp g.w.heap.size nobody g29 g30 ∧ SameBut MR3 g23 g30 ∧ ∀ g31 : G, Ex g30 g31 →
  J xa_3 xl_3 xc_3 ((h1 + (3 : Int)) + ((ll : Nat) : Int)) h2 g31)) ∧ (∀ g32 : G, Ex g23 g32 →
  ∀ g33 : G, NewL g32 g33 41 [] →
  ∃ xa_4 : Option Addr, ∃ xl_4 : Nat, ∃ xc_4 : Nat, ∃ wo5 : World, Sem.run Try.prog (Builtin.append_ #[22, 22] 22 #[(.slice (some ⟨g32.w.heap.size, 0, none⟩) 0 0), (.slice h0a h0l h0c)]) g33.w = .ok (.slice xa_4 xl_4 xc_4) wo5 ∧ ∃ g34 : G, g34.w = wo5 ∧ Stp g.w.heap.size nobody g33 g34 ∧ SameBut MR3 g23 g34 ∧ ∀ g35 : G, Ex g34 g35 →
  J xa_4 xl_4 xc_4 ((h1 + (3 : Int)) + ((ll : Nat) : Int)) h2 g35))
theorem F70_eq (h0a : Option Addr) (h0l : Nat) (h0c : Nat) (h1 : Int) (h2 : Int) (kind : Int) (n : Int) (la : Option Addr) (ll : Nat) (lc : Nat) (g : G) (R : Value → G → Prop) : fnG cfg70 57 [.cell 8 24, .cell 9 41, .tmp 10] c70 an70 [(.agg ⟨[(.slice h0a h0l h0c), (.int .i64 h1), (.int .i64 h2)]⟩), (.int .i64 kind), (.int .i64 n), (.slice la ll lc)] g nobody R = F70 h0a h0l h0c h1 h2 kind n la ll lc g R := by kernel_rfl
theorem call70 (h0a : Option Addr) (h0l : Nat) (h0c : Nat) (h1 : Int) (h2 : Int) (kind : Int) (n : Int) (la : Option Addr) (ll : Nat) (lc : Nat) (g : G) (R : Value → G → Prop) (hF : F70 h0a h0l h0c h1 h2 kind n la ll lc g R) : CallsG Try.prog 70 #[(.agg ⟨[(.slice h0a h0l h0c), (.int .i64 h1), (.int .i64 h2)]⟩), (.int .i64 kind), (.int .i64 n), (.slice la ll lc)] g nobody R :=
  fn_soundG (c := cfg70) TTok FNSok mixed Try.func70 (show Try.f70.body = some c70 by kernel_rfl) (show Try.f70.ntmps = 57 by kernel_rfl) (show Try.f70.results.toList = [.cell 8 24, .cell 9 41, .tmp 10] by kernel_rfl) rfl ((F70_eq h0a h0l h0c h1 h2 kind n la ll lc g R).mpr hF)

/- 71 pilaster/pilasterref49.bytes -/
noncomputable def c71 : Code := match Try.f71.body with
  | some c => c
  | none => .skip
noncomputable def cfg71 : Cfg := ⟨Try.prog, TT, FNS, [], [], [], TCH, false, false⟩
def an71 : AnnG := (.seq .leaf (.seq .leaf (.seq (.seq .leaf (.blk (.loop ⟨[(3, .sl), (4, .int .i64)], [], []⟩ (.seq (.seq .leaf (.cond .leaf .leaf)) (.seq (.blk .leaf) .leaf))))) (.seq .leaf .leaf))))
def F71 (s : ByteArray) (g : G) (R : Value → G → Prop) : Prop :=
  ∃ Inv : Nat → Option Addr → Nat → Nat → Int → G → Prop, ((∃ m0 : Nat, Inv m0 none 0 0 (0 : Int) g)) ∧
  ∀ m : Nat, ∀ outa : Option Addr, ∀ outl : Nat, ∀ outc : Nat, ∀ i : Int, ∀ g1 : G, Le g g1 → Inv m outa outl outc i g1 →
  ifB (ltI i ((s.size : Nat) : Int))
  (∃ b : UInt8, (0 ≤ i ∧ s[Int.toNat i]? = some b) ∧ InI64 ((b.toNat : Nat) : Int) ∧ (CallsP Try.prog 74 #[(.int .i64 ((b.toNat : Nat) : Int))] g1 fun v g2 =>
  ∃ x0 : Bool, ∃ x1 : Int, v = (.agg ⟨[(.bool x0), (.int .i64 x1)]⟩) ∧ ∀ g3 : G, NewL g2 g3 41 [(.bool x0), (.int .i64 x1)] →
  ∃ outa_1 : Option Addr, ∃ outl_1 : Nat, ∃ outc_1 : Nat, ∃ wo1 : World, Sem.run Try.prog (Builtin.append_ #[22, 22] 22 #[(.slice outa outl outc), (.slice (some ⟨g2.w.heap.size, 0, none⟩) 1 1)]) g3.w = .ok (.slice outa_1 outl_1 outc_1) wo1 ∧ ∃ g4 : G, g4.w = wo1 ∧ Stp g.w.heap.size nobody g3 g4 ∧ InI64 (i + (1 : Int)) ∧ (∃ m_1 : Nat, m_1 < m ∧ Inv m_1 outa_1 outl_1 outc_1 (i + (1 : Int)) g4)))
  (∀ g5 : G, Ex g1 g5 →
  R (.slice outa outl outc) g5)
theorem F71_eq (s : ByteArray) (g : G) (R : Value → G → Prop) : fnG cfg71 20 [.tmp 2] c71 an71 [(.string s)] g nobody R = F71 s g R := by kernel_rfl
theorem call71 (s : ByteArray) (g : G) (R : Value → G → Prop) (hF : F71 s g R) : CallsG Try.prog 71 #[(.string s)] g nobody R :=
  fn_soundG (c := cfg71) TTok FNSok mixed Try.func71 (show Try.f71.body = some c71 by kernel_rfl) (show Try.f71.ntmps = 20 by kernel_rfl) (show Try.f71.results.toList = [.tmp 2] by kernel_rfl) rfl ((F71_eq s g R).mpr hF)

/- 72 pilaster/pilasterref49.count -/
noncomputable def c72 : Code := match Try.f72.body with
  | some c => c
  | none => .skip
noncomputable def cfg72 : Cfg := ⟨Try.prog, TT, FNS, [3], [(3, 3), (13, 3), (25, 3)], [], TCH, false, false⟩
def an72 : AnnG := (.seq .leaf (.seq (.seq .leaf (.cond (.seq .leaf .leaf) .leaf)) (.seq .leaf (.seq (.seq .leaf (.blk (.loop ⟨[(7, .int .i64), (8, .int .i64)], [], []⟩ (.join ⟨[], [], []⟩ (.seq .leaf (.cond .leaf .leaf)) (.seq (.blk .leaf) .leaf))))) (.seq .leaf .leaf)))))
def F72 (v0 : Int) (v1 : Int) (v2 : ByteArray) (v3a : Option Addr) (v3l : Nat) (v3c : Nat) (v4a : Option Addr) (v4l : Nat) (v4c : Nat) (left : Int) (depth : Int) (g : G) (R : Value → G → Prop) : Prop :=
  ifB (ltI (400 : Int) depth)
  (∀ g1 : G, Ex g g1 →
  R (.int .i64 left) g1)
  (∃ Inv : Nat → Int → Int → G → Prop, (∀ g2 : G, Ex g g2 →
  (∃ m0 : Nat, Inv m0 (1 : Int) (0 : Int) g2)) ∧
  ∀ m : Nat, ∀ n : Int, ∀ i : Int, ∀ g3 : G, Le g g3 → Inv m n i g3 →
  ∀ J : G → Prop,
  (∀ g4 : G, ((0 ≤ i ∧ i < ((v4l : Nat) : Int)) ∧ derefP v4a fun ad => ∃ x0 : Int, ∃ x1 : Int, ∃ x2 : ByteArray, ∃ x3a : Option Addr, ∃ x3l : Nat, ∃ x3c : Nat, ∃ x4a : Option Addr, ∃ x4l : Nat, ∃ x4c : Nat, g4.w.cell? (Addr.add ad (Int.toNat i * 5)) = some (.int .i64 x0) ∧ g4.w.cell? (Addr.add (Addr.add ad (Int.toNat i * 5)) 1) = some (.int .i64 x1) ∧ g4.w.cell? (Addr.add (Addr.add ad (Int.toNat i * 5)) 2) = some (.string x2) ∧ g4.w.cell? (Addr.add (Addr.add ad (Int.toNat i * 5)) 3) = some (.slice x3a x3l x3c) ∧ g4.w.cell? (Addr.add (Addr.add ad (Int.toNat i * 5)) 4) = some (.slice x4a x4l x4c) ∧ InI64 (left - n) ∧ InI64 (depth + (1 : Int)) ∧ (CallsP Try.prog 72 #[(.agg ⟨[(.int .i64 x0), (.int .i64 x1), (.string x2), (.slice x3a x3l x3c), (.slice x4a x4l x4c)]⟩), (.int .i64 (left - n)), (.int .i64 (depth + (1 : Int)))] g4 fun v g5 =>
  ∃ x : Int, v = (.int .i64 x) ∧ InI64 (n + x) ∧ InI64 (i + (1 : Int)) ∧ (∃ m_1 : Nat, m_1 < m ∧ Inv m_1 (n + x) (i + (1 : Int)) g5))) → J g4) →
  ifB (ltI i ((v4l : Nat) : Int))
  (ifB (ltI n left)
  (J g3)
  (∀ g6 : G, Ex g3 g6 →
  R (.int .i64 n) g6))
  (∀ g7 : G, Ex g3 g7 →
  R (.int .i64 n) g7))
theorem F72_eq (v0 : Int) (v1 : Int) (v2 : ByteArray) (v3a : Option Addr) (v3l : Nat) (v3c : Nat) (v4a : Option Addr) (v4l : Nat) (v4c : Nat) (left : Int) (depth : Int) (g : G) (R : Value → G → Prop) : fnG cfg72 38 [.tmp 6] c72 an72 [(.agg ⟨[(.int .i64 v0), (.int .i64 v1), (.string v2), (.slice v3a v3l v3c), (.slice v4a v4l v4c)]⟩), (.int .i64 left), (.int .i64 depth)] g nobody R = F72 v0 v1 v2 v3a v3l v3c v4a v4l v4c left depth g R := by kernel_rfl
theorem call72 (v0 : Int) (v1 : Int) (v2 : ByteArray) (v3a : Option Addr) (v3l : Nat) (v3c : Nat) (v4a : Option Addr) (v4l : Nat) (v4c : Nat) (left : Int) (depth : Int) (g : G) (R : Value → G → Prop) (hF : F72 v0 v1 v2 v3a v3l v3c v4a v4l v4c left depth g R) : CallsG Try.prog 72 #[(.agg ⟨[(.int .i64 v0), (.int .i64 v1), (.string v2), (.slice v3a v3l v3c), (.slice v4a v4l v4c)]⟩), (.int .i64 left), (.int .i64 depth)] g nobody R :=
  fn_soundG (c := cfg72) TTok FNSok mixed Try.func72 (show Try.f72.body = some c72 by kernel_rfl) (show Try.f72.ntmps = 38 by kernel_rfl) (show Try.f72.results.toList = [.tmp 6] by kernel_rfl) rfl ((F72_eq v0 v1 v2 v3a v3l v3c v4a v4l v4c left depth g R).mpr hF)

/- 73 pilaster/pilasterref49.data -/
noncomputable def c73 : Code := match Try.f73.body with
  | some c => c
  | none => .skip
noncomputable def cfg73 : Cfg := ⟨Try.prog, TT, FNS, [1], [(1, 1), (5, 1), (9, 1), (15, 1), (20, 1), (25, 1), (34, 1), (39, 1), (45, 1), (54, 1), (59, 1), (64, 1), (73, 1), (78, 1), (83, 1), (89, 1), (98, 1)], [], TCH, false, false⟩
def an73 : AnnG := (.seq .leaf (.seq .leaf (.join ⟨[(3, .bool)], [], []⟩ (.seq .leaf (.blk (.seq .leaf (.cond (.seq .leaf .leaf) (.seq .leaf (.cond (.seq .leaf .leaf) (.seq .leaf (.cond .leaf (.seq .leaf (.cond .leaf (.seq .leaf .leaf))))))))))) (.seq (.seq .leaf (.blk (.loop ⟨[(3, .bool), (4, .int .i64)], [], []⟩ (.join ⟨[], [], []⟩ (.seq .leaf (.cond .leaf .leaf)) (.seq (.blk .leaf) .leaf))))) (.seq .leaf .leaf)))))
def F73 (v0 : Int) (v1 : Int) (v2 : ByteArray) (v3a : Option Addr) (v3l : Nat) (v3c : Nat) (v4a : Option Addr) (v4l : Nat) (v4c : Nat) (g : G) (R : Value → G → Prop) : Prop :=
  ∀ J : Bool → G → Prop,
  (∀ ok : Bool, ∀ g1 : G, (∃ Inv : Nat → Bool → Int → G → Prop, ((∃ m0 : Nat, Inv m0 ok (0 : Int) g1)) ∧
  ∀ m : Nat, ∀ ok_1 : Bool, ∀ i : Int, ∀ g2 : G, Le g1 g2 → Inv m ok_1 i g2 →
  ∀ J_1 : G → Prop,
  (∀ g3 : G, ((0 ≤ i ∧ i < ((v4l : Nat) : Int)) ∧ derefP v4a fun ad => ∃ x0 : Int, ∃ x1 : Int, ∃ x2 : ByteArray, ∃ x3a : Option Addr, ∃ x3l : Nat, ∃ x3c : Nat, ∃ x4a : Option Addr, ∃ x4l : Nat, ∃ x4c : Nat, g3.w.cell? (Addr.add ad (Int.toNat i * 5)) = some (.int .i64 x0) ∧ g3.w.cell? (Addr.add (Addr.add ad (Int.toNat i * 5)) 1) = some (.int .i64 x1) ∧ g3.w.cell? (Addr.add (Addr.add ad (Int.toNat i * 5)) 2) = some (.string x2) ∧ g3.w.cell? (Addr.add (Addr.add ad (Int.toNat i * 5)) 3) = some (.slice x3a x3l x3c) ∧ g3.w.cell? (Addr.add (Addr.add ad (Int.toNat i * 5)) 4) = some (.slice x4a x4l x4c) ∧ (CallsP Try.prog 73 #[(.agg ⟨[(.int .i64 x0), (.int .i64 x1), (.string x2), (.slice x3a x3l x3c), (.slice x4a x4l x4c)]⟩)] g3 fun v g4 =>
  ∃ ok_2 : Bool, v = (.bool ok_2) ∧ InI64 (i + (1 : Int)) ∧ (∃ m_1 : Nat, m_1 < m ∧ Inv m_1 ok_2 (i + (1 : Int)) g4))) → J_1 g3) →
  ifB (ltI i ((v4l : Nat) : Int))
  (ifB ok_1
  (J_1 g2)
  (∀ g5 : G, Ex g2 g5 →
  R (.bool ok_1) g5))
  (∀ g6 : G, Ex g2 g6 →
  R (.bool ok_1) g6)) → J ok g1) →
  ifB (eqI v0 (1 : Int))
  (ifB (eqI ((v3l : Nat) : Int) (0 : Int))
  (∀ g7 : G, Ex g g7 →
  (CallsP Try.prog 95 #[(.int .i64 v1)] g7 fun v g8 =>
  ∃ x : Bool, v = (.bool x) ∧ ifB x
  (ifB (strEq v2 (bs []))
  (∀ g9 : G, Ex g8 g9 →
  R (.bool (eqI ((v4l : Nat) : Int) (0 : Int))) g9)
  (∀ g10 : G, Ex g8 g10 →
  R (.bool false) g10))
  (∀ g11 : G, Ex g8 g11 →
  R (.bool false) g11)))
  (∀ g12 : G, Ex g g12 →
  R (.bool false) g12))
  (ifB (eqI v0 (2 : Int))
  (ifB (eqI ((v3l : Nat) : Int) (0 : Int))
  (ifB (eqI v1 (0 : Int))
  (ifB (leI ((v2.size : Nat) : Int) (16384 : Int))
  (∀ g13 : G, Ex g g13 →
  R (.bool (eqI ((v4l : Nat) : Int) (0 : Int))) g13)
  (∀ g14 : G, Ex g g14 →
  R (.bool false) g14))
  (∀ g15 : G, Ex g g15 →
  R (.bool false) g15))
  (∀ g16 : G, Ex g g16 →
  R (.bool false) g16))
  (ifB (eqI v0 (3 : Int))
  (ifB (eqI ((v3l : Nat) : Int) (0 : Int))
  (ifB (eqI v1 (0 : Int))
  (ifB (strEq v2 (bs []))
  (∀ g17 : G, Ex g g17 →
  J (leI ((v4l : Nat) : Int) (1000 : Int)) g17)
  (∀ g18 : G, Ex g g18 →
  J false g18))
  (∀ g19 : G, Ex g g19 →
  J false g19))
  (∀ g20 : G, Ex g g20 →
  J false g20))
  (ifB (eqI v0 (4 : Int))
  (ifB (eqI ((v3l : Nat) : Int) (0 : Int))
  (∀ g21 : G, Ex g g21 →
  (CallsP Try.prog 61 #[(.int .i64 v1), (.int .i64 (0 : Int)), (.int .i64 (1000 : Int))] g21 fun v g22 =>
  ∃ x_1 : Bool, v = (.bool x_1) ∧ ifB x_1
  (ifB (strEq v2 (bs []))
  (J (eqI ((v4l : Nat) : Int) (1 : Int)) g22)
  (J false g22))
  (J false g22)))
  (∀ g23 : G, Ex g g23 →
  J false g23))
  (∀ g24 : G, Ex g g24 →
  R (.bool false) g24))))
theorem F73_eq (v0 : Int) (v1 : Int) (v2 : ByteArray) (v3a : Option Addr) (v3l : Nat) (v3c : Nat) (v4a : Option Addr) (v4l : Nat) (v4c : Nat) (g : G) (R : Value → G → Prop) : fnG cfg73 105 [.tmp 2] c73 an73 [(.agg ⟨[(.int .i64 v0), (.int .i64 v1), (.string v2), (.slice v3a v3l v3c), (.slice v4a v4l v4c)]⟩)] g nobody R = F73 v0 v1 v2 v3a v3l v3c v4a v4l v4c g R := by kernel_rfl
theorem call73 (v0 : Int) (v1 : Int) (v2 : ByteArray) (v3a : Option Addr) (v3l : Nat) (v3c : Nat) (v4a : Option Addr) (v4l : Nat) (v4c : Nat) (g : G) (R : Value → G → Prop) (hF : F73 v0 v1 v2 v3a v3l v3c v4a v4l v4c g R) : CallsG Try.prog 73 #[(.agg ⟨[(.int .i64 v0), (.int .i64 v1), (.string v2), (.slice v3a v3l v3c), (.slice v4a v4l v4c)]⟩)] g nobody R :=
  fn_soundG (c := cfg73) TTok FNSok mixed Try.func73 (show Try.f73.body = some c73 by kernel_rfl) (show Try.f73.ntmps = 105 by kernel_rfl) (show Try.f73.results.toList = [.tmp 2] by kernel_rfl) rfl ((F73_eq v0 v1 v2 v3a v3l v3c v4a v4l v4c g R).mpr hF)

/- 74 pilaster/pilasterref49.number -/
noncomputable def c74 : Code := match Try.f74.body with
  | some c => c
  | none => .skip
noncomputable def cfg74 : Cfg := ⟨Try.prog, TT, FNS, [2], [(2, 2)], [], TCH, false, false⟩
def an74 : AnnG := (.seq .leaf (.seq .leaf .leaf))
def F74 (n : Int) (g : G) (R : Value → G → Prop) : Prop :=
  ∀ g1 : G, Ex g g1 →
  ∀ g2 : G, Ex g1 g2 →
  R (.agg ⟨[(.bool false), (.int .i64 n)]⟩) g2
theorem F74_eq (n : Int) (g : G) (R : Value → G → Prop) : fnG cfg74 5 [.cell 2 41] c74 an74 [(.int .i64 n)] g nobody R = F74 n g R := by kernel_rfl
theorem call74 (n : Int) (g : G) (R : Value → G → Prop) (hF : F74 n g R) : CallsG Try.prog 74 #[(.int .i64 n)] g nobody R :=
  fn_soundG (c := cfg74) TTok FNSok mixed Try.func74 (show Try.f74.body = some c74 by kernel_rfl) (show Try.f74.ntmps = 5 by kernel_rfl) (show Try.f74.results.toList = [.cell 2 41] by kernel_rfl) rfl ((F74_eq n g R).mpr hF)

/- 75 pilaster/heap.right -/
noncomputable def c75 : Code := match Try.f75.body with
  | some c => c
  | none => .skip
noncomputable def cfg75 : Cfg := ⟨Try.prog, TT, FNS, [], [], [], TCH, false, false⟩
def an75 : AnnG := (.seq .leaf (.seq (.seq .leaf (.cond (.seq .leaf .leaf) .leaf)) (.seq (.seq .leaf (.blk (.seq .leaf (.cond (.seq .leaf .leaf) (.seq .leaf (.cond (.seq .leaf .leaf) (.seq .leaf (.cond (.seq .leaf .leaf) .leaf)))))))) (.seq .leaf .leaf))))
def F75 (kind : Int) (n : Int) (la : Option Addr) (ll : Nat) (lc : Nat) (g : G) (R : Value → G → Prop) : Prop :=
  (CallsP Try.prog 59 #[(.int .i64 kind), (.int .i64 ((ll : Nat) : Int))] g fun v g1 =>
  ∃ x : Bool, v = (.bool x) ∧ ifB (!x)
  (∀ g2 : G, Ex g1 g2 →
  R (.bool false) g2)
  (ifB (eqI kind (1 : Int))
  (∀ g3 : G, Ex g1 g3 →
  R (.bool (eqI n (0 : Int))) g3)
  (ifB (eqI kind (2 : Int))
  (ifB (leI (0 : Int) n)
  (∀ g4 : G, Ex g1 g4 →
  R (.bool (leI n (1000 : Int))) g4)
  (∀ g5 : G, Ex g1 g5 →
  R (.bool false) g5))
  (ifB (eqI kind (3 : Int))
  (ifB (leI (0 : Int) n)
  (∀ g6 : G, Ex g1 g6 →
  R (.bool (leI n (4096 : Int))) g6)
  (∀ g7 : G, Ex g1 g7 →
  R (.bool false) g7))
  (ifB (eqI n ((ll : Nat) : Int))
  ((CallsP Try.prog 76 #[(.slice la ll lc), (.func (.func 102) #[] #[])] g1 fun v g8 =>
  ∃ x_1 : Bool, v = (.bool x_1) ∧ ∀ g9 : G, Ex g8 g9 →
  R (.bool (!x_1)) g9))
  (∀ g10 : G, Ex g1 g10 →
  R (.bool false) g10))))))
theorem F75_eq (kind : Int) (n : Int) (la : Option Addr) (ll : Nat) (lc : Nat) (g : G) (R : Value → G → Prop) : fnG cfg75 42 [.tmp 6] c75 an75 [(.int .i64 kind), (.int .i64 n), (.slice la ll lc)] g nobody R = F75 kind n la ll lc g R := by kernel_rfl
theorem call75 (kind : Int) (n : Int) (la : Option Addr) (ll : Nat) (lc : Nat) (g : G) (R : Value → G → Prop) (hF : F75 kind n la ll lc g R) : CallsG Try.prog 75 #[(.int .i64 kind), (.int .i64 n), (.slice la ll lc)] g nobody R :=
  fn_soundG (c := cfg75) TTok FNSok mixed Try.func75 (show Try.f75.body = some c75 by kernel_rfl) (show Try.f75.ntmps = 42 by kernel_rfl) (show Try.f75.results.toList = [.tmp 6] by kernel_rfl) rfl ((F75_eq kind n la ll lc g R).mpr hF)

/- 76 slices.ContainsFunc[[]pilaster/api.Word,pilaster/api.Word] -/
noncomputable def c76 : Code := match Try.f76.body with
  | some c => c
  | none => .skip
noncomputable def cfg76 : Cfg := ⟨Try.prog, TT, FNS, [], [], [], TCH, false, false⟩
def an76 : AnnG := (.seq .leaf (.seq .leaf .leaf))
def F76 (sa : Option Addr) (sl : Nat) (sc : Nat) (ff : FuncId) (fc : Array Value) (g : G) (R : Value → G → Prop) : Prop :=
  (CallsP Try.prog 103 #[(.slice sa sl sc), (.func (.func ff) #[] fc)] g fun v g1 =>
  ∃ x : Int, v = (.int .i64 x) ∧ ∀ g2 : G, Ex g1 g2 →
  R (.bool (leI (0 : Int) x)) g2)
theorem F76_eq (sa : Option Addr) (sl : Nat) (sc : Nat) (ff : FuncId) (fc : Array Value) (g : G) (R : Value → G → Prop) : fnG cfg76 9 [.tmp 4] c76 an76 [(.slice sa sl sc), (.func (.func ff) #[] fc)] g nobody R = F76 sa sl sc ff fc g R := by kernel_rfl
theorem call76 (sa : Option Addr) (sl : Nat) (sc : Nat) (ff : FuncId) (fc : Array Value) (g : G) (R : Value → G → Prop) (hF : F76 sa sl sc ff fc g R) : CallsG Try.prog 76 #[(.slice sa sl sc), (.func (.func ff) #[] fc)] g nobody R :=
  fn_soundG (c := cfg76) TTok FNSok mixed Try.func76 (show Try.f76.body = some c76 by kernel_rfl) (show Try.f76.ntmps = 9 by kernel_rfl) (show Try.f76.results.toList = [.tmp 4] by kernel_rfl) rfl ((F76_eq sa sl sc ff fc g R).mpr hF)

/- 77 pilaster/heap.Alloc$1 -/
noncomputable def c77 : Code := match Try.f77.body with
  | some c => c
  | none => .skip
noncomputable def cfg77 : Cfg := ⟨Try.prog, TT, FNS, [2], [(2, 2)], [], TCH, false, false⟩
def an77 : AnnG := (.seq .leaf (.seq .leaf .leaf))
def F77 (w0 : Bool) (w1 : Int) (c0 : Option Addr) (g : G) (R : Value → G → Prop) : Prop :=
  ∀ g1 : G, Ex g g1 →
  derefP c0 fun ad => ∃ xa : Option Addr, ∃ xl : Nat, ∃ xc : Nat, g1.w.cell? ad = some (.slice xa xl xc) ∧ (CallsP Try.prog 78 #[(.slice xa xl xc), (.agg ⟨[(.bool w0), (.int .i64 w1)]⟩)] g1 fun v g2 =>
  ∃ x : Bool, v = (.bool x) ∧ ∀ g3 : G, Ex g2 g3 →
  R (.bool (!x)) g3)
theorem F77_eq (w0 : Bool) (w1 : Int) (c0 : Option Addr) (g : G) (R : Value → G → Prop) : fnG cfg77 8 [.tmp 3] c77 an77 [(.agg ⟨[(.bool w0), (.int .i64 w1)]⟩), (.pointer c0)] g nobody R = F77 w0 w1 c0 g R := by kernel_rfl
theorem call77 (w0 : Bool) (w1 : Int) (c0 : Option Addr) (g : G) (R : Value → G → Prop) (hF : F77 w0 w1 c0 g R) : CallsG Try.prog 77 #[(.agg ⟨[(.bool w0), (.int .i64 w1)]⟩), (.pointer c0)] g nobody R :=
  fn_soundG (c := cfg77) TTok FNSok mixed Try.func77 (show Try.f77.body = some c77 by kernel_rfl) (show Try.f77.ntmps = 8 by kernel_rfl) (show Try.f77.results.toList = [.tmp 3] by kernel_rfl) rfl ((F77_eq w0 w1 c0 g R).mpr hF)

/- 78 pilaster/heap.fits -/
noncomputable def c78 : Code := match Try.f78.body with
  | some c => c
  | none => .skip
noncomputable def cfg78 : Cfg := ⟨Try.prog, TT, FNS, [3], [(3, 3), (7, 3), (10, 3), (15, 3)], [], TCH, false, false⟩
def an78 : AnnG := (.seq .leaf (.seq (.seq .leaf (.cond (.seq .leaf .leaf) .leaf)) (.seq .leaf (.seq .leaf .leaf))))
def F78 (la : Option Addr) (ll : Nat) (lc : Nat) (w0 : Bool) (w1 : Int) (g : G) (R : Value → G → Prop) : Prop :=
  ifB (!w0)
  (∀ g1 : G, Ex g g1 →
  (CallsP Try.prog 99 #[(.int .i64 w1)] g1 fun v g2 =>
  ∃ x : Bool, v = (.bool x) ∧ ∀ g3 : G, Ex g2 g3 →
  R (.bool x) g3))
  (∀ g4 : G, Ex g g4 →
  (CallsP Try.prog 104 #[(.slice la ll lc), (.int .i64 w1)] g4 fun v g5 =>
  ∃ x0 : Int, ∃ x1 : Bool, v = (.tuple ⟨[(.int .i64 x0), (.bool x1)]⟩) ∧ ∀ g6 : G, Ex g5 g6 →
  R (.bool x1) g6))
theorem F78_eq (la : Option Addr) (ll : Nat) (lc : Nat) (w0 : Bool) (w1 : Int) (g : G) (R : Value → G → Prop) : fnG cfg78 21 [.tmp 4] c78 an78 [(.slice la ll lc), (.agg ⟨[(.bool w0), (.int .i64 w1)]⟩)] g nobody R = F78 la ll lc w0 w1 g R := by kernel_rfl
theorem call78 (la : Option Addr) (ll : Nat) (lc : Nat) (w0 : Bool) (w1 : Int) (g : G) (R : Value → G → Prop) (hF : F78 la ll lc w0 w1 g R) : CallsG Try.prog 78 #[(.slice la ll lc), (.agg ⟨[(.bool w0), (.int .i64 w1)]⟩)] g nobody R :=
  fn_soundG (c := cfg78) TTok FNSok mixed Try.func78 (show Try.f78.body = some c78 by kernel_rfl) (show Try.f78.ntmps = 21 by kernel_rfl) (show Try.f78.results.toList = [.tmp 4] by kernel_rfl) rfl ((F78_eq la ll lc w0 w1 g R).mpr hF)

/- 79 pilaster/pilasterref49.Right -/
noncomputable def c79 : Code := match Try.f79.body with
  | some c => c
  | none => .skip
noncomputable def cfg79 : Cfg := ⟨Try.prog, TT, FNS, [], [], [], TCH, false, false⟩
def an79 : AnnG := (.seq .leaf (.seq (.seq .leaf (.blk (.seq .leaf (.cond (.seq .leaf .leaf) (.seq .leaf (.cond (.seq .leaf .leaf) (.seq .leaf (.cond (.seq .leaf .leaf) (.seq .leaf (.cond (.seq (.seq .leaf (.blk (.loop ⟨[(7, .int .i64)], [], []⟩ (.seq (.seq .leaf (.cond .leaf .leaf)) (.seq (.blk (.seq .leaf (.cond (.seq .leaf .leaf) .leaf))) .leaf))))) (.seq .leaf .leaf)) .leaf)))))))))) (.seq .leaf .leaf)))
def F79 (kind : Int) (n : Int) (la : Option Addr) (ll : Nat) (lc : Nat) (g : G) (R : Value → G → Prop) : Prop :=
  ifB (eqI kind (1 : Int))
  (ifB (eqI n (0 : Int))
  (∀ g1 : G, Ex g g1 →
  R (.bool (leI ((ll : Nat) : Int) (1000 : Int))) g1)
  (∀ g2 : G, Ex g g2 →
  R (.bool false) g2))
  (ifB (eqI kind (2 : Int))
  ((CallsP Try.prog 61 #[(.int .i64 n), (.int .i64 (0 : Int)), (.int .i64 (1000 : Int))] g fun v g3 =>
  ∃ x : Bool, v = (.bool x) ∧ ifB x
  (∀ g4 : G, Ex g3 g4 →
  R (.bool (eqI ((ll : Nat) : Int) (1 : Int))) g4)
  (∀ g5 : G, Ex g3 g5 →
  R (.bool false) g5)))
  (ifB (eqI kind (3 : Int))
  ((CallsP Try.prog 61 #[(.int .i64 n), (.int .i64 (0 : Int)), (.int .i64 (4096 : Int))] g fun v g6 =>
  ∃ x_1 : Bool, v = (.bool x_1) ∧ ifB x_1
  (∀ g7 : G, Ex g6 g7 →
  R (.bool (leI ((ll : Nat) : Int) (1000 : Int))) g7)
  (∀ g8 : G, Ex g6 g8 →
  R (.bool false) g8)))
  (ifB (eqI kind (4 : Int))
  (∃ Inv : Nat → Int → G → Prop, ((∃ m0 : Nat, Inv m0 (0 : Int) g)) ∧
  ∀ m : Nat, ∀ i : Int, ∀ g9 : G, Le g g9 → Inv m i g9 →
  ifB (ltI i ((ll : Nat) : Int))
  ((0 ≤ i ∧ i < ((ll : Nat) : Int)) ∧ derefP la fun ad => ∃ x_2 : Bool, g9.w.cell? (Addr.add ad (Int.toNat i * 2)) = some (.bool x_2) ∧ ifB x_2
  (∀ g10 : G, Ex g9 g10 →
  R (.bool false) g10)
  ((0 ≤ i ∧ i < ((ll : Nat) : Int)) ∧ derefP la fun ad_1 => ∃ x_3 : Int, g9.w.cell? (Addr.add (Addr.add ad_1 (Int.toNat i * 2)) 1) = some (.int .i64 x_3) ∧ (CallsP Try.prog 61 #[(.int .i64 x_3), (.int .i64 (0 : Int)), (.int .i64 (255 : Int))] g9 fun v g11 =>
  ∃ x_4 : Bool, v = (.bool x_4) ∧ ifB (!x_4)
  (∀ g12 : G, Ex g11 g12 →
  R (.bool false) g12)
  (InI64 (i + (1 : Int)) ∧ (∃ m_1 : Nat, m_1 < m ∧ Inv m_1 (i + (1 : Int)) g11)))))
  (ifB (eqI n ((ll : Nat) : Int))
  (∀ g13 : G, Ex g9 g13 →
  R (.bool (leI n (16384 : Int))) g13)
  (∀ g14 : G, Ex g9 g14 →
  R (.bool false) g14)))
  (∀ g15 : G, Ex g g15 →
  R (.bool false) g15))))
theorem F79_eq (kind : Int) (n : Int) (la : Option Addr) (ll : Nat) (lc : Nat) (g : G) (R : Value → G → Prop) : fnG cfg79 66 [.tmp 6] c79 an79 [(.int .i64 kind), (.int .i64 n), (.slice la ll lc)] g nobody R = F79 kind n la ll lc g R := by kernel_rfl
theorem call79 (kind : Int) (n : Int) (la : Option Addr) (ll : Nat) (lc : Nat) (g : G) (R : Value → G → Prop) (hF : F79 kind n la ll lc g R) : CallsG Try.prog 79 #[(.int .i64 kind), (.int .i64 n), (.slice la ll lc)] g nobody R :=
  fn_soundG (c := cfg79) TTok FNSok mixed Try.func79 (show Try.f79.body = some c79 by kernel_rfl) (show Try.f79.ntmps = 66 by kernel_rfl) (show Try.f79.results.toList = [.tmp 6] by kernel_rfl) rfl ((F79_eq kind n la ll lc g R).mpr hF)

/- 80 pilaster/heap.contents -/
noncomputable def c80 : Code := match Try.f80.body with
  | some c => c
  | none => .skip
noncomputable def cfg80 : Cfg := ⟨Try.prog, TT, FNS, [2], [(2, 2), (5, 2), (11, 2)], [], TCH, false, false⟩
def an80 : AnnG := (.seq .leaf (.seq (.tree 14 (.quiet 0 (.quiet 1 (.quiet 2 (.quiet 3 (.quiet 4 (.quiet 5 (.quiet 6 (.quiet 7 (.quiet 8 (.quiet 9 (.quiet 10 (.quiet 11 (.quiet 12 (.quiet 13 .fin))))))))))))))) .leaf))
def F80 (h0a : Option Addr) (h0l : Nat) (h0c : Nat) (h1 : Int) (h2 : Int) (at0 : Int) (g : G) (R : Value → G → Prop) : Prop :=
  ∀ g1 : G, Ex g g1 →
  InI64 (at0 + (3 : Int)) ∧ InI64 (at0 + (3 : Int)) ∧ InI64 (at0 + (2 : Int)) ∧ (0 ≤ (at0 + (2 : Int)) ∧ (at0 + (2 : Int)) < ((h0l : Nat) : Int)) ∧ derefP h0a fun ad => ∃ x : Int, g1.w.cell? (Addr.add (Addr.add ad (Int.toNat (at0 + (2 : Int)) * 2)) 1) = some (.int .i64 x) ∧ InI64 ((at0 + (3 : Int)) + x) ∧ (0 ≤ ((at0 + (3 : Int)) + x) ∧ ((at0 + (3 : Int)) + x) ≤ ((h0c : Nat) : Int)) ∧ (0 ≤ (at0 + (3 : Int)) ∧ (at0 + (3 : Int)) ≤ (((Int.toNat ((at0 + (3 : Int)) + x)) : Nat) : Int)) ∧ ∀ g2 : G, Ex g1 g2 →
  R (.slice (slAddr h0a h0c (Int.toNat (at0 + (3 : Int))) 2) ((Int.toNat ((at0 + (3 : Int)) + x)) - (Int.toNat (at0 + (3 : Int)))) (h0c - (Int.toNat (at0 + (3 : Int))))) g2
theorem F80_eq (h0a : Option Addr) (h0l : Nat) (h0c : Nat) (h1 : Int) (h2 : Int) (at0 : Int) (g : G) (R : Value → G → Prop) : fnG cfg80 20 [.tmp 4] c80 an80 [(.agg ⟨[(.slice h0a h0l h0c), (.int .i64 h1), (.int .i64 h2)]⟩), (.int .i64 at0)] g nobody R = F80 h0a h0l h0c h1 h2 at0 g R := by kernel_rfl
theorem call80 (h0a : Option Addr) (h0l : Nat) (h0c : Nat) (h1 : Int) (h2 : Int) (at0 : Int) (g : G) (R : Value → G → Prop) (hF : F80 h0a h0l h0c h1 h2 at0 g R) : CallsG Try.prog 80 #[(.agg ⟨[(.slice h0a h0l h0c), (.int .i64 h1), (.int .i64 h2)]⟩), (.int .i64 at0)] g nobody R :=
  fn_soundG (c := cfg80) TTok FNSok mixed Try.func80 (show Try.f80.body = some c80 by kernel_rfl) (show Try.f80.ntmps = 20 by kernel_rfl) (show Try.f80.results.toList = [.tmp 4] by kernel_rfl) rfl ((F80_eq h0a h0l h0c h1 h2 at0 g R).mpr hF)

/- 81 pilaster/pilasterref49.Has -/
noncomputable def c81 : Code := match Try.f81.body with
  | some c => c
  | none => .skip
noncomputable def cfg81 : Cfg := ⟨Try.prog, TT, FNS, [], [], [], TCH, false, false⟩
def an81 : AnnG := (.seq .leaf (.seq .leaf (.seq (.blk (.loop ⟨[(5, .int .i64), (6, .int .i64)], [], []⟩ (.seq (.seq .leaf (.cond .leaf .leaf)) (.blk (.seq .leaf (.seq .leaf (.cond .leaf .leaf))))))) (.seq .leaf .leaf))))
def F81 (la : Option Addr) (ll : Nat) (lc : Nat) (n : Int) (g : G) (R : Value → G → Prop) : Prop :=
  ∃ Inv : Nat → Int → Int → G → Prop, ((∃ m0 : Nat, Inv m0 (0 : Int) ((ll : Nat) : Int) g)) ∧
  ∀ m : Nat, ∀ low : Int, ∀ high : Int, ∀ g1 : G, Le g g1 → Inv m low high g1 →
  ifB (ltI low high)
  (InI64 (low + high) ∧ (2 : Int) ≠ 0 ∧ InI64 (Int.tdiv (low + high) (2 : Int)) ∧ (0 ≤ (Int.tdiv (low + high) (2 : Int)) ∧ (Int.tdiv (low + high) (2 : Int)) < ((ll : Nat) : Int)) ∧ derefP la fun ad => ∃ x : Int, g1.w.cell? (Addr.add ad (Int.toNat (Int.tdiv (low + high) (2 : Int)) * 1)) = some (.int .i64 x) ∧ ifB (ltI x n)
  (InI64 ((Int.tdiv (low + high) (2 : Int)) + (1 : Int)) ∧ (∃ m_1 : Nat, m_1 < m ∧ Inv m_1 ((Int.tdiv (low + high) (2 : Int)) + (1 : Int)) high g1))
  ((∃ m_1 : Nat, m_1 < m ∧ Inv m_1 low (Int.tdiv (low + high) (2 : Int)) g1)))
  (ifB (ltI low ((ll : Nat) : Int))
  ((0 ≤ low ∧ low < ((ll : Nat) : Int)) ∧ derefP la fun ad_1 => ∃ x_1 : Int, g1.w.cell? (Addr.add ad_1 (Int.toNat low * 1)) = some (.int .i64 x_1) ∧ ∀ g2 : G, Ex g1 g2 →
  R (.bool (eqI x_1 n)) g2)
  (∀ g3 : G, Ex g1 g3 →
  R (.bool false) g3))
theorem F81_eq (la : Option Addr) (ll : Nat) (lc : Nat) (n : Int) (g : G) (R : Value → G → Prop) : fnG cfg81 38 [.tmp 4] c81 an81 [(.slice la ll lc), (.int .i64 n)] g nobody R = F81 la ll lc n g R := by kernel_rfl
theorem call81 (la : Option Addr) (ll : Nat) (lc : Nat) (n : Int) (g : G) (R : Value → G → Prop) (hF : F81 la ll lc n g R) : CallsG Try.prog 81 #[(.slice la ll lc), (.int .i64 n)] g nobody R :=
  fn_soundG (c := cfg81) TTok FNSok mixed Try.func81 (show Try.f81.body = some c81 by kernel_rfl) (show Try.f81.ntmps = 38 by kernel_rfl) (show Try.f81.results.toList = [.tmp 4] by kernel_rfl) rfl ((F81_eq la ll lc n g R).mpr hF)

/- 87 slices.Equal[[]string,string] -/
noncomputable def c87 : Code := match Try.f87.body with
  | some c => c
  | none => .skip
noncomputable def cfg87 : Cfg := ⟨Try.prog, TT, FNS, [], [], [], TCH, false, false⟩
def an87 : AnnG := (.seq .leaf (.seq (.seq .leaf (.cond (.seq .leaf .leaf) .leaf)) (.seq (.seq .leaf (.blk (.loop ⟨[(13, .int .i64)], [], []⟩ (.seq .leaf (.seq (.cond .leaf .leaf) (.seq (.blk (.seq .leaf (.seq (.tree 8 (.quiet 0 (.quiet 1 (.quiet 2 (.quiet 3 (.quiet 4 (.quiet 5 (.quiet 6 (.quiet 7 .fin))))))))) (.cond (.seq .leaf .leaf) .leaf)))) .leaf)))))) (.seq .leaf .leaf))))
def F87 (s1a : Option Addr) (s1l : Nat) (s1c : Nat) (s2a : Option Addr) (s2l : Nat) (s2c : Nat) (g : G) (R : Value → G → Prop) : Prop :=
  ifB (!eqI ((s1l : Nat) : Int) ((s2l : Nat) : Int))
  (∀ g1 : G, Ex g g1 →
  R (.bool false) g1)
  (∃ Inv : Nat → Int → G → Prop, ((∃ m0 : Nat, Inv m0 (0 : Int) g)) ∧
  ∀ m : Nat, ∀ v_1 : Int, ∀ g2 : G, Le g g2 → Inv m v_1 g2 →
  ifB (ltI v_1 ((s1l : Nat) : Int))
  (∀ g3 : G, Ex g2 g3 →
  (0 ≤ v_1 ∧ v_1 < ((s1l : Nat) : Int)) ∧ derefP s1a fun ad => ∃ x : ByteArray, g3.w.cell? (Addr.add ad (Int.toNat v_1 * 1)) = some (.string x) ∧ (0 ≤ v_1 ∧ v_1 < ((s2l : Nat) : Int)) ∧ derefP s2a fun ad_1 => ∃ x_1 : ByteArray, g3.w.cell? (Addr.add ad_1 (Int.toNat v_1 * 1)) = some (.string x_1) ∧ ifB (!strEq x x_1)
  (∀ g4 : G, Ex g3 g4 →
  R (.bool false) g4)
  (InI64 (v_1 + (1 : Int)) ∧ (∃ m_1 : Nat, m_1 < m ∧ Inv m_1 (v_1 + (1 : Int)) g3)))
  (∀ g5 : G, Ex g2 g5 →
  R (.bool true) g5))
theorem F87_eq (s1a : Option Addr) (s1l : Nat) (s1c : Nat) (s2a : Option Addr) (s2l : Nat) (s2c : Nat) (g : G) (R : Value → G → Prop) : fnG cfg87 26 [.tmp 4] c87 an87 [(.slice s1a s1l s1c), (.slice s2a s2l s2c)] g nobody R = F87 s1a s1l s1c s2a s2l s2c g R := by kernel_rfl
theorem call87 (s1a : Option Addr) (s1l : Nat) (s1c : Nat) (s2a : Option Addr) (s2l : Nat) (s2c : Nat) (g : G) (R : Value → G → Prop) (hF : F87 s1a s1l s1c s2a s2l s2c g R) : CallsG Try.prog 87 #[(.slice s1a s1l s1c), (.slice s2a s2l s2c)] g nobody R :=
  fn_soundG (c := cfg87) TTok FNSok mixed Try.func87 (show Try.f87.body = some c87 by kernel_rfl) (show Try.f87.ntmps = 26 by kernel_rfl) (show Try.f87.results.toList = [.tmp 4] by kernel_rfl) rfl ((F87_eq s1a s1l s1c s2a s2l s2c g R).mpr hF)

/- 88 slices.EqualFunc[[]pilaster/api.Value,[]pilaster/api.Value,pilaster/api.Value,pilaster/api.Value] -/
noncomputable def c88 : Code := match Try.f88.body with
  | some c => c
  | none => .skip
noncomputable def cfg88 : Cfg := ⟨Try.prog, TT, FNS, [8, 9], [(8, 8), (9, 9)], [], TCH, false, false⟩
def an88 : AnnG := (.seq .leaf (.seq (.seq .leaf (.cond (.seq .leaf .leaf) .leaf)) (.seq (.seq .leaf (.blk (.loop ⟨[(17, .int .i64)], [], []⟩ (.seq .leaf (.seq (.cond .leaf .leaf) (.seq (.blk (.seq .leaf (.seq .leaf (.seq .leaf (.cond (.seq .leaf .leaf) .leaf))))) .leaf)))))) (.seq .leaf .leaf))))
def F88 (s1a : Option Addr) (s1l : Nat) (s1c : Nat) (s2a : Option Addr) (s2l : Nat) (s2c : Nat) (eqf : FuncId) (eqc : Array Value) (g : G) (R : Value → G → Prop) : Prop :=
  ifB (!eqI ((s1l : Nat) : Int) ((s2l : Nat) : Int))
  (∀ g1 : G, Ex g g1 →
  R (.bool false) g1)
  (∃ Inv : Nat → Int → G → Prop, ((∃ m0 : Nat, Inv m0 (0 : Int) g)) ∧
  ∀ m : Nat, ∀ v_1 : Int, ∀ g2 : G, Le g g2 → Inv m v_1 g2 →
  ifB (ltI v_1 ((s1l : Nat) : Int))
  ((0 ≤ v_1 ∧ v_1 < ((s1l : Nat) : Int)) ∧ derefP s1a fun ad => ∃ x0 : Int, ∃ x1 : Int, ∃ x2 : ByteArray, ∃ x3a : Option Addr, ∃ x3l : Nat, ∃ x3c : Nat, ∃ x4a : Option Addr, ∃ x4l : Nat, ∃ x4c : Nat, g2.w.cell? (Addr.add ad (Int.toNat v_1 * 5)) = some (.int .i64 x0) ∧ g2.w.cell? (Addr.add (Addr.add ad (Int.toNat v_1 * 5)) 1) = some (.int .i64 x1) ∧ g2.w.cell? (Addr.add (Addr.add ad (Int.toNat v_1 * 5)) 2) = some (.string x2) ∧ g2.w.cell? (Addr.add (Addr.add ad (Int.toNat v_1 * 5)) 3) = some (.slice x3a x3l x3c) ∧ g2.w.cell? (Addr.add (Addr.add ad (Int.toNat v_1 * 5)) 4) = some (.slice x4a x4l x4c) ∧ (0 ≤ v_1 ∧ v_1 < ((s2l : Nat) : Int)) ∧ derefP s2a fun ad_1 => ∀ g3 : G, Ex g2 g3 →
  ∃ x0_1 : Int, ∃ x1_1 : Int, ∃ x2_1 : ByteArray, ∃ x3a_1 : Option Addr, ∃ x3l_1 : Nat, ∃ x3c_1 : Nat, ∃ x4a_1 : Option Addr, ∃ x4l_1 : Nat, ∃ x4c_1 : Nat, g3.w.cell? (Addr.add ad_1 (Int.toNat v_1 * 5)) = some (.int .i64 x0_1) ∧ g3.w.cell? (Addr.add (Addr.add ad_1 (Int.toNat v_1 * 5)) 1) = some (.int .i64 x1_1) ∧ g3.w.cell? (Addr.add (Addr.add ad_1 (Int.toNat v_1 * 5)) 2) = some (.string x2_1) ∧ g3.w.cell? (Addr.add (Addr.add ad_1 (Int.toNat v_1 * 5)) 3) = some (.slice x3a_1 x3l_1 x3c_1) ∧ g3.w.cell? (Addr.add (Addr.add ad_1 (Int.toNat v_1 * 5)) 4) = some (.slice x4a_1 x4l_1 x4c_1) ∧ ∀ g4 : G, Ex g3 g4 →
  Enters Try.prog eqf ∧ (CallsP Try.prog eqf ((⟨[(.agg ⟨[(.int .i64 x0), (.int .i64 x1), (.string x2), (.slice x3a x3l x3c), (.slice x4a x4l x4c)]⟩), (.agg ⟨[(.int .i64 x0_1), (.int .i64 x1_1), (.string x2_1), (.slice x3a_1 x3l_1 x3c_1), (.slice x4a_1 x4l_1 x4c_1)]⟩)]⟩ : Array Value) ++ eqc) g4 fun v g5 =>
  ∃ x : Bool, v = (.bool x) ∧ ifB (!x)
  (∀ g6 : G, Ex g5 g6 →
  R (.bool false) g6)
  (InI64 (v_1 + (1 : Int)) ∧ (∃ m_1 : Nat, m_1 < m ∧ Inv m_1 (v_1 + (1 : Int)) g5))))
  (∀ g7 : G, Ex g2 g7 →
  R (.bool true) g7))
theorem F88_eq (s1a : Option Addr) (s1l : Nat) (s1c : Nat) (s2a : Option Addr) (s2l : Nat) (s2c : Nat) (eqf : FuncId) (eqc : Array Value) (g : G) (R : Value → G → Prop) : fnG cfg88 32 [.tmp 6] c88 an88 [(.slice s1a s1l s1c), (.slice s2a s2l s2c), (.func (.func eqf) #[] eqc)] g nobody R = F88 s1a s1l s1c s2a s2l s2c eqf eqc g R := by kernel_rfl
theorem call88 (s1a : Option Addr) (s1l : Nat) (s1c : Nat) (s2a : Option Addr) (s2l : Nat) (s2c : Nat) (eqf : FuncId) (eqc : Array Value) (g : G) (R : Value → G → Prop) (hF : F88 s1a s1l s1c s2a s2l s2c eqf eqc g R) : CallsG Try.prog 88 #[(.slice s1a s1l s1c), (.slice s2a s2l s2c), (.func (.func eqf) #[] eqc)] g nobody R :=
  fn_soundG (c := cfg88) TTok FNSok mixed Try.func88 (show Try.f88.body = some c88 by kernel_rfl) (show Try.f88.ntmps = 32 by kernel_rfl) (show Try.f88.results.toList = [.tmp 6] by kernel_rfl) rfl ((F88_eq s1a s1l s1c s2a s2l s2c eqf eqc g R).mpr hF)

/- 91 slices.Equal[[]pilaster/api.Word,pilaster/api.Word] -/
noncomputable def c91 : Code := match Try.f91.body with
  | some c => c
  | none => .skip
noncomputable def cfg91 : Cfg := ⟨Try.prog, TT, FNS, [], [], [], TCH, false, false⟩
def an91 : AnnG := (.seq .leaf (.seq (.seq .leaf (.cond (.seq .leaf .leaf) .leaf)) (.seq (.seq .leaf (.blk (.loop ⟨[(13, .int .i64)], [], []⟩ (.seq .leaf (.seq (.cond .leaf .leaf) (.seq (.blk (.seq .leaf (.seq (.tree 8 (.quiet 0 (.quiet 1 (.quiet 2 (.quiet 3 (.quiet 4 (.quiet 5 (.quiet 6 (.quiet 7 .fin))))))))) (.cond (.seq .leaf .leaf) .leaf)))) .leaf)))))) (.seq .leaf .leaf))))
def F91 (s1a : Option Addr) (s1l : Nat) (s1c : Nat) (s2a : Option Addr) (s2l : Nat) (s2c : Nat) (g : G) (R : Value → G → Prop) : Prop :=
  ifB (!eqI ((s1l : Nat) : Int) ((s2l : Nat) : Int))
  (∀ g1 : G, Ex g g1 →
  R (.bool false) g1)
  (∃ Inv : Nat → Int → G → Prop, ((∃ m0 : Nat, Inv m0 (0 : Int) g)) ∧
  ∀ m : Nat, ∀ v_1 : Int, ∀ g2 : G, Le g g2 → Inv m v_1 g2 →
  ifB (ltI v_1 ((s1l : Nat) : Int))
  (∀ g3 : G, Ex g2 g3 →
  (0 ≤ v_1 ∧ v_1 < ((s1l : Nat) : Int)) ∧ derefP s1a fun ad => ∃ x0 : Bool, ∃ x1 : Int, g3.w.cell? (Addr.add ad (Int.toNat v_1 * 2)) = some (.bool x0) ∧ g3.w.cell? (Addr.add (Addr.add ad (Int.toNat v_1 * 2)) 1) = some (.int .i64 x1) ∧ (0 ≤ v_1 ∧ v_1 < ((s2l : Nat) : Int)) ∧ derefP s2a fun ad_1 => ∃ x0_1 : Bool, ∃ x1_1 : Int, g3.w.cell? (Addr.add ad_1 (Int.toNat v_1 * 2)) = some (.bool x0_1) ∧ g3.w.cell? (Addr.add (Addr.add ad_1 (Int.toNat v_1 * 2)) 1) = some (.int .i64 x1_1) ∧ ifB (!((x0 == x0_1) && ((eqI x1 x1_1) && true)))
  (∀ g4 : G, Ex g3 g4 →
  R (.bool false) g4)
  (InI64 (v_1 + (1 : Int)) ∧ (∃ m_1 : Nat, m_1 < m ∧ Inv m_1 (v_1 + (1 : Int)) g3)))
  (∀ g5 : G, Ex g2 g5 →
  R (.bool true) g5))
theorem F91_eq (s1a : Option Addr) (s1l : Nat) (s1c : Nat) (s2a : Option Addr) (s2l : Nat) (s2c : Nat) (g : G) (R : Value → G → Prop) : fnG cfg91 26 [.tmp 4] c91 an91 [(.slice s1a s1l s1c), (.slice s2a s2l s2c)] g nobody R = F91 s1a s1l s1c s2a s2l s2c g R := by kernel_rfl
theorem call91 (s1a : Option Addr) (s1l : Nat) (s1c : Nat) (s2a : Option Addr) (s2l : Nat) (s2c : Nat) (g : G) (R : Value → G → Prop) (hF : F91 s1a s1l s1c s2a s2l s2c g R) : CallsG Try.prog 91 #[(.slice s1a s1l s1c), (.slice s2a s2l s2c)] g nobody R :=
  fn_soundG (c := cfg91) TTok FNSok mixed Try.func91 (show Try.f91.body = some c91 by kernel_rfl) (show Try.f91.ntmps = 26 by kernel_rfl) (show Try.f91.results.toList = [.tmp 4] by kernel_rfl) rfl ((F91_eq s1a s1l s1c s2a s2l s2c g R).mpr hF)

/- 95 pilaster/pilasterref49.small -/
noncomputable def c95 : Code := match Try.f95.body with
  | some c => c
  | none => .skip
noncomputable def cfg95 : Cfg := ⟨Try.prog, TT, FNS, [], [], [], TCH, false, false⟩
def an95 : AnnG := (.seq .leaf (.seq .leaf .leaf))
def F95 (n : Int) (g : G) (R : Value → G → Prop) : Prop :=
  ifB (leI (-4503599627370496 : Int) n)
  (∀ g1 : G, Ex g g1 →
  R (.bool (leI n (4503599627370496 : Int))) g1)
  (∀ g2 : G, Ex g g2 →
  R (.bool false) g2)
theorem F95_eq (n : Int) (g : G) (R : Value → G → Prop) : fnG cfg95 9 [.tmp 2] c95 an95 [(.int .i64 n)] g nobody R = F95 n g R := by kernel_rfl
theorem call95 (n : Int) (g : G) (R : Value → G → Prop) (hF : F95 n g R) : CallsG Try.prog 95 #[(.int .i64 n)] g nobody R :=
  fn_soundG (c := cfg95) TTok FNSok mixed Try.func95 (show Try.f95.body = some c95 by kernel_rfl) (show Try.f95.ntmps = 9 by kernel_rfl) (show Try.f95.results.toList = [.tmp 2] by kernel_rfl) rfl ((F95_eq n g R).mpr hF)

/- 96 slices.Concat[[]pilaster/api.Word,pilaster/api.Word] -/
noncomputable def c96 : Code := match Try.f96.body with
  | some c => c
  | none => .skip
noncomputable def cfg96 : Cfg := ⟨Try.prog, TT, FNS, [], [], [], TCH, false, false⟩
def an96 : AnnG := (.seq .leaf (.seq .leaf (.seq (.seq .leaf (.blk (.loop ⟨[(3, .int .i64), (11, .int .i64)], [], []⟩ (.seq .leaf (.seq (.cond .leaf .leaf) (.seq (.blk (.seq .leaf (.seq .leaf (.seq .leaf (.cond .leaf .leaf))))) .leaf)))))) (.seq .leaf (.seq (.seq .leaf (.blk (.loop ⟨[(6, .sl), (27, .int .i64)], [], []⟩ (.seq .leaf (.seq (.cond .leaf .leaf) (.seq (.blk (.seq .leaf .leaf)) .leaf)))))) (.seq .leaf .leaf))))))
def F96 (slicesa : Option Addr) (slicesl : Nat) (slicesc : Nat) (g : G) (R : Value → G → Prop) : Prop :=
  ∃ Inv : Nat → Int → Int → G → Prop, ((∃ m0 : Nat, Inv m0 (0 : Int) (0 : Int) g)) ∧
  ∀ m : Nat, ∀ size : Int, ∀ v_1 : Int, ∀ g1 : G, Le g g1 → Inv m size v_1 g1 →
  ifB (ltI v_1 ((slicesl : Nat) : Int))
  ((0 ≤ v_1 ∧ v_1 < ((slicesl : Nat) : Int)) ∧ derefP slicesa fun ad => ∃ sa : Option Addr, ∃ sl : Nat, ∃ sc : Nat, g1.w.cell? (Addr.add ad (Int.toNat v_1 * 1)) = some (.slice sa sl sc) ∧ InI64 (size + ((sl : Nat) : Int)) ∧ ifB (ltI (size + ((sl : Nat) : Int)) (0 : Int))
  (False)
  (InI64 (v_1 + (1 : Int)) ∧ (∃ m_1 : Nat, m_1 < m ∧ Inv m_1 (size + ((sl : Nat) : Int)) (v_1 + (1 : Int)) g1)))
  ((CallsP Try.prog 111 #[(.slice none 0 0), (.int .i64 size)] g1 fun v g2 =>
  ∃ newslicea : Option Addr, ∃ newslicel : Nat, ∃ newslicec : Nat, v = (.slice newslicea newslicel newslicec) ∧ ∃ Inv_1 : Nat → Option Addr → Nat → Nat → Int → G → Prop, ((∃ m0 : Nat, Inv_1 m0 newslicea newslicel newslicec (0 : Int) g2)) ∧
  ∀ m_2 : Nat, ∀ newslicea_1 : Option Addr, ∀ newslicel_1 : Nat, ∀ newslicec_1 : Nat, ∀ v_2 : Int, ∀ g3 : G, Le g2 g3 → Inv_1 m_2 newslicea_1 newslicel_1 newslicec_1 v_2 g3 →
  ifB (ltI v_2 ((slicesl : Nat) : Int))
  ((0 ≤ v_2 ∧ v_2 < ((slicesl : Nat) : Int)) ∧ derefP slicesa fun ad_1 => ∃ sa_1 : Option Addr, ∃ sl_1 : Nat, ∃ sc_1 : Nat, g3.w.cell? (Addr.add ad_1 (Int.toNat v_2 * 1)) = some (.slice sa_1 sl_1 sc_1) ∧ ∃ newslicea_2 : Option Addr, ∃ newslicel_2 : Nat, ∃ newslicec_2 : Nat, ∃ wo1 : World, Sem.run Try.prog (Builtin.append_ #[22, 22] 22 #[(.slice newslicea_1 newslicel_1 newslicec_1), (.slice sa_1 sl_1 sc_1)]) g3.w = .ok (.slice newslicea_2 newslicel_2 newslicec_2) wo1 ∧ ∃ g4 : G, g4.w = wo1 ∧ Stp g.w.heap.size nobody g3 g4 ∧ InI64 (v_2 + (1 : Int)) ∧ (∃ m_3 : Nat, m_3 < m_2 ∧ Inv_1 m_3 newslicea_2 newslicel_2 newslicec_2 (v_2 + (1 : Int)) g4))
  (∀ g5 : G, Ex g3 g5 →
  R (.slice newslicea_1 newslicel_1 newslicec_1) g5)))
theorem F96_eq (slicesa : Option Addr) (slicesl : Nat) (slicesc : Nat) (g : G) (R : Value → G → Prop) : fnG cfg96 36 [.tmp 2] c96 an96 [(.slice slicesa slicesl slicesc)] g nobody R = F96 slicesa slicesl slicesc g R := by kernel_rfl
theorem call96 (slicesa : Option Addr) (slicesl : Nat) (slicesc : Nat) (g : G) (R : Value → G → Prop) (hF : F96 slicesa slicesl slicesc g R) : CallsG Try.prog 96 #[(.slice slicesa slicesl slicesc)] g nobody R :=
  fn_soundG (c := cfg96) TTok FNSok mixed Try.func96 (show Try.f96.body = some c96 by kernel_rfl) (show Try.f96.ntmps = 36 by kernel_rfl) (show Try.f96.results.toList = [.tmp 2] by kernel_rfl) rfl ((F96_eq slicesa slicesl slicesc g R).mpr hF)

/- 97 pilaster/heap.number -/
noncomputable def c97 : Code := match Try.f97.body with
  | some c => c
  | none => .skip
noncomputable def cfg97 : Cfg := ⟨Try.prog, TT, FNS, [2], [(2, 2)], [], TCH, false, false⟩
def an97 : AnnG := (.seq .leaf (.seq .leaf .leaf))
def F97 (n : Int) (g : G) (R : Value → G → Prop) : Prop :=
  ∀ g1 : G, Ex g g1 →
  ∀ g2 : G, Ex g1 g2 →
  R (.agg ⟨[(.bool false), (.int .i64 n)]⟩) g2
theorem F97_eq (n : Int) (g : G) (R : Value → G → Prop) : fnG cfg97 5 [.cell 2 41] c97 an97 [(.int .i64 n)] g nobody R = F97 n g R := by kernel_rfl
theorem call97 (n : Int) (g : G) (R : Value → G → Prop) (hF : F97 n g R) : CallsG Try.prog 97 #[(.int .i64 n)] g nobody R :=
  fn_soundG (c := cfg97) TTok FNSok mixed Try.func97 (show Try.f97.body = some c97 by kernel_rfl) (show Try.f97.ntmps = 5 by kernel_rfl) (show Try.f97.results.toList = [.cell 2 41] by kernel_rfl) rfl ((F97_eq n g R).mpr hF)

/- 98 pilaster/heap.reference -/
noncomputable def c98 : Code := match Try.f98.body with
  | some c => c
  | none => .skip
noncomputable def cfg98 : Cfg := ⟨Try.prog, TT, FNS, [2], [(2, 2)], [], TCH, false, false⟩
def an98 : AnnG := (.seq .leaf (.seq .leaf .leaf))
def F98 (n : Int) (g : G) (R : Value → G → Prop) : Prop :=
  ∀ g1 : G, Ex g g1 →
  ∀ g2 : G, Ex g1 g2 →
  R (.agg ⟨[(.bool true), (.int .i64 n)]⟩) g2
theorem F98_eq (n : Int) (g : G) (R : Value → G → Prop) : fnG cfg98 5 [.cell 2 41] c98 an98 [(.int .i64 n)] g nobody R = F98 n g R := by kernel_rfl
theorem call98 (n : Int) (g : G) (R : Value → G → Prop) (hF : F98 n g R) : CallsG Try.prog 98 #[(.int .i64 n)] g nobody R :=
  fn_soundG (c := cfg98) TTok FNSok mixed Try.func98 (show Try.f98.body = some c98 by kernel_rfl) (show Try.f98.ntmps = 5 by kernel_rfl) (show Try.f98.results.toList = [.cell 2 41] by kernel_rfl) rfl ((F98_eq n g R).mpr hF)

/- 99 pilaster/heap.plain -/
noncomputable def c99 : Code := match Try.f99.body with
  | some c => c
  | none => .skip
noncomputable def cfg99 : Cfg := ⟨Try.prog, TT, FNS, [], [], [], TCH, false, false⟩
def an99 : AnnG := (.seq .leaf (.seq .leaf .leaf))
def F99 (n : Int) (g : G) (R : Value → G → Prop) : Prop :=
  ifB (leI (-4503599627370496 : Int) n)
  (∀ g1 : G, Ex g g1 →
  R (.bool (leI n (4503599627370496 : Int))) g1)
  (∀ g2 : G, Ex g g2 →
  R (.bool false) g2)
theorem F99_eq (n : Int) (g : G) (R : Value → G → Prop) : fnG cfg99 9 [.tmp 2] c99 an99 [(.int .i64 n)] g nobody R = F99 n g R := by kernel_rfl
theorem call99 (n : Int) (g : G) (R : Value → G → Prop) (hF : F99 n g R) : CallsG Try.prog 99 #[(.int .i64 n)] g nobody R :=
  fn_soundG (c := cfg99) TTok FNSok mixed Try.func99 (show Try.f99.body = some c99 by kernel_rfl) (show Try.f99.ntmps = 9 by kernel_rfl) (show Try.f99.results.toList = [.tmp 2] by kernel_rfl) rfl ((F99_eq n g R).mpr hF)

/- 100 slices.ContainsFunc[[]pilaster/api.Value,pilaster/api.Value] -/
noncomputable def c100 : Code := match Try.f100.body with
  | some c => c
  | none => .skip
noncomputable def cfg100 : Cfg := ⟨Try.prog, TT, FNS, [], [], [], TCH, false, false⟩
def an100 : AnnG := (.seq .leaf (.seq .leaf .leaf))
def F100 (sa : Option Addr) (sl : Nat) (sc : Nat) (ff : FuncId) (fc : Array Value) (g : G) (R : Value → G → Prop) : Prop :=
  (CallsP Try.prog 112 #[(.slice sa sl sc), (.func (.func ff) #[] fc)] g fun v g1 =>
  ∃ x : Int, v = (.int .i64 x) ∧ ∀ g2 : G, Ex g1 g2 →
  R (.bool (leI (0 : Int) x)) g2)
theorem F100_eq (sa : Option Addr) (sl : Nat) (sc : Nat) (ff : FuncId) (fc : Array Value) (g : G) (R : Value → G → Prop) : fnG cfg100 9 [.tmp 4] c100 an100 [(.slice sa sl sc), (.func (.func ff) #[] fc)] g nobody R = F100 sa sl sc ff fc g R := by kernel_rfl
theorem call100 (sa : Option Addr) (sl : Nat) (sc : Nat) (ff : FuncId) (fc : Array Value) (g : G) (R : Value → G → Prop) (hF : F100 sa sl sc ff fc g R) : CallsG Try.prog 100 #[(.slice sa sl sc), (.func (.func ff) #[] fc)] g nobody R :=
  fn_soundG (c := cfg100) TTok FNSok mixed Try.func100 (show Try.f100.body = some c100 by kernel_rfl) (show Try.f100.ntmps = 9 by kernel_rfl) (show Try.f100.results.toList = [.tmp 4] by kernel_rfl) rfl ((F100_eq sa sl sc ff fc g R).mpr hF)

/- 101 pilaster/heap.data$1 -/
noncomputable def c101 : Code := match Try.f101.body with
  | some c => c
  | none => .skip
noncomputable def cfg101 : Cfg := ⟨Try.prog, TT, FNS, [1], [(1, 1)], [], TCH, false, false⟩
def an101 : AnnG := (.seq .leaf (.seq .leaf .leaf))
def F101 (x0 : Int) (x1 : Int) (x2 : ByteArray) (x3a : Option Addr) (x3l : Nat) (x3c : Nat) (x4a : Option Addr) (x4l : Nat) (x4c : Nat) (g : G) (R : Value → G → Prop) : Prop :=
  ∀ g1 : G, Ex g g1 →
  (CallsP Try.prog 67 #[(.agg ⟨[(.int .i64 x0), (.int .i64 x1), (.string x2), (.slice x3a x3l x3c), (.slice x4a x4l x4c)]⟩)] g1 fun v g2 =>
  ∃ x : Bool, v = (.bool x) ∧ ∀ g3 : G, Ex g2 g3 →
  R (.bool (!x)) g3)
theorem F101_eq (x0 : Int) (x1 : Int) (x2 : ByteArray) (x3a : Option Addr) (x3l : Nat) (x3c : Nat) (x4a : Option Addr) (x4l : Nat) (x4c : Nat) (g : G) (R : Value → G → Prop) : fnG cfg101 6 [.tmp 2] c101 an101 [(.agg ⟨[(.int .i64 x0), (.int .i64 x1), (.string x2), (.slice x3a x3l x3c), (.slice x4a x4l x4c)]⟩)] g nobody R = F101 x0 x1 x2 x3a x3l x3c x4a x4l x4c g R := by kernel_rfl
theorem call101 (x0 : Int) (x1 : Int) (x2 : ByteArray) (x3a : Option Addr) (x3l : Nat) (x3c : Nat) (x4a : Option Addr) (x4l : Nat) (x4c : Nat) (g : G) (R : Value → G → Prop) (hF : F101 x0 x1 x2 x3a x3l x3c x4a x4l x4c g R) : CallsG Try.prog 101 #[(.agg ⟨[(.int .i64 x0), (.int .i64 x1), (.string x2), (.slice x3a x3l x3c), (.slice x4a x4l x4c)]⟩)] g nobody R :=
  fn_soundG (c := cfg101) TTok FNSok mixed Try.func101 (show Try.f101.body = some c101 by kernel_rfl) (show Try.f101.ntmps = 6 by kernel_rfl) (show Try.f101.results.toList = [.tmp 2] by kernel_rfl) rfl ((F101_eq x0 x1 x2 x3a x3l x3c x4a x4l x4c g R).mpr hF)

/- 102 pilaster/heap.right$1 -/
noncomputable def c102 : Code := match Try.f102.body with
  | some c => c
  | none => .skip
noncomputable def cfg102 : Cfg := ⟨Try.prog, TT, FNS, [1], [(1, 1), (3, 1), (6, 1), (11, 1)], [], TCH, false, false⟩
def an102 : AnnG := (.seq .leaf (.seq .leaf .leaf))
def F102 (w0 : Bool) (w1 : Int) (g : G) (R : Value → G → Prop) : Prop :=
  ifB w0
  (∀ g1 : G, Ex g g1 →
  R (.bool true) g1)
  (ifB (ltI w1 (0 : Int))
  (∀ g2 : G, Ex g g2 →
  R (.bool true) g2)
  (∀ g3 : G, Ex g g3 →
  R (.bool (ltI (255 : Int) w1)) g3))
theorem F102_eq (w0 : Bool) (w1 : Int) (g : G) (R : Value → G → Prop) : fnG cfg102 15 [.tmp 2] c102 an102 [(.agg ⟨[(.bool w0), (.int .i64 w1)]⟩)] g nobody R = F102 w0 w1 g R := by kernel_rfl
theorem call102 (w0 : Bool) (w1 : Int) (g : G) (R : Value → G → Prop) (hF : F102 w0 w1 g R) : CallsG Try.prog 102 #[(.agg ⟨[(.bool w0), (.int .i64 w1)]⟩)] g nobody R :=
  fn_soundG (c := cfg102) TTok FNSok mixed Try.func102 (show Try.f102.body = some c102 by kernel_rfl) (show Try.f102.ntmps = 15 by kernel_rfl) (show Try.f102.results.toList = [.tmp 2] by kernel_rfl) rfl ((F102_eq w0 w1 g R).mpr hF)

/- 103 slices.IndexFunc[[]pilaster/api.Word,pilaster/api.Word] -/
noncomputable def c103 : Code := match Try.f103.body with
  | some c => c
  | none => .skip
noncomputable def cfg103 : Cfg := ⟨Try.prog, TT, FNS, [], [], [], TCH, false, false⟩
def an103 : AnnG := (.seq .leaf (.seq (.seq .leaf (.blk (.loop ⟨[(8, .int .i64)], [], []⟩ (.seq .leaf (.seq (.cond .leaf .leaf) (.seq (.blk (.seq .leaf (.seq .leaf (.cond (.seq .leaf .leaf) .leaf)))) .leaf)))))) (.seq .leaf .leaf)))
def F103 (sa : Option Addr) (sl : Nat) (sc : Nat) (ff : FuncId) (fc : Array Value) (g : G) (R : Value → G → Prop) : Prop :=
  ∃ Inv : Nat → Int → G → Prop, ((∃ m0 : Nat, Inv m0 (0 : Int) g)) ∧
  ∀ m : Nat, ∀ v_1 : Int, ∀ g1 : G, Le g g1 → Inv m v_1 g1 →
  ifB (ltI v_1 ((sl : Nat) : Int))
  ((0 ≤ v_1 ∧ v_1 < ((sl : Nat) : Int)) ∧ derefP sa fun ad => ∃ x0 : Bool, ∃ x1 : Int, g1.w.cell? (Addr.add ad (Int.toNat v_1 * 2)) = some (.bool x0) ∧ g1.w.cell? (Addr.add (Addr.add ad (Int.toNat v_1 * 2)) 1) = some (.int .i64 x1) ∧ Enters Try.prog ff ∧ (CallsP Try.prog ff ((⟨[(.agg ⟨[(.bool x0), (.int .i64 x1)]⟩)]⟩ : Array Value) ++ fc) g1 fun v g2 =>
  ∃ x : Bool, v = (.bool x) ∧ ifB x
  (∀ g3 : G, Ex g2 g3 →
  R (.int .i64 v_1) g3)
  (InI64 (v_1 + (1 : Int)) ∧ (∃ m_1 : Nat, m_1 < m ∧ Inv m_1 (v_1 + (1 : Int)) g2))))
  (∀ g4 : G, Ex g1 g4 →
  R (.int .i64 (-1 : Int)) g4)
theorem F103_eq (sa : Option Addr) (sl : Nat) (sc : Nat) (ff : FuncId) (fc : Array Value) (g : G) (R : Value → G → Prop) : fnG cfg103 19 [.tmp 4] c103 an103 [(.slice sa sl sc), (.func (.func ff) #[] fc)] g nobody R = F103 sa sl sc ff fc g R := by kernel_rfl
theorem call103 (sa : Option Addr) (sl : Nat) (sc : Nat) (ff : FuncId) (fc : Array Value) (g : G) (R : Value → G → Prop) (hF : F103 sa sl sc ff fc g R) : CallsG Try.prog 103 #[(.slice sa sl sc), (.func (.func ff) #[] fc)] g nobody R :=
  fn_soundG (c := cfg103) TTok FNSok mixed Try.func103 (show Try.f103.body = some c103 by kernel_rfl) (show Try.f103.ntmps = 19 by kernel_rfl) (show Try.f103.results.toList = [.tmp 4] by kernel_rfl) rfl ((F103_eq sa sl sc ff fc g R).mpr hF)

/- 104 slices.BinarySearch[[]int,int] -/
noncomputable def c104 : Code := match Try.f104.body with
  | some c => c
  | none => .skip
noncomputable def cfg104 : Cfg := ⟨Try.prog, TT, FNS, [], [], [], TCH, false, false⟩
def an104 : AnnG := (.seq .leaf (.seq .leaf (.seq .leaf (.seq (.blk (.loop ⟨[(7, .int .i64), (8, .int .i64)], [], []⟩ (.seq (.seq .leaf (.cond .leaf .leaf)) (.blk (.seq .leaf (.seq .leaf (.cond .leaf .leaf))))))) (.seq .leaf .leaf)))))
def F104 (xa : Option Addr) (xl : Nat) (xc : Nat) (target : Int) (g : G) (R : Value → G → Prop) : Prop :=
  ∃ Inv : Nat → Int → Int → G → Prop, ((∃ m0 : Nat, Inv m0 (0 : Int) ((xl : Nat) : Int) g)) ∧
  ∀ m : Nat, ∀ i : Int, ∀ j : Int, ∀ g1 : G, Le g g1 → Inv m i j g1 →
  ifB (ltI i j)
  (InI64 (i + j) ∧ 0 ≤ (1 : Int) ∧ InI64 (shrI IntKind.u64 (IntKind.u64.wrap (i + j)) (1 : Int)) ∧ (0 ≤ (shrI IntKind.u64 (IntKind.u64.wrap (i + j)) (1 : Int)) ∧ (shrI IntKind.u64 (IntKind.u64.wrap (i + j)) (1 : Int)) < ((xl : Nat) : Int)) ∧ derefP xa fun ad => ∃ x : Int, g1.w.cell? (Addr.add ad (Int.toNat (shrI IntKind.u64 (IntKind.u64.wrap (i + j)) (1 : Int)) * 1)) = some (.int .i64 x) ∧ (CallsP Try.prog 113 #[(.int .i64 x), (.int .i64 target)] g1 fun v g2 =>
  ∃ x_1 : Bool, v = (.bool x_1) ∧ ifB x_1
  (InI64 ((shrI IntKind.u64 (IntKind.u64.wrap (i + j)) (1 : Int)) + (1 : Int)) ∧ (∃ m_1 : Nat, m_1 < m ∧ Inv m_1 ((shrI IntKind.u64 (IntKind.u64.wrap (i + j)) (1 : Int)) + (1 : Int)) j g2))
  ((∃ m_1 : Nat, m_1 < m ∧ Inv m_1 i (shrI IntKind.u64 (IntKind.u64.wrap (i + j)) (1 : Int)) g2))))
  (ifB (ltI i ((xl : Nat) : Int))
  ((0 ≤ i ∧ i < ((xl : Nat) : Int)) ∧ derefP xa fun ad_1 => ∃ x_2 : Int, g1.w.cell? (Addr.add ad_1 (Int.toNat i * 1)) = some (.int .i64 x_2) ∧ ifB (eqI x_2 target)
  (∀ g3 : G, Ex g1 g3 →
  R (.tuple ⟨[(.int .i64 i), (.bool true)]⟩) g3)
  ((0 ≤ i ∧ i < ((xl : Nat) : Int)) ∧ derefP xa fun ad_2 => ∃ x_3 : Int, g1.w.cell? (Addr.add ad_2 (Int.toNat i * 1)) = some (.int .i64 x_3) ∧ (CallsP Try.prog 114 #[(.int .i64 x_3)] g1 fun v g4 =>
  ∃ x_4 : Bool, v = (.bool x_4) ∧ ifB x_4
  ((CallsP Try.prog 114 #[(.int .i64 target)] g4 fun v g5 =>
  ∃ x_5 : Bool, v = (.bool x_5) ∧ ∀ g6 : G, Ex g5 g6 →
  R (.tuple ⟨[(.int .i64 i), (.bool x_5)]⟩) g6))
  (∀ g7 : G, Ex g4 g7 →
  R (.tuple ⟨[(.int .i64 i), (.bool false)]⟩) g7))))
  (∀ g8 : G, Ex g1 g8 →
  R (.tuple ⟨[(.int .i64 i), (.bool false)]⟩) g8))
theorem F104_eq (xa : Option Addr) (xl : Nat) (xc : Nat) (target : Int) (g : G) (R : Value → G → Prop) : fnG cfg104 54 [.tmp 4, .tmp 5] c104 an104 [(.slice xa xl xc), (.int .i64 target)] g nobody R = F104 xa xl xc target g R := by kernel_rfl
theorem call104 (xa : Option Addr) (xl : Nat) (xc : Nat) (target : Int) (g : G) (R : Value → G → Prop) (hF : F104 xa xl xc target g R) : CallsG Try.prog 104 #[(.slice xa xl xc), (.int .i64 target)] g nobody R :=
  fn_soundG (c := cfg104) TTok FNSok mixed Try.func104 (show Try.f104.body = some c104 by kernel_rfl) (show Try.f104.ntmps = 54 by kernel_rfl) (show Try.f104.results.toList = [.tmp 4, .tmp 5] by kernel_rfl) rfl ((F104_eq xa xl xc target g R).mpr hF)

/- 110 pilaster/heap.blocks -/
noncomputable def c110 : Code := match Try.f110.body with
  | some c => c
  | none => .skip
noncomputable def cfg110 : Cfg := ⟨Try.prog, TT, FNS, [], [], [1], TCH, false, false⟩
def an110 : AnnG := (.seq .leaf (.seq .leaf .leaf))
def F110 (h0a : Option Addr) (h0l : Nat) (h0c : Nat) (h1 : Int) (h2 : Int) (g : G) (R : Value → G → Prop) : Prop :=
  ∀ g1 : G, NewL g g1 24 ([(.slice h0a h0l h0c), (.int .i64 h1), (.int .i64 h2)] : List Value) →
  ∀ g2 : G, Ex g1 g2 →
  R (.func (.func 125) #[] ⟨[(.pointer (some ⟨g.w.heap.size, 0, none⟩))]⟩) g2
theorem F110_eq (h0a : Option Addr) (h0l : Nat) (h0c : Nat) (h1 : Int) (h2 : Int) (g : G) (R : Value → G → Prop) : fnG cfg110 4 [.tmp 2] c110 an110 [(.agg ⟨[(.slice h0a h0l h0c), (.int .i64 h1), (.int .i64 h2)]⟩)] g nobody R = F110 h0a h0l h0c h1 h2 g R := by kernel_rfl
theorem call110 (h0a : Option Addr) (h0l : Nat) (h0c : Nat) (h1 : Int) (h2 : Int) (g : G) (R : Value → G → Prop) (hF : F110 h0a h0l h0c h1 h2 g R) : CallsG Try.prog 110 #[(.agg ⟨[(.slice h0a h0l h0c), (.int .i64 h1), (.int .i64 h2)]⟩)] g nobody R :=
  fn_soundG (c := cfg110) TTok FNSok mixed Try.func110 (show Try.f110.body = some c110 by kernel_rfl) (show Try.f110.ntmps = 4 by kernel_rfl) (show Try.f110.results.toList = [.tmp 2] by kernel_rfl) rfl ((F110_eq h0a h0l h0c h1 h2 g R).mpr hF)

/- 111 slices.Grow[[]pilaster/api.Word,pilaster/api.Word] -/
noncomputable def c111 : Code := match Try.f111.body with
  | some c => c
  | none => .skip
noncomputable def cfg111 : Cfg := ⟨Try.prog, TT, FNS, [], [], [], TCH, false, false⟩
def an111 : AnnG := (.seq .leaf (.join ⟨[], [], []⟩ (.seq .leaf (.cond .leaf .leaf)) (.seq (.seq .leaf (.seq .leaf (.cond .leaf .leaf))) (.seq .leaf .leaf))))
def F111 (sa : Option Addr) (sl : Nat) (sc : Nat) (n : Int) (g : G) (R : Value → G → Prop) : Prop :=
  ∀ J : G → Prop,
  (∀ g1 : G, (InI64 (((sc : Nat) : Int) - ((sl : Nat) : Int)) ∧ InI64 (n - (((sc : Nat) : Int) - ((sl : Nat) : Int))) ∧ ifB (ltI (0 : Int) (n - (((sc : Nat) : Int) - ((sl : Nat) : Int))))
  ((0 ≤ ((sc : Nat) : Int) ∧ ((sc : Nat) : Int) ≤ ((sc : Nat) : Int)) ∧ ∃ xa : Option Addr, ∃ xl : Nat, ∃ xc : Nat, ∃ wo1 : World, Sem.run Try.prog (Builtin.append_ #[22, 3] 22 #[(.slice (slAddr sa sc 0 2) ((Int.toNat ((sc : Nat) : Int)) - 0) (sc - 0)), (.int .i64 (n - (((sc : Nat) : Int) - ((sl : Nat) : Int))))]) g1.w = .ok (.slice xa xl xc) wo1 ∧ ∃ g2 : G, g2.w = wo1 ∧ Stp g.w.heap.size nobody g1 g2 ∧ (0 ≤ ((sl : Nat) : Int) ∧ ((sl : Nat) : Int) ≤ ((xc : Nat) : Int)) ∧ ∀ g3 : G, Ex g2 g3 →
  R (.slice (slAddr xa xc 0 2) ((Int.toNat ((sl : Nat) : Int)) - 0) (xc - 0)) g3)
  (∀ g4 : G, Ex g1 g4 →
  R (.slice sa sl sc) g4)) → J g1) →
  ifB (ltI n (0 : Int))
  (False)
  (J g)
theorem F111_eq (sa : Option Addr) (sl : Nat) (sc : Nat) (n : Int) (g : G) (R : Value → G → Prop) : fnG cfg111 27 [.tmp 4] c111 an111 [(.slice sa sl sc), (.int .i64 n)] g nobody R = F111 sa sl sc n g R := by kernel_rfl
theorem call111 (sa : Option Addr) (sl : Nat) (sc : Nat) (n : Int) (g : G) (R : Value → G → Prop) (hF : F111 sa sl sc n g R) : CallsG Try.prog 111 #[(.slice sa sl sc), (.int .i64 n)] g nobody R :=
  fn_soundG (c := cfg111) TTok FNSok mixed Try.func111 (show Try.f111.body = some c111 by kernel_rfl) (show Try.f111.ntmps = 27 by kernel_rfl) (show Try.f111.results.toList = [.tmp 4] by kernel_rfl) rfl ((F111_eq sa sl sc n g R).mpr hF)
end Go.Proofs.Ytcpclpkcanikiaa
