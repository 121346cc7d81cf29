/- Printed by a program (wip/tools/gen2.py): for each function its condition as a plain formula, and that the formula gives the call. -/
import Derived.Test.YtcpclpkcanikiaaProg
import Derived.Test.YtcpclpkcanikiaaVda
namespace Go.Proofs.Ytcpclpkcanikiaa
open Go Go.Vc Go.RowKit
set_option maxRecDepth 100000
set_option linter.unusedVariables false
def TT : List TI := [
  ⟨0, .tuple #[], 1, 0, some (.tuple ⟨[]⟩), (.tup [])⟩,
  ⟨3, .int .i64, 1, 8, some (.int .i64 (0 : Int)), (.e (.one (.int .i64)))⟩,
  ⟨4, .bool, 1, 1, some (.bool false), (.e (.one (.bool)))⟩,
  ⟨5, .int .u8, 1, 1, some (.int .u8 (0 : Int)), (.e (.one (.int .u8)))⟩,
  ⟨9, .string, 1, 16, some (.string (bs [])), (.e (.one (.str)))⟩,
  ⟨22, .slice 41, 1, 24, some (.slice none 0 0), (.e (.one (.sl)))⟩,
  ⟨24, .struct #[{ name := "Words", type := 22, offset := 0, embedded := false, tag := "", pkgPath := "", byteOffset := 0 }, { name := "Free", type := 3, offset := 1, embedded := false, tag := "", pkgPath := "", byteOffset := 24 }, { name := "Limit", type := 3, offset := 2, embedded := false, tag := "", pkgPath := "", byteOffset := 32 }], 3, 40, some (.agg ⟨[(.slice none 0 0), (.int .i64 (0 : Int)), (.int .i64 (0 : Int))]⟩), (.e (.agg [(.sl), (.int .i64), (.int .i64)]))⟩,
  ⟨27, .int .i64, 1, 8, some (.int .i64 (0 : Int)), (.e (.one (.int .i64)))⟩,
  ⟨28, .tuple #[24, 27], 1, 0, some (.tuple ⟨[(.agg ⟨[(.slice none 0 0), (.int .i64 (0 : Int)), (.int .i64 (0 : Int))]⟩), (.int .i64 (0 : Int))]⟩), (.tup [(.agg [(.sl), (.int .i64), (.int .i64)]), (.one (.int .i64))])⟩,
  ⟨30, .tuple #[3, 27], 1, 0, some (.tuple ⟨[(.int .i64 (0 : Int)), (.int .i64 (0 : Int))]⟩), (.tup [(.one (.int .i64)), (.one (.int .i64))])⟩,
  ⟨33, .func #[3, 3] #[4] false, 1, 8, some .nilFunc, (.e (.one (.fn)))⟩,
  ⟨35, .slice 9, 1, 24, some (.slice none 0 0), (.e (.one (.sl)))⟩,
  ⟨36, .slice 38, 1, 24, some (.slice none 0 0), (.e (.one (.sl)))⟩,
  ⟨38, .struct #[{ name := "Op", type := 3, offset := 0, embedded := false, tag := "", pkgPath := "", byteOffset := 0 }, { name := "N", type := 3, offset := 1, embedded := false, tag := "", pkgPath := "", byteOffset := 8 }, { name := "S", type := 9, offset := 2, embedded := false, tag := "", pkgPath := "", byteOffset := 16 }, { name := "Names", type := 35, offset := 3, embedded := false, tag := "", pkgPath := "", byteOffset := 32 }, { name := "L", type := 36, offset := 4, embedded := false, tag := "", pkgPath := "", byteOffset := 56 }], 5, 80, some (.agg ⟨[(.int .i64 (0 : Int)), (.int .i64 (0 : Int)), (.string (bs [])), (.slice none 0 0), (.slice none 0 0)]⟩), (.e (.agg [(.int .i64), (.int .i64), (.str), (.sl), (.sl)]))⟩,
  ⟨39, .func #[38] #[4] false, 1, 8, some .nilFunc, (.e (.one (.fn)))⟩,
  ⟨41, .struct #[{ name := "Ref", type := 4, offset := 0, embedded := false, tag := "", pkgPath := "", byteOffset := 0 }, { name := "N", type := 3, offset := 1, embedded := false, tag := "", pkgPath := "", byteOffset := 8 }], 2, 16, some (.agg ⟨[(.bool false), (.int .i64 (0 : Int))]⟩), (.e (.agg [(.bool), (.int .i64)]))⟩,
  ⟨42, .tuple #[24, 41, 27], 1, 0, some (.tuple ⟨[(.agg ⟨[(.slice none 0 0), (.int .i64 (0 : Int)), (.int .i64 (0 : Int))]⟩), (.agg ⟨[(.bool false), (.int .i64 (0 : Int))]⟩), (.int .i64 (0 : Int))]⟩), (.tup [(.agg [(.sl), (.int .i64), (.int .i64)]), (.agg [(.bool), (.int .i64)]), (.one (.int .i64))])⟩,
  ⟨45, .tuple #[24, 41, 4], 1, 0, some (.tuple ⟨[(.agg ⟨[(.slice none 0 0), (.int .i64 (0 : Int)), (.int .i64 (0 : Int))]⟩), (.agg ⟨[(.bool false), (.int .i64 (0 : Int))]⟩), (.bool false)]⟩), (.tup [(.agg [(.sl), (.int .i64), (.int .i64)]), (.agg [(.bool), (.int .i64)]), (.one (.bool))])⟩,
  ⟨51, .tuple #[3, 3, 22, 27], 1, 0, some (.tuple ⟨[(.int .i64 (0 : Int)), (.int .i64 (0 : Int)), (.slice none 0 0), (.int .i64 (0 : Int))]⟩), (.tup [(.one (.int .i64)), (.one (.int .i64)), (.one (.sl)), (.one (.int .i64))])⟩,
  ⟨53, .tuple #[9, 27], 1, 0, some (.tuple ⟨[(.string (bs [])), (.int .i64 (0 : Int))]⟩), (.tup [(.one (.str)), (.one (.int .i64))])⟩,
  ⟨55, .slice 3, 1, 24, some (.slice none 0 0), (.e (.one (.sl)))⟩,
  ⟨56, .tuple #[55, 27], 1, 0, some (.tuple ⟨[(.slice none 0 0), (.int .i64 (0 : Int))]⟩), (.tup [(.one (.sl)), (.one (.int .i64))])⟩,
  ⟨61, .tuple #[3, 3, 22], 1, 0, some (.tuple ⟨[(.int .i64 (0 : Int)), (.int .i64 (0 : Int)), (.slice none 0 0)]⟩), (.tup [(.one (.int .i64)), (.one (.int .i64)), (.one (.sl))])⟩,
  ⟨65, .int .u16, 1, 2, some (.int .u16 (0 : Int)), (.e (.one (.int .u16)))⟩,
  ⟨66, .slice 5, 1, 24, some (.slice none 0 0), (.e (.one (.sl)))⟩,
  ⟨67, .slice 22, 1, 24, some (.slice none 0 0), (.e (.one (.sl)))⟩,
  ⟨70, .tuple #[24, 22, 27], 1, 0, some (.tuple ⟨[(.agg ⟨[(.slice none 0 0), (.int .i64 (0 : Int)), (.int .i64 (0 : Int))]⟩), (.slice none 0 0), (.int .i64 (0 : Int))]⟩), (.tup [(.agg [(.sl), (.int .i64), (.int .i64)]), (.one (.sl)), (.one (.int .i64))])⟩,
  ⟨75, .tuple #[24, 22], 1, 0, some (.tuple ⟨[(.agg ⟨[(.slice none 0 0), (.int .i64 (0 : Int)), (.int .i64 (0 : Int))]⟩), (.slice none 0 0)]⟩), (.tup [(.agg [(.sl), (.int .i64), (.int .i64)]), (.one (.sl))])⟩,
  ⟨79, .tuple #[38, 4], 1, 0, some (.tuple ⟨[(.agg ⟨[(.int .i64 (0 : Int)), (.int .i64 (0 : Int)), (.string (bs [])), (.slice none 0 0), (.slice none 0 0)]⟩), (.bool false)]⟩), (.tup [(.agg [(.int .i64), (.int .i64), (.str), (.sl), (.sl)]), (.one (.bool))])⟩,
  ⟨81, .func #[38, 38] #[4] false, 1, 8, some .nilFunc, (.e (.one (.fn)))⟩,
  ⟨83, .tuple #[4, 27], 1, 0, some (.tuple ⟨[(.bool false), (.int .i64 (0 : Int))]⟩), (.tup [(.one (.bool)), (.one (.int .i64))])⟩,
  ⟨91, .tuple #[55, 4], 1, 0, some (.tuple ⟨[(.slice none 0 0), (.bool false)]⟩), (.tup [(.one (.sl)), (.one (.bool))])⟩,
  ⟨98, .tuple #[3, 3], 1, 0, some (.tuple ⟨[(.int .i64 (0 : Int)), (.int .i64 (0 : Int))]⟩), (.tup [(.one (.int .i64)), (.one (.int .i64))])⟩,
  ⟨104, .func #[41] #[4] false, 1, 8, some .nilFunc, (.e (.one (.fn)))⟩,
  ⟨107, .tuple #[24, 41], 1, 0, some (.tuple ⟨[(.agg ⟨[(.slice none 0 0), (.int .i64 (0 : Int)), (.int .i64 (0 : Int))]⟩), (.agg ⟨[(.bool false), (.int .i64 (0 : Int))]⟩)]⟩), (.tup [(.agg [(.sl), (.int .i64), (.int .i64)]), (.agg [(.bool), (.int .i64)])])⟩,
  ⟨109, .map 3 4, 1, 8, some (.map none), (.e (.one (.map)))⟩,
  ⟨110, .tuple #[109, 27], 1, 0, some (.tuple ⟨[(.map none), (.int .i64 (0 : Int))]⟩), (.tup [(.one (.map)), (.one (.int .i64))])⟩,
  ⟨112, .pointer 117, 1, 8, some (.pointer none), (.e (.one (.ptr)))⟩,
  ⟨113, .tuple #[112, 22], 1, 0, some (.tuple ⟨[(.pointer none), (.slice none 0 0)]⟩), (.tup [(.one (.ptr)), (.one (.sl))])⟩,
  ⟨115, .map 3 3, 1, 8, some (.map none), (.e (.one (.map)))⟩,
  ⟨117, .struct #[{ name := "from", type := 24, offset := 0, embedded := false, tag := "", pkgPath := "pilaster/collect", byteOffset := 0 }, { name := "to", type := 24, offset := 3, embedded := false, tag := "", pkgPath := "pilaster/collect", byteOffset := 40 }, { name := "copies", type := 115, offset := 6, embedded := false, tag := "", pkgPath := "pilaster/collect", byteOffset := 80 }], 7, 88, some (.agg ⟨[(.slice none 0 0), (.int .i64 (0 : Int)), (.int .i64 (0 : Int)), (.slice none 0 0), (.int .i64 (0 : Int)), (.int .i64 (0 : Int)), (.map none)]⟩), (.e (.agg [(.sl), (.int .i64), (.int .i64), (.sl), (.int .i64), (.int .i64), (.map)]))⟩,
  ⟨119, .struct #[{ name := "from", type := 55, offset := 0, embedded := false, tag := "", pkgPath := "pilaster/pilasterref50", byteOffset := 0 }, { name := "to", type := 55, offset := 1, embedded := false, tag := "", pkgPath := "pilaster/pilasterref50", byteOffset := 24 }], 2, 48, some (.agg ⟨[(.slice none 0 0), (.slice none 0 0)]⟩), (.e (.agg [(.sl), (.sl)]))⟩,
  ⟨122, .slice 124, 1, 24, some (.slice none 0 0), (.e (.one (.sl)))⟩,
  ⟨124, .struct #[{ name := "v", type := 41, offset := 0, embedded := false, tag := "", pkgPath := "pilaster/collect", byteOffset := 0 }, { name := "w", type := 41, offset := 2, embedded := false, tag := "", pkgPath := "pilaster/collect", byteOffset := 16 }], 4, 32, some (.agg ⟨[(.bool false), (.int .i64 (0 : Int)), (.bool false), (.int .i64 (0 : Int))]⟩), (.e (.agg [(.bool), (.int .i64), (.bool), (.int .i64)]))⟩,
  ⟨126, .tuple #[3, 4], 1, 0, some (.tuple ⟨[(.int .i64 (0 : Int)), (.bool false)]⟩), (.tup [(.one (.int .i64)), (.one (.bool))])⟩,
  ⟨139, .int .u64, 1, 8, some (.int .u64 (0 : Int)), (.e (.one (.int .u64)))⟩,
  ⟨146, .int .i64, 1, 8, some (.int .i64 (0 : Int)), (.e (.one (.int .i64)))⟩,
  ⟨147, .tuple #[3, 146], 1, 0, some (.tuple ⟨[(.int .i64 (0 : Int)), (.int .i64 (0 : Int))]⟩), (.tup [(.one (.int .i64)), (.one (.int .i64))])⟩,
  ⟨153, .int .u32, 1, 4, some (.int .u32 (0 : Int)), (.e (.one (.int .u32)))⟩,
  ⟨155, .int .u64, 1, 8, some (.int .u64 (0 : Int)), (.e (.one (.int .u64)))⟩,
  ⟨156, .int .u64, 1, 8, some (.int .u64 (0 : Int)), (.e (.one (.int .u64)))⟩,
  ⟨160, .pointer 3, 1, 8, some (.pointer none), (.e (.one (.ptr)))⟩,
  ⟨162, .pointer 156, 1, 8, some (.pointer none), (.e (.one (.ptr)))⟩]
theorem TTok : TOk Try.prog TT := tok_of (by kernel_rfl)
def FNS : List Nat := [15, 16, 17, 18, 19, 20, 21, 22, 23, 24, 25, 26, 27, 28, 29, 30, 31, 32, 33, 34, 35, 36, 37, 38, 39, 40, 41, 42, 43, 44, 45, 46, 47, 48, 49, 50, 51, 52, 53, 54, 55, 56, 57, 58, 59, 60, 61, 62, 63, 64, 65, 66, 67, 68, 69, 70, 71, 72, 73, 74, 75, 76, 78, 79, 80, 81, 82, 83, 84, 85, 86, 87, 88, 90, 91, 93, 94, 95, 96, 97, 98, 99, 100, 103, 104, 106, 107, 108, 109, 111, 112, 113, 114, 115, 116, 117, 118, 119, 120, 121, 122, 124, 127, 128, 129, 130, 131, 132, 133]
theorem FNSok : FOk Try.prog FNS := fok_of (by kernel_rfl)
theorem mixed : Try.prog.follows .mixedOrders = true := by kernel_rfl
def TCH : List Nat := []

/- 3 pilaster/pilasterlaw49.HeapBasics -/
noncomputable def c3 : Code := match Try.f3.body with
  | some c => c
  | none => .skip
noncomputable def cfg3 : Cfg := ⟨Try.prog, TT, FNS, [5, 9], [(5, 5), (9, 9)], [], TCH, false, false⟩
def an3 : AnnG := (.seq .leaf (.join ⟨[], [], []⟩ (.seq .leaf (.cond (.seq .leaf .leaf) .leaf)) (.seq .leaf (.seq .leaf (.join ⟨[], [], []⟩ (.join ⟨[(37, .bool)], [], []⟩ .leaf (.cond (.seq .leaf (.cond (.seq .leaf .leaf) .leaf)) (.seq .leaf (.cond (.seq .leaf .leaf) .leaf)))) (.seq (.seq .leaf (.cond (.seq (.tree 10 (.quiet 0 (.quiet 1 (.quiet 2 (.quiet 3 (.quiet 4 (.quiet 5 (.quiet 6 (.quiet 7 (.quiet 9 (.eff 8 .fin .fin))))))))))) .leaf) .leaf)) (.seq (.tree 12 (.quiet 0 (.quiet 1 (.quiet 2 (.quiet 3 (.quiet 4 (.quiet 5 (.quiet 6 (.quiet 7 (.quiet 8 (.quiet 9 (.quiet 11 (.eff 10 .fin .fin))))))))))))) .leaf)))))))
def F3 (limit : Int) (h0a : Option Addr) (h0l : Nat) (h0c : Nat) (h1 : Int) (h2 : Int) (kind : Int) (length : Int) (g : G) (R : Value → G → Prop) : Prop :=
  ∀ J : G → Prop,
  (∀ g1 : G, ((CallsP Try.prog 17 #[(.int .i64 limit)] g1 fun v g2 =>
  ∃ x00a : Option Addr, ∃ x00l : Nat, ∃ x00c : Nat, ∃ x01 : Int, ∃ x02 : Int, ∃ x1 : Int, v = (.tuple ⟨[(.agg ⟨[(.slice x00a x00l x00c), (.int .i64 x01), (.int .i64 x02)]⟩), (.int .i64 x1)]⟩) ∧ ∀ g3 : G, Ex g2 g3 →
  (CallsP Try.prog 18 #[(.int .i64 kind), (.int .i64 length)] g3 fun v g4 =>
  ∃ x0 : Int, ∃ x1_1 : Int, v = (.tuple ⟨[(.int .i64 x0), (.int .i64 x1_1)]⟩) ∧ ∀ J_1 : G → Prop,
  (∀ g5 : G, ((CallsP Try.prog 22 #[(.int .i64 kind), (.int .i64 length)] g5 fun v g6 =>
  ∃ x : Bool, v = (.bool x) ∧ ifB (!x)
  (∀ g7 : G, Ex g6 g7 →
  ifB (eqI x0 (0 : Int))
  (ifB (eqI x1_1 (2 : Int))
  ((CallsP Try.prog 21 #[(.agg ⟨[(.slice h0a h0l h0c), (.int .i64 h1), (.int .i64 h2)]⟩)] g7 fun v g8 =>
  ∃ x_1 : Bool, v = (.bool x_1) ∧ (CallsP Try.prog 23 #[(.agg ⟨[(.slice h0a h0l h0c), (.int .i64 h1), (.int .i64 h2)]⟩)] g8 fun v g9 =>
  ∃ x_2 : Bool, v = (.bool x_2) ∧ ∀ g10 : G, Ex g9 g10 →
  R (.bool (x_1 == x_2)) g10)))
  (∀ g11 : G, Ex g7 g11 →
  R (.bool false) g11))
  (∀ g12 : G, Ex g7 g12 →
  R (.bool false) g12))
  (∀ g13 : G, Ex g6 g13 →
  InI64 (length + (3 : Int)) ∧ ifB (eqI x0 (length + (3 : Int)))
  (ifB (eqI x1_1 (0 : Int))
  ((CallsP Try.prog 21 #[(.agg ⟨[(.slice h0a h0l h0c), (.int .i64 h1), (.int .i64 h2)]⟩)] g13 fun v g14 =>
  ∃ x_3 : Bool, v = (.bool x_3) ∧ (CallsP Try.prog 23 #[(.agg ⟨[(.slice h0a h0l h0c), (.int .i64 h1), (.int .i64 h2)]⟩)] g14 fun v g15 =>
  ∃ x_4 : Bool, v = (.bool x_4) ∧ ∀ g16 : G, Ex g15 g16 →
  R (.bool (x_3 == x_4)) g16)))
  (∀ g17 : G, Ex g13 g17 →
  R (.bool false) g17))
  (∀ g18 : G, Ex g13 g18 →
  R (.bool false) g18)))) → J_1 g5) →
  ∀ J_2 : Bool → G → Prop,
  (∀ v_1 : Bool, ∀ g19 : G, (ifB v_1
  ((CallsP Try.prog 19 #[(.agg ⟨[(.slice x00a x00l x00c), (.int .i64 x01), (.int .i64 x02)]⟩)] g19 fun v g20 =>
  ∃ x_5 : Bool, v = (.bool x_5) ∧ ifB (!x_5)
  (∀ g21 : G, Ex g20 g21 →
  R (.bool false) g21)
  (ifB (!eqI x1 (2 : Int))
  (∀ g22 : G, Ex g20 g22 →
  R (.bool false) g22)
  (J_1 g20))))
  ((CallsP Try.prog 20 #[(.agg ⟨[(.slice x00a x00l x00c), (.int .i64 x01), (.int .i64 x02)]⟩), (.agg ⟨[(.slice none 0 0), (.int .i64 (0 : Int)), (.int .i64 limit)]⟩)] g19 fun v g23 =>
  ∃ x_6 : Bool, v = (.bool x_6) ∧ ifB (!x_6)
  (∀ g24 : G, Ex g23 g24 →
  R (.bool false) g24)
  (ifB (!eqI x1 (0 : Int))
  (∀ g25 : G, Ex g23 g25 →
  R (.bool false) g25)
  ((CallsP Try.prog 21 #[(.agg ⟨[(.slice x00a x00l x00c), (.int .i64 x01), (.int .i64 x02)]⟩)] g23 fun v g26 =>
  ∃ x_7 : Bool, v = (.bool x_7) ∧ ifB (!x_7)
  (∀ g27 : G, Ex g26 g27 →
  R (.bool false) g27)
  (J_1 g26))))))) → J_2 v_1 g19) →
  ifB (ltI limit (0 : Int))
  (J_2 true g4)
  (J_2 (ltI (65536 : Int) limit) g4)))) → J g1) →
  ∀ g28 : G, Ex g g28 →
  (CallsP Try.prog 15 #[] g28 fun v g29 =>
  ∃ x_8 : Bool, v = (.bool x_8) ∧ ifB (!x_8)
  ((CallsP Try.prog 15 #[] g29 fun v g30 =>
  ∃ x_9 : Bool, v = (.bool x_9) ∧ ∀ g31 : G, Ex g30 g31 →
  R (.bool x_9) g31))
  ((CallsP Try.prog 16 #[(.agg ⟨[(.slice h0a h0l h0c), (.int .i64 h1), (.int .i64 h2)]⟩)] g29 fun v g32 =>
  ∃ x_10 : Bool, v = (.bool x_10) ∧ ifB (!x_10)
  ((CallsP Try.prog 15 #[] g32 fun v g33 =>
  ∃ x_11 : Bool, v = (.bool x_11) ∧ ∀ g34 : G, Ex g33 g34 →
  R (.bool x_11) g34))
  (J g32))))
theorem F3_eq (limit : Int) (h0a : Option Addr) (h0l : Nat) (h0c : Nat) (h1 : Int) (h2 : Int) (kind : Int) (length : Int) (g : G) (R : Value → G → Prop) : fnG cfg3 91 [.tmp 8] c3 an3 [(.int .i64 limit), (.agg ⟨[(.slice h0a h0l h0c), (.int .i64 h1), (.int .i64 h2)]⟩), (.int .i64 kind), (.int .i64 length)] g nobody R = F3 limit h0a h0l h0c h1 h2 kind length g R := by kernel_rfl
theorem call3 (limit : Int) (h0a : Option Addr) (h0l : Nat) (h0c : Nat) (h1 : Int) (h2 : Int) (kind : Int) (length : Int) (g : G) (R : Value → G → Prop) (hF : F3 limit h0a h0l h0c h1 h2 kind length g R) : CallsG Try.prog 3 #[(.int .i64 limit), (.agg ⟨[(.slice h0a h0l h0c), (.int .i64 h1), (.int .i64 h2)]⟩), (.int .i64 kind), (.int .i64 length)] g nobody R :=
  fn_soundG (c := cfg3) TTok FNSok mixed Try.func3 (show Try.f3.body = some c3 by kernel_rfl) (show Try.f3.ntmps = 91 by kernel_rfl) (show Try.f3.results.toList = [.tmp 8] by kernel_rfl) rfl ((F3_eq limit h0a h0l h0c h1 h2 kind length g R).mpr hF)

/- 4 pilaster/pilasterlaw49.HeapPuts -/
noncomputable def c4 : Code := match Try.f4.body with
  | some c => c
  | none => .skip
noncomputable def cfg4 : Cfg := ⟨Try.prog, TT, FNS, [3, 5, 7, 8, 10, 11, 13, 14, 16, 17], [(3, 3), (5, 5), (7, 7), (8, 8), (10, 10), (11, 11), (13, 13), (14, 14), (16, 16), (17, 17)], [], TCH, false, false⟩
def an4 : AnnG := (.seq .leaf (.seq (.join ⟨[(45, .bool)], [], []⟩ .leaf (.cond (.seq .leaf .leaf) .leaf)) (.seq .leaf (.seq .leaf (.seq (.seq .leaf (.cond (.seq .leaf .leaf) .leaf)) (.join ⟨[], [], []⟩ (.seq .leaf (.cond (.seq .leaf (.cond (.seq .leaf .leaf) .leaf)) (.seq .leaf (.join ⟨[(143, .bool)], [], []⟩ .leaf (.cond (.seq .leaf .leaf) .leaf))))) (.seq (.seq .leaf (.cond (.seq .leaf .leaf) .leaf)) (.seq .leaf (.seq (.seq .leaf (.cond (.seq .leaf .leaf) .leaf)) (.seq .leaf .leaf))))))))))
def F4 (h0a : Option Addr) (h0l : Nat) (h0c : Nat) (h1 : Int) (h2 : Int) (s : ByteArray) (v0 : Int) (v1 : Int) (v2 : ByteArray) (v3a : Option Addr) (v3l : Nat) (v3c : Nat) (v4a : Option Addr) (v4l : Nat) (v4c : Nat) (g : G) (R : Value → G → Prop) : Prop :=
  ∀ J : Bool → G → Prop,
  (∀ v_1 : Bool, ∀ g1 : G, (ifB v_1
  ((CallsP Try.prog 15 #[] g1 fun v g2 =>
  ∃ x : Bool, v = (.bool x) ∧ ∀ g3 : G, Ex g2 g3 →
  R (.bool x) g3))
  ((CallsP Try.prog 25 #[(.agg ⟨[(.slice h0a h0l h0c), (.int .i64 h1), (.int .i64 h2)]⟩), (.string s)] g1 fun v g4 =>
  ∃ x00a : Option Addr, ∃ x00l : Nat, ∃ x00c : Nat, ∃ x01 : Int, ∃ x02 : Int, ∃ x10 : Bool, ∃ x11 : Int, ∃ x2 : Int, v = (.tuple ⟨[(.agg ⟨[(.slice x00a x00l x00c), (.int .i64 x01), (.int .i64 x02)]⟩), (.agg ⟨[(.bool x10), (.int .i64 x11)]⟩), (.int .i64 x2)]⟩) ∧ ∀ g5 : G, Ex g4 g5 →
  (CallsP Try.prog 26 #[(.agg ⟨[(.slice h0a h0l h0c), (.int .i64 h1), (.int .i64 h2)]⟩), (.agg ⟨[(.int .i64 v0), (.int .i64 v1), (.string v2), (.slice v3a v3l v3c), (.slice v4a v4l v4c)]⟩)] g5 fun v g6 =>
  ∃ x00a_1 : Option Addr, ∃ x00l_1 : Nat, ∃ x00c_1 : Nat, ∃ x01_1 : Int, ∃ x02_1 : Int, ∃ x10_1 : Bool, ∃ x11_1 : Int, ∃ x2_1 : Int, v = (.tuple ⟨[(.agg ⟨[(.slice x00a_1 x00l_1 x00c_1), (.int .i64 x01_1), (.int .i64 x02_1)]⟩), (.agg ⟨[(.bool x10_1), (.int .i64 x11_1)]⟩), (.int .i64 x2_1)]⟩) ∧ ∀ g7 : G, Ex g6 g7 →
  (CallsP Try.prog 23 #[(.agg ⟨[(.slice h0a h0l h0c), (.int .i64 h1), (.int .i64 h2)]⟩)] g7 fun v g8 =>
  ∃ x_1 : Bool, v = (.bool x_1) ∧ ifB (!x_1)
  ((CallsP Try.prog 19 #[(.agg ⟨[(.slice x00a x00l x00c), (.int .i64 x01), (.int .i64 x02)]⟩)] g8 fun v g9 =>
  ∃ x_2 : Bool, v = (.bool x_2) ∧ ifB x_2
  (ifB ((x10 == false) && ((eqI x11 (0 : Int)) && true))
  (ifB (eqI x2 (1 : Int))
  ((CallsP Try.prog 19 #[(.agg ⟨[(.slice x00a_1 x00l_1 x00c_1), (.int .i64 x01_1), (.int .i64 x02_1)]⟩)] g9 fun v g10 =>
  ∃ x_3 : Bool, v = (.bool x_3) ∧ ifB x_3
  (ifB ((x10_1 == false) && ((eqI x11_1 (0 : Int)) && true))
  (∀ g11 : G, Ex g10 g11 →
  R (.bool (eqI x2_1 (1 : Int))) g11)
  (∀ g12 : G, Ex g10 g12 →
  R (.bool false) g12))
  (∀ g13 : G, Ex g10 g13 →
  R (.bool false) g13)))
  (∀ g14 : G, Ex g9 g14 →
  R (.bool false) g14))
  (∀ g15 : G, Ex g9 g15 →
  R (.bool false) g15))
  (∀ g16 : G, Ex g9 g16 →
  R (.bool false) g16)))
  (∀ J_1 : G → Prop,
  (∀ g17 : G, ((CallsP Try.prog 28 #[(.agg ⟨[(.int .i64 v0), (.int .i64 v1), (.string v2), (.slice v3a v3l v3c), (.slice v4a v4l v4c)]⟩)] g17 fun v g18 =>
  ∃ x_4 : Bool, v = (.bool x_4) ∧ ifB (!x_4)
  ((CallsP Try.prog 19 #[(.agg ⟨[(.slice x00a_1 x00l_1 x00c_1), (.int .i64 x01_1), (.int .i64 x02_1)]⟩)] g18 fun v g19 =>
  ∃ x_5 : Bool, v = (.bool x_5) ∧ ifB x_5
  (ifB ((x10_1 == false) && ((eqI x11_1 (0 : Int)) && true))
  (∀ g20 : G, Ex g19 g20 →
  R (.bool (eqI x2_1 (1 : Int))) g20)
  (∀ g21 : G, Ex g19 g21 →
  R (.bool false) g21))
  (∀ g22 : G, Ex g19 g22 →
  R (.bool false) g22)))
  ((CallsP Try.prog 29 #[(.agg ⟨[(.slice h0a h0l h0c), (.int .i64 h1), (.int .i64 h2)]⟩), (.agg ⟨[(.int .i64 v0), (.int .i64 v1), (.string v2), (.slice v3a v3l v3c), (.slice v4a v4l v4c)]⟩)] g18 fun v g23 =>
  ∃ x00a_2 : Option Addr, ∃ x00l_2 : Nat, ∃ x00c_2 : Nat, ∃ x01_2 : Int, ∃ x02_2 : Int, ∃ x10_2 : Bool, ∃ x11_2 : Int, ∃ x2_2 : Bool, v = (.tuple ⟨[(.agg ⟨[(.slice x00a_2 x00l_2 x00c_2), (.int .i64 x01_2), (.int .i64 x02_2)]⟩), (.agg ⟨[(.bool x10_2), (.int .i64 x11_2)]⟩), (.bool x2_2)]⟩) ∧ ifB (!x2_2)
  (∀ g24 : G, Ex g23 g24 →
  (CallsP Try.prog 19 #[(.agg ⟨[(.slice x00a_1 x00l_1 x00c_1), (.int .i64 x01_1), (.int .i64 x02_1)]⟩)] g24 fun v g25 =>
  ∃ x_6 : Bool, v = (.bool x_6) ∧ ifB x_6
  (ifB ((x10_1 == false) && ((eqI x11_1 (0 : Int)) && true))
  (∀ g26 : G, Ex g25 g26 →
  R (.bool (eqI x2_1 (25 : Int))) g26)
  (∀ g27 : G, Ex g25 g27 →
  R (.bool false) g27))
  (∀ g28 : G, Ex g25 g28 →
  R (.bool false) g28)))
  (∀ g29 : G, Ex g23 g29 →
  (CallsP Try.prog 20 #[(.agg ⟨[(.slice x00a_1 x00l_1 x00c_1), (.int .i64 x01_1), (.int .i64 x02_1)]⟩), (.agg ⟨[(.slice x00a_2 x00l_2 x00c_2), (.int .i64 x01_2), (.int .i64 x02_2)]⟩)] g29 fun v g30 =>
  ∃ x_7 : Bool, v = (.bool x_7) ∧ ifB x_7
  (ifB ((x10_1 == x10_2) && ((eqI x11_1 x11_2) && true))
  (∀ g31 : G, Ex g30 g31 →
  R (.bool (eqI x2_1 (0 : Int))) g31)
  (∀ g32 : G, Ex g30 g32 →
  R (.bool false) g32))
  (∀ g33 : G, Ex g30 g33 →
  R (.bool false) g33))))))) → J_1 g17) →
  ifB (ltI (16384 : Int) ((s.size : Nat) : Int))
  ((CallsP Try.prog 19 #[(.agg ⟨[(.slice x00a x00l x00c), (.int .i64 x01), (.int .i64 x02)]⟩)] g8 fun v g34 =>
  ∃ x_8 : Bool, v = (.bool x_8) ∧ ifB (!x_8)
  (∀ g35 : G, Ex g34 g35 →
  R (.bool false) g35)
  (ifB (!((x10 == false) && ((eqI x11 (0 : Int)) && true)))
  (∀ g36 : G, Ex g34 g36 →
  R (.bool false) g36)
  (ifB (!eqI x2 (5 : Int))
  (∀ g37 : G, Ex g34 g37 →
  R (.bool false) g37)
  (J_1 g34)))))
  ((CallsP Try.prog 27 #[(.agg ⟨[(.slice h0a h0l h0c), (.int .i64 h1), (.int .i64 h2)]⟩), (.string s)] g8 fun v g38 =>
  ∃ x00a_3 : Option Addr, ∃ x00l_3 : Nat, ∃ x00c_3 : Nat, ∃ x01_3 : Int, ∃ x02_3 : Int, ∃ x10_3 : Bool, ∃ x11_3 : Int, ∃ x2_3 : Bool, v = (.tuple ⟨[(.agg ⟨[(.slice x00a_3 x00l_3 x00c_3), (.int .i64 x01_3), (.int .i64 x02_3)]⟩), (.agg ⟨[(.bool x10_3), (.int .i64 x11_3)]⟩), (.bool x2_3)]⟩) ∧ ∀ J_2 : Bool → G → Prop,
  (∀ v_2 : Bool, ∀ g39 : G, (ifB v_2
  (∀ g40 : G, Ex g39 g40 →
  R (.bool false) g40)
  (J_1 g39)) → J_2 v_2 g39) →
  ifB x2_3
  (∀ g41 : G, Ex g38 g41 →
  (CallsP Try.prog 20 #[(.agg ⟨[(.slice x00a x00l x00c), (.int .i64 x01), (.int .i64 x02)]⟩), (.agg ⟨[(.slice x00a_3 x00l_3 x00c_3), (.int .i64 x01_3), (.int .i64 x02_3)]⟩)] g41 fun v g42 =>
  ∃ x_9 : Bool, v = (.bool x_9) ∧ ifB (!x_9)
  (J_2 true g42)
  (ifB (!((x10 == x10_3) && ((eqI x11 x11_3) && true)))
  (J_2 true g42)
  (ifB (!eqI x2 (0 : Int))
  (J_2 true g42)
  (ifB (!x2_3)
  ((CallsP Try.prog 19 #[(.agg ⟨[(.slice x00a x00l x00c), (.int .i64 x01), (.int .i64 x02)]⟩)] g42 fun v g43 =>
  ∃ x_10 : Bool, v = (.bool x_10) ∧ ifB (!x_10)
  (J_2 true g43)
  (ifB (!((x10 == false) && ((eqI x11 (0 : Int)) && true)))
  (J_2 true g43)
  (J_2 (!eqI x2 (25 : Int)) g43))))
  (J_2 false g42))))))
  (ifB (!x2_3)
  (∀ g44 : G, Ex g38 g44 →
  (CallsP Try.prog 19 #[(.agg ⟨[(.slice x00a x00l x00c), (.int .i64 x01), (.int .i64 x02)]⟩)] g44 fun v g45 =>
  ∃ x_11 : Bool, v = (.bool x_11) ∧ ifB (!x_11)
  (J_2 true g45)
  (ifB (!((x10 == false) && ((eqI x11 (0 : Int)) && true)))
  (J_2 true g45)
  (J_2 (!eqI x2 (25 : Int)) g45))))
  (∀ g46 : G, Ex g38 g46 →
  J_2 false g46)))))))))) → J v_1 g1) →
  ∀ g47 : G, Ex g g47 →
  (CallsP Try.prog 15 #[] g47 fun v g48 =>
  ∃ x_12 : Bool, v = (.bool x_12) ∧ ifB (!x_12)
  (J true g48)
  ((CallsP Try.prog 16 #[(.agg ⟨[(.slice h0a h0l h0c), (.int .i64 h1), (.int .i64 h2)]⟩)] g48 fun v g49 =>
  ∃ x_13 : Bool, v = (.bool x_13) ∧ ifB (!x_13)
  (J true g49)
  (ifB (ltI (300 : Int) ((s.size : Nat) : Int))
  (ifB (leI ((s.size : Nat) : Int) (16384 : Int))
  (J true g49)
  (ifB (ltI (16484 : Int) ((s.size : Nat) : Int))
  (J true g49)
  ((CallsP Try.prog 24 #[(.agg ⟨[(.int .i64 v0), (.int .i64 v1), (.string v2), (.slice v3a v3l v3c), (.slice v4a v4l v4c)]⟩)] g49 fun v g50 =>
  ∃ x_14 : Bool, v = (.bool x_14) ∧ J (!x_14) g50))))
  (ifB (ltI (16484 : Int) ((s.size : Nat) : Int))
  (J true g49)
  ((CallsP Try.prog 24 #[(.agg ⟨[(.int .i64 v0), (.int .i64 v1), (.string v2), (.slice v3a v3l v3c), (.slice v4a v4l v4c)]⟩)] g49 fun v g51 =>
  ∃ x_15 : Bool, v = (.bool x_15) ∧ J (!x_15) g51)))))))
theorem F4_eq (h0a : Option Addr) (h0l : Nat) (h0c : Nat) (h1 : Int) (h2 : Int) (s : ByteArray) (v0 : Int) (v1 : Int) (v2 : ByteArray) (v3a : Option Addr) (v3l : Nat) (v3c : Nat) (v4a : Option Addr) (v4l : Nat) (v4c : Nat) (g : G) (R : Value → G → Prop) : fnG cfg4 190 [.tmp 6] c4 an4 [(.agg ⟨[(.slice h0a h0l h0c), (.int .i64 h1), (.int .i64 h2)]⟩), (.string s), (.agg ⟨[(.int .i64 v0), (.int .i64 v1), (.string v2), (.slice v3a v3l v3c), (.slice v4a v4l v4c)]⟩)] g nobody R = F4 h0a h0l h0c h1 h2 s v0 v1 v2 v3a v3l v3c v4a v4l v4c g R := by kernel_rfl
theorem call4 (h0a : Option Addr) (h0l : Nat) (h0c : Nat) (h1 : Int) (h2 : Int) (s : ByteArray) (v0 : Int) (v1 : Int) (v2 : ByteArray) (v3a : Option Addr) (v3l : Nat) (v3c : Nat) (v4a : Option Addr) (v4l : Nat) (v4c : Nat) (g : G) (R : Value → G → Prop) (hF : F4 h0a h0l h0c h1 h2 s v0 v1 v2 v3a v3l v3c v4a v4l v4c g R) : CallsG Try.prog 4 #[(.agg ⟨[(.slice h0a h0l h0c), (.int .i64 h1), (.int .i64 h2)]⟩), (.string s), (.agg ⟨[(.int .i64 v0), (.int .i64 v1), (.string v2), (.slice v3a v3l v3c), (.slice v4a v4l v4c)]⟩)] g nobody R :=
  fn_soundG (c := cfg4) TTok FNSok mixed Try.func4 (show Try.f4.body = some c4 by kernel_rfl) (show Try.f4.ntmps = 190 by kernel_rfl) (show Try.f4.results.toList = [.tmp 6] by kernel_rfl) rfl ((F4_eq h0a h0l h0c h1 h2 s v0 v1 v2 v3a v3l v3c v4a v4l v4c g R).mpr hF)

/- 5 pilaster/pilasterlaw49.HeapAllocs -/
noncomputable def c5 : Code := match Try.f5.body with
  | some c => c
  | none => .skip
noncomputable def cfg5 : Cfg := ⟨Try.prog, TT, FNS, [4, 9, 10, 12, 13], [(4, 4), (9, 9), (10, 10), (12, 12), (13, 13)], [], TCH, false, false⟩
def an5 : AnnG := (.seq .leaf (.seq (.join ⟨[(36, .bool)], [], []⟩ .leaf (.cond (.seq .leaf .leaf) .leaf)) (.seq .leaf (.seq (.seq .leaf (.cond (.seq .leaf .leaf) .leaf)) (.seq .leaf (.seq .leaf .leaf))))))
def F5 (h0a : Option Addr) (h0l : Nat) (h0c : Nat) (h1 : Int) (h2 : Int) (kind : Int) (n : Int) (la : Option Addr) (ll : Nat) (lc : Nat) (g : G) (R : Value → G → Prop) : Prop :=
  ∀ J : Bool → G → Prop,
  (∀ v_1 : Bool, ∀ g1 : G, (ifB v_1
  ((CallsP Try.prog 15 #[] g1 fun v g2 =>
  ∃ x : Bool, v = (.bool x) ∧ ∀ g3 : G, Ex g2 g3 →
  R (.bool x) g3))
  ((CallsP Try.prog 30 #[(.agg ⟨[(.slice h0a h0l h0c), (.int .i64 h1), (.int .i64 h2)]⟩), (.int .i64 kind), (.int .i64 n), (.slice la ll lc)] g1 fun v g4 =>
  ∃ x00a : Option Addr, ∃ x00l : Nat, ∃ x00c : Nat, ∃ x01 : Int, ∃ x02 : Int, ∃ x10 : Bool, ∃ x11 : Int, ∃ x2 : Int, v = (.tuple ⟨[(.agg ⟨[(.slice x00a x00l x00c), (.int .i64 x01), (.int .i64 x02)]⟩), (.agg ⟨[(.bool x10), (.int .i64 x11)]⟩), (.int .i64 x2)]⟩) ∧ ∀ g5 : G, Ex g4 g5 →
  (CallsP Try.prog 23 #[(.agg ⟨[(.slice h0a h0l h0c), (.int .i64 h1), (.int .i64 h2)]⟩)] g5 fun v g6 =>
  ∃ x_1 : Bool, v = (.bool x_1) ∧ ifB (!x_1)
  ((CallsP Try.prog 19 #[(.agg ⟨[(.slice x00a x00l x00c), (.int .i64 x01), (.int .i64 x02)]⟩)] g6 fun v g7 =>
  ∃ x_2 : Bool, v = (.bool x_2) ∧ ifB x_2
  (ifB ((x10 == false) && ((eqI x11 (0 : Int)) && true))
  (∀ g8 : G, Ex g7 g8 →
  R (.bool (eqI x2 (1 : Int))) g8)
  (∀ g9 : G, Ex g7 g9 →
  R (.bool false) g9))
  (∀ g10 : G, Ex g7 g10 →
  R (.bool false) g10)))
  ((CallsP Try.prog 31 #[(.agg ⟨[(.slice h0a h0l h0c), (.int .i64 h1), (.int .i64 h2)]⟩), (.int .i64 kind), (.int .i64 n), (.slice la ll lc)] g6 fun v g11 =>
  ∃ x00a_1 : Option Addr, ∃ x00l_1 : Nat, ∃ x00c_1 : Nat, ∃ x01_1 : Int, ∃ x02_1 : Int, ∃ x10_1 : Bool, ∃ x11_1 : Int, ∃ x2_1 : Int, v = (.tuple ⟨[(.agg ⟨[(.slice x00a_1 x00l_1 x00c_1), (.int .i64 x01_1), (.int .i64 x02_1)]⟩), (.agg ⟨[(.bool x10_1), (.int .i64 x11_1)]⟩), (.int .i64 x2_1)]⟩) ∧ ∀ g12 : G, Ex g11 g12 →
  (CallsP Try.prog 20 #[(.agg ⟨[(.slice x00a x00l x00c), (.int .i64 x01), (.int .i64 x02)]⟩), (.agg ⟨[(.slice x00a_1 x00l_1 x00c_1), (.int .i64 x01_1), (.int .i64 x02_1)]⟩)] g12 fun v g13 =>
  ∃ x_3 : Bool, v = (.bool x_3) ∧ ifB x_3
  (ifB ((x10 == x10_1) && ((eqI x11 x11_1) && true))
  (∀ g14 : G, Ex g13 g14 →
  R (.bool (eqI x2 x2_1)) g14)
  (∀ g15 : G, Ex g13 g15 →
  R (.bool false) g15))
  (∀ g16 : G, Ex g13 g16 →
  R (.bool false) g16)))))))) → J v_1 g1) →
  ∀ g17 : G, Ex g g17 →
  (CallsP Try.prog 15 #[] g17 fun v g18 =>
  ∃ x_4 : Bool, v = (.bool x_4) ∧ ifB (!x_4)
  (J true g18)
  ((CallsP Try.prog 16 #[(.agg ⟨[(.slice h0a h0l h0c), (.int .i64 h1), (.int .i64 h2)]⟩)] g18 fun v g19 =>
  ∃ x_5 : Bool, v = (.bool x_5) ∧ ifB (!x_5)
  (J true g19)
  (ifB (ltI (100 : Int) ((ll : Nat) : Int))
  (ifB (leI ((ll : Nat) : Int) (1000 : Int))
  (J true g19)
  (J (ltI (1010 : Int) ((ll : Nat) : Int)) g19))
  (J (ltI (1010 : Int) ((ll : Nat) : Int)) g19)))))
theorem F5_eq (h0a : Option Addr) (h0l : Nat) (h0c : Nat) (h1 : Int) (h2 : Int) (kind : Int) (n : Int) (la : Option Addr) (ll : Nat) (lc : Nat) (g : G) (R : Value → G → Prop) : fnG cfg5 83 [.tmp 8] c5 an5 [(.agg ⟨[(.slice h0a h0l h0c), (.int .i64 h1), (.int .i64 h2)]⟩), (.int .i64 kind), (.int .i64 n), (.slice la ll lc)] g nobody R = F5 h0a h0l h0c h1 h2 kind n la ll lc g R := by kernel_rfl
theorem call5 (h0a : Option Addr) (h0l : Nat) (h0c : Nat) (h1 : Int) (h2 : Int) (kind : Int) (n : Int) (la : Option Addr) (ll : Nat) (lc : Nat) (g : G) (R : Value → G → Prop) (hF : F5 h0a h0l h0c h1 h2 kind n la ll lc g R) : CallsG Try.prog 5 #[(.agg ⟨[(.slice h0a h0l h0c), (.int .i64 h1), (.int .i64 h2)]⟩), (.int .i64 kind), (.int .i64 n), (.slice la ll lc)] g nobody R :=
  fn_soundG (c := cfg5) TTok FNSok mixed Try.func5 (show Try.f5.body = some c5 by kernel_rfl) (show Try.f5.ntmps = 83 by kernel_rfl) (show Try.f5.results.toList = [.tmp 8] by kernel_rfl) rfl ((F5_eq h0a h0l h0c h1 h2 kind n la ll lc g R).mpr hF)

/- 6 pilaster/pilasterlaw49.HeapReads -/
noncomputable def c6 : Code := match Try.f6.body with
  | some c => c
  | none => .skip
noncomputable def cfg6 : Cfg := ⟨Try.prog, TT, FNS, [2, 3], [(2, 2), (3, 3), (116, 3)], [], TCH, false, false⟩
def an6 : AnnG := (.seq .leaf (.join ⟨[], [], []⟩ (.seq .leaf (.cond (.seq .leaf .leaf) .leaf)) (.seq .leaf (.seq .leaf (.seq .leaf (.seq (.seq .leaf (.cond (.seq .leaf .leaf) .leaf)) (.join ⟨[], [], []⟩ (.seq .leaf (.cond (.seq .leaf .leaf) .leaf)) (.seq (.seq .leaf (.cond (.seq .leaf .leaf) .leaf)) (.seq .leaf (.join ⟨[], [], []⟩ (.seq .leaf (.cond (.seq .leaf .leaf) .leaf)) (.seq (.seq .leaf (.cond (.seq .leaf .leaf) .leaf)) (.seq .leaf .leaf))))))))))))
def F6 (h0a : Option Addr) (h0l : Nat) (h0c : Nat) (h1 : Int) (h2 : Int) (w0 : Bool) (w1 : Int) (g : G) (R : Value → G → Prop) : Prop :=
  ∀ J : G → Prop,
  (∀ g1 : G, ((CallsP Try.prog 32 #[(.agg ⟨[(.slice h0a h0l h0c), (.int .i64 h1), (.int .i64 h2)]⟩), (.agg ⟨[(.bool w0), (.int .i64 w1)]⟩)] g1 fun v g2 =>
  ∃ x0 : Int, ∃ x1 : Int, ∃ x2a : Option Addr, ∃ x2l : Nat, ∃ x2c : Nat, ∃ x3 : Int, v = (.tuple ⟨[(.int .i64 x0), (.int .i64 x1), (.slice x2a x2l x2c), (.int .i64 x3)]⟩) ∧ (CallsP Try.prog 33 #[(.agg ⟨[(.slice h0a h0l h0c), (.int .i64 h1), (.int .i64 h2)]⟩), (.agg ⟨[(.bool w0), (.int .i64 w1)]⟩)] g2 fun v g3 =>
  ∃ x0_1 : ByteArray, ∃ x1_1 : Int, v = (.tuple ⟨[(.string x0_1), (.int .i64 x1_1)]⟩) ∧ (CallsP Try.prog 34 #[(.agg ⟨[(.slice h0a h0l h0c), (.int .i64 h1), (.int .i64 h2)]⟩)] g3 fun v g4 =>
  ∃ x0a : Option Addr, ∃ x0l : Nat, ∃ x0c : Nat, ∃ x1_2 : Int, v = (.tuple ⟨[(.slice x0a x0l x0c), (.int .i64 x1_2)]⟩) ∧ (CallsP Try.prog 23 #[(.agg ⟨[(.slice h0a h0l h0c), (.int .i64 h1), (.int .i64 h2)]⟩)] g4 fun v g5 =>
  ∃ x : Bool, v = (.bool x) ∧ ifB (!x)
  (ifB (eqI x0 (0 : Int))
  (ifB (eqI x1 (0 : Int))
  (ifB (eqI ((x2l : Nat) : Int) (0 : Int))
  (ifB (eqI x3 (1 : Int))
  (ifB (strEq x0_1 (bs []))
  (ifB (eqI x1_1 (1 : Int))
  (ifB (eqI ((x0l : Nat) : Int) (0 : Int))
  (∀ g6 : G, Ex g5 g6 →
  R (.bool (eqI x1_2 (1 : Int))) g6)
  (∀ g7 : G, Ex g5 g7 →
  R (.bool false) g7))
  (∀ g8 : G, Ex g5 g8 →
  R (.bool false) g8))
  (∀ g9 : G, Ex g5 g9 →
  R (.bool false) g9))
  (∀ g10 : G, Ex g5 g10 →
  R (.bool false) g10))
  (∀ g11 : G, Ex g5 g11 →
  R (.bool false) g11))
  (∀ g12 : G, Ex g5 g12 →
  R (.bool false) g12))
  (∀ g13 : G, Ex g5 g13 →
  R (.bool false) g13))
  (∀ J_1 : G → Prop,
  (∀ g14 : G, ((CallsP Try.prog 37 #[(.agg ⟨[(.slice h0a h0l h0c), (.int .i64 h1), (.int .i64 h2)]⟩), (.agg ⟨[(.bool w0), (.int .i64 w1)]⟩)] g14 fun v g15 =>
  ∃ x_1 : Bool, v = (.bool x_1) ∧ ifB (!x_1)
  (ifB (eqI x0 (0 : Int))
  (ifB (eqI x1 (0 : Int))
  (ifB (eqI ((x2l : Nat) : Int) (0 : Int))
  (ifB (eqI x3 (2 : Int))
  (ifB (strEq x0_1 (bs []))
  (∀ g16 : G, Ex g15 g16 →
  R (.bool (eqI x1_1 (2 : Int))) g16)
  (∀ g17 : G, Ex g15 g17 →
  R (.bool false) g17))
  (∀ g18 : G, Ex g15 g18 →
  R (.bool false) g18))
  (∀ g19 : G, Ex g15 g19 →
  R (.bool false) g19))
  (∀ g20 : G, Ex g15 g20 →
  R (.bool false) g20))
  (∀ g21 : G, Ex g15 g21 →
  R (.bool false) g21))
  ((CallsP Try.prog 38 #[(.agg ⟨[(.slice h0a h0l h0c), (.int .i64 h1), (.int .i64 h2)]⟩), (.int .i64 w1)] g15 fun v g22 =>
  ∃ x0_2 : Int, ∃ x1_3 : Int, ∃ x2a_1 : Option Addr, ∃ x2l_1 : Nat, ∃ x2c_1 : Nat, v = (.tuple ⟨[(.int .i64 x0_2), (.int .i64 x1_3), (.slice x2a_1 x2l_1 x2c_1)]⟩) ∧ ∀ J_2 : G → Prop,
  (∀ g23 : G, (ifB (!eqI x0_2 (4 : Int))
  (ifB (strEq x0_1 (bs []))
  (∀ g24 : G, Ex g23 g24 →
  R (.bool (eqI x1_1 (12 : Int))) g24)
  (∀ g25 : G, Ex g23 g25 →
  R (.bool false) g25))
  ((CallsP Try.prog 40 #[(.slice x2a_1 x2l_1 x2c_1)] g23 fun v g26 =>
  ∃ x_2 : ByteArray, v = (.string x_2) ∧ ifB (strEq x0_1 x_2)
  (∀ g27 : G, Ex g26 g27 →
  R (.bool (eqI x1_1 (0 : Int))) g27)
  (∀ g28 : G, Ex g26 g28 →
  R (.bool false) g28)))) → J_2 g23) →
  ifB (!eqI x0 x0_2)
  (∀ g29 : G, Ex g22 g29 →
  R (.bool false) g29)
  (ifB (!eqI x1 x1_3)
  (∀ g30 : G, Ex g22 g30 →
  R (.bool false) g30)
  ((CallsP Try.prog 39 #[(.slice x2a x2l x2c), (.slice x2a_1 x2l_1 x2c_1)] g22 fun v g31 =>
  ∃ x_3 : Bool, v = (.bool x_3) ∧ ifB (!x_3)
  (∀ g32 : G, Ex g31 g32 →
  R (.bool false) g32)
  (ifB (!eqI x3 (0 : Int))
  (∀ g33 : G, Ex g31 g33 →
  R (.bool false) g33)
  (J_2 g31))))))))) → J_1 g14) →
  (CallsP Try.prog 36 #[(.agg ⟨[(.slice h0a h0l h0c), (.int .i64 h1), (.int .i64 h2)]⟩)] g5 fun v g34 =>
  ∃ xa : Option Addr, ∃ xl : Nat, ∃ xc : Nat, v = (.slice xa xl xc) ∧ (CallsP Try.prog 35 #[(.slice x0a x0l x0c), (.slice xa xl xc)] g34 fun v g35 =>
  ∃ x_4 : Bool, v = (.bool x_4) ∧ ifB (!x_4)
  (∀ g36 : G, Ex g35 g36 →
  R (.bool false) g36)
  (ifB (!eqI x1_2 (0 : Int))
  (∀ g37 : G, Ex g35 g37 →
  R (.bool false) g37)
  (J_1 g35)))))))))) → J g1) →
  ∀ g38 : G, Ex g g38 →
  (CallsP Try.prog 15 #[] g38 fun v g39 =>
  ∃ x_5 : Bool, v = (.bool x_5) ∧ ifB (!x_5)
  ((CallsP Try.prog 15 #[] g39 fun v g40 =>
  ∃ x_6 : Bool, v = (.bool x_6) ∧ ∀ g41 : G, Ex g40 g41 →
  R (.bool x_6) g41))
  ((CallsP Try.prog 16 #[(.agg ⟨[(.slice h0a h0l h0c), (.int .i64 h1), (.int .i64 h2)]⟩)] g39 fun v g42 =>
  ∃ x_7 : Bool, v = (.bool x_7) ∧ ifB (!x_7)
  ((CallsP Try.prog 15 #[] g42 fun v g43 =>
  ∃ x_8 : Bool, v = (.bool x_8) ∧ ∀ g44 : G, Ex g43 g44 →
  R (.bool x_8) g44))
  (J g42))))
theorem F6_eq (h0a : Option Addr) (h0l : Nat) (h0c : Nat) (h1 : Int) (h2 : Int) (w0 : Bool) (w1 : Int) (g : G) (R : Value → G → Prop) : fnG cfg6 156 [.tmp 4] c6 an6 [(.agg ⟨[(.slice h0a h0l h0c), (.int .i64 h1), (.int .i64 h2)]⟩), (.agg ⟨[(.bool w0), (.int .i64 w1)]⟩)] g nobody R = F6 h0a h0l h0c h1 h2 w0 w1 g R := by kernel_rfl
theorem call6 (h0a : Option Addr) (h0l : Nat) (h0c : Nat) (h1 : Int) (h2 : Int) (w0 : Bool) (w1 : Int) (g : G) (R : Value → G → Prop) (hF : F6 h0a h0l h0c h1 h2 w0 w1 g R) : CallsG Try.prog 6 #[(.agg ⟨[(.slice h0a h0l h0c), (.int .i64 h1), (.int .i64 h2)]⟩), (.agg ⟨[(.bool w0), (.int .i64 w1)]⟩)] g nobody R :=
  fn_soundG (c := cfg6) TTok FNSok mixed Try.func6 (show Try.f6.body = some c6 by kernel_rfl) (show Try.f6.ntmps = 156 by kernel_rfl) (show Try.f6.results.toList = [.tmp 4] by kernel_rfl) rfl ((F6_eq h0a h0l h0c h1 h2 w0 w1 g R).mpr hF)

/- 7 pilaster/pilasterlaw49.HeapRoom -/
noncomputable def c7 : Code := match Try.f7.body with
  | some c => c
  | none => .skip
noncomputable def cfg7 : Cfg := ⟨Try.prog, TT, FNS, [5, 14, 15, 18], [(5, 5), (14, 14), (15, 15), (18, 18), (119, 14), (134, 14)], [], TCH, false, false⟩
def an7 : AnnG := (.seq .leaf (.join ⟨[], [], []⟩ (.seq .leaf (.cond (.seq .leaf .leaf) .leaf)) (.seq .leaf (.seq (.seq .leaf (.cond (.seq .leaf .leaf) .leaf)) (.seq .leaf (.seq .leaf (.seq .leaf (.seq (.seq .leaf (.blk (.loop ⟨[(7, .int .i64), (8, .sl), (9, .sl), (44, .int .i64)], [(5, 5, 0)], [(5, [(.sl), (.int .i64), (.int .i64)])]⟩ (.seq .leaf (.seq (.cond .leaf .leaf) (.join ⟨[(7, .int .i64), (8, .sl), (9, .sl)], [(5, 5, 0)], [(5, [(.sl), (.int .i64), (.int .i64)])]⟩ (.blk (.seq .leaf (.seq .leaf (.seq (.seq .leaf (.blk (.loop ⟨[(55, .int .i64)], [], []⟩ (.seq .leaf (.seq (.cond .leaf .leaf) (.seq (.blk (.seq .leaf (.seq .leaf (.join ⟨[(72, .bool)], [], []⟩ .leaf (.cond .leaf .leaf))))) .leaf)))))) (.seq .leaf (.seq (.seq .leaf (.cond (.seq (.seq .leaf (.cond (.seq .leaf .leaf) .leaf)) .leaf) .leaf)) (.join ⟨[], [], []⟩ (.seq .leaf (.cond (.seq .leaf .leaf) .leaf)) (.seq (.treeP true [5] 4 (.quiet 0 (.quiet 1 (.quiet 2 (.eff 3 .fin .fin))))) (.treeB 11 (.quiet 0 (.quiet 1 (.quiet 4 (.quiet 8 (.quiet 9 (.eff 2 (.eff 3 (.eff 5 (.eff 6 (.eff 7 (.eff 10 .fin .fin) (.eff 10 (.eff 7 .fin .fin) .fin)) (.eff 10 (.eff 6 (.eff 7 .fin .fin) .fin) .fin)) (.eff 10 (.eff 5 (.eff 6 (.eff 7 .fin .fin) .fin) .fin) .fin)) (.eff 10 (.eff 3 (.eff 5 (.eff 6 (.eff 7 .fin .fin) .fin) .fin) .fin) .fin)) (.eff 10 (.eff 2 (.eff 3 (.eff 5 (.eff 6 (.eff 7 .fin .fin) .fin) .fin) .fin) .fin) .fin)))))))))))))))) .leaf)))))) (.seq (.seq .leaf (.blk (.loop ⟨[(151, .int .i64)], [], []⟩ (.seq .leaf (.seq (.cond .leaf .leaf) (.seq (.blk (.seq .leaf (.seq .leaf (.seq .leaf (.cond (.seq .leaf .leaf) .leaf))))) .leaf)))))) (.seq .leaf (.seq .leaf .leaf)))))))))))
def F7 (limit : Int) (lengthsa : Option Addr) (lengthsl : Nat) (lengthsc : Nat) (g : G) (R : Value → G → Prop) : Prop :=
  ∀ J : G → Prop,
  (∀ g1 : G, (InI64 limit ∧ (700 : Int) ≠ 0 ∧ (CallsP Try.prog 17 #[(.int .i64 (Int.tmod limit (700 : Int)))] g1 fun v g2 =>
  ∃ x00a : Option Addr, ∃ x00l : Nat, ∃ x00c : Nat, ∃ x01 : Int, ∃ x02 : Int, ∃ x1 : Int, v = (.tuple ⟨[(.agg ⟨[(.slice x00a x00l x00c), (.int .i64 x01), (.int .i64 x02)]⟩), (.int .i64 x1)]⟩) ∧ ifB (!eqI x1 (0 : Int))
  (∀ g3 : G, Ex g2 g3 →
  R (.bool false) g3)
  (∃ Inv : Nat → Int → Option Addr → Nat → Nat → Option Addr → Nat → Nat → Int → Option Addr → Nat → Nat → Int → Int → G → Prop, (∀ g4 : G, Ex g2 g4 →
  (∃ m0 : Nat, Inv m0 (0 : Int) none 0 0 none 0 0 (0 : Int) x00a x00l x00c x01 x02 g4)) ∧
  ∀ m : Nat, ∀ used : Int, ∀ madea : Option Addr, ∀ madel : Nat, ∀ madec : Nat, ∀ ata : Option Addr, ∀ atl : Nat, ∀ atc : Nat, ∀ v_1 : Int, ∀ h0a : Option Addr, ∀ h0l : Nat, ∀ h0c : Nat, ∀ h1 : Int, ∀ h2 : Int, ∀ g5 : G, Le g2 g5 → Inv m used madea madel madec ata atl atc v_1 h0a h0l h0c h1 h2 g5 →
  ifB (ltI v_1 ((lengthsl : Nat) : Int))
  (∀ J_1 : Int → Option Addr → Nat → Nat → Option Addr → Nat → Nat → Option Addr → Nat → Nat → Int → Int → G → Prop,
  (∀ used_1 : Int, ∀ madea_1 : Option Addr, ∀ madel_1 : Nat, ∀ madec_1 : Nat, ∀ ata_1 : Option Addr, ∀ atl_1 : Nat, ∀ atc_1 : Nat, ∀ h0a_1 : Option Addr, ∀ h0l_1 : Nat, ∀ h0c_1 : Nat, ∀ h1_1 : Int, ∀ h2_1 : Int, ∀ g6 : G, (InI64 (v_1 + (1 : Int)) ∧ (∃ m_1 : Nat, m_1 < m ∧ Inv m_1 used_1 madea_1 madel_1 madec_1 ata_1 atl_1 atc_1 (v_1 + (1 : Int)) h0a_1 h0l_1 h0c_1 h1_1 h2_1 g6)) → J_1 used_1 madea_1 madel_1 madec_1 ata_1 atl_1 atc_1 h0a_1 h0l_1 h0c_1 h1_1 h2_1 g6) →
  (0 ≤ v_1 ∧ v_1 < ((lengthsl : Nat) : Int)) ∧ derefP lengthsa fun ad => ∃ k : Int, g5.w.cell? (Addr.add ad (Int.toNat v_1 * 1)) = some (.int .u8 k) ∧ InI64 k ∧ (13 : Int) ≠ 0 ∧ ∃ la : Option Addr, ∃ ll : Nat, ∃ lc : Nat, ∃ wo1 : World, Sem.run Try.prog (Instr.makeSlice 22 (.int .i64 (Int.tmod k (13 : Int))) (.int .i64 (Int.tmod k (13 : Int)))) g5.w = .ok (.slice la ll lc) wo1 ∧ ∃ g7 : G, g7.w = wo1 ∧ Stp g.w.heap.size nobody g5 g7 ∧ ∃ Inv_1 : Nat → Int → G → Prop, ((∃ m0 : Nat, Inv_1 m0 (0 : Int) g7)) ∧
  ∀ m_2 : Nat, ∀ v_2 : Int, ∀ g8 : G, Le g7 g8 → Inv_1 m_2 v_2 g8 →
  ifB (ltI v_2 ((ll : Nat) : Int))
  (InI64 (v_1 - v_2) ∧ (0 ≤ v_2 ∧ v_2 < ((ll : Nat) : Int)) ∧ derefP la fun ad_1 => stOk g8.w (Addr.add ad_1 (Int.toNat v_2 * 2)) 2 ∧ ¬ g8.X (Addr.block (Addr.add ad_1 (Int.toNat v_2 * 2))) ∧ mutAt g8 (Addr.add ad_1 (Int.toNat v_2 * 2)) 2 ∧ ((Addr.block (Addr.add ad_1 (Int.toNat v_2 * 2))) < g.w.heap.size → nobody (Addr.block (Addr.add ad_1 (Int.toNat v_2 * 2)))) ∧ ∀ g9 : G, StG false g8 (Addr.add ad_1 (Int.toNat v_2 * 2)) [(.bool false), (.int .i64 (v_1 - v_2))] g9 →
  ∀ J_2 : Bool → G → Prop,
  (∀ v_3 : Bool, ∀ g10 : G, (ifB v_3
  (InI64 (v_1 + v_2) ∧ ((atl : Nat) : Int) ≠ 0 ∧ (0 ≤ (Int.tmod (v_1 + v_2) ((atl : Nat) : Int)) ∧ (Int.tmod (v_1 + v_2) ((atl : Nat) : Int)) < ((atl : Nat) : Int)) ∧ derefP ata fun ad_2 => ∃ x0 : Bool, ∃ x1_1 : Int, g10.w.cell? (Addr.add ad_2 (Int.toNat (Int.tmod (v_1 + v_2) ((atl : Nat) : Int)) * 2)) = some (.bool x0) ∧ g10.w.cell? (Addr.add (Addr.add ad_2 (Int.toNat (Int.tmod (v_1 + v_2) ((atl : Nat) : Int)) * 2)) 1) = some (.int .i64 x1_1) ∧ (0 ≤ v_2 ∧ v_2 < ((ll : Nat) : Int)) ∧ derefP la fun ad_3 => stOk g10.w (Addr.add ad_3 (Int.toNat v_2 * 2)) 2 ∧ ¬ g10.X (Addr.block (Addr.add ad_3 (Int.toNat v_2 * 2))) ∧ mutAt g10 (Addr.add ad_3 (Int.toNat v_2 * 2)) 2 ∧ ((Addr.block (Addr.add ad_3 (Int.toNat v_2 * 2))) < g.w.heap.size → nobody (Addr.block (Addr.add ad_3 (Int.toNat v_2 * 2)))) ∧ ∀ g11 : G, StG false g10 (Addr.add ad_3 (Int.toNat v_2 * 2)) [(.bool x0), (.int .i64 x1_1)] g11 →
  InI64 (v_2 + (1 : Int)) ∧ (∃ m_3 : Nat, m_3 < m_2 ∧ Inv_1 m_3 (v_2 + (1 : Int)) g11))
  (InI64 (v_2 + (1 : Int)) ∧ (∃ m_3 : Nat, m_3 < m_2 ∧ Inv_1 m_3 (v_2 + (1 : Int)) g10))) → J_2 v_3 g10) →
  ifB (ltI (0 : Int) ((atl : Nat) : Int))
  ((2 : Int) ≠ 0 ∧ J_2 (eqI (Int.tmod v_2 (2 : Int)) (1 : Int)) g9)
  (J_2 false g9))
  ((CallsP Try.prog 30 #[(.agg ⟨[(.slice h0a h0l h0c), (.int .i64 h1), (.int .i64 h2)]⟩), (.int .i64 (3 : Int)), (.int .i64 v_1), (.slice la ll lc)] g8 fun v g12 =>
  ∃ x00a_1 : Option Addr, ∃ x00l_1 : Nat, ∃ x00c_1 : Nat, ∃ x01_1 : Int, ∃ x02_1 : Int, ∃ x10 : Bool, ∃ x11 : Int, ∃ x2 : Int, v = (.tuple ⟨[(.agg ⟨[(.slice x00a_1 x00l_1 x00c_1), (.int .i64 x01_1), (.int .i64 x02_1)]⟩), (.agg ⟨[(.bool x10), (.int .i64 x11)]⟩), (.int .i64 x2)]⟩) ∧ InI64 (used + (3 : Int)) ∧ InI64 ((used + (3 : Int)) + ((ll : Nat) : Int)) ∧ InI64 limit ∧ (700 : Int) ≠ 0 ∧ ifB (ltI (Int.tmod limit (700 : Int)) ((used + (3 : Int)) + ((ll : Nat) : Int)))
  (ifB (!eqI x2 (25 : Int))
  (∀ g13 : G, Ex g12 g13 →
  R (.bool false) g13)
  (∀ g14 : G, Ex g12 g14 →
  (CallsP Try.prog 19 #[(.agg ⟨[(.slice x00a_1 x00l_1 x00c_1), (.int .i64 x01_1), (.int .i64 x02_1)]⟩)] g14 fun v g15 =>
  ∃ x : Bool, v = (.bool x) ∧ ifB (!x)
  (∀ g16 : G, Ex g15 g16 →
  R (.bool false) g16)
  (J_1 used madea madel madec ata atl atc h0a h0l h0c h1 h2 g15))))
  (∀ J_3 : G → Prop,
  (∀ g17 : G, (∀ g18 : G, Ex g17 g18 →
  ∃ MR1 : Nat → Prop, (∀ b, MR1 b → ¬ g18.X b) ∧ ∀ g19 : G, Ex g18 g19 →
  ∃ MR2 : Nat → Prop, (∀ b, MR2 b → ¬ g19.X b) ∧ ((∀ g20 : G, NewL g19 g20 41 [(.bool false), (.int .i64 v_1)] →
  (∃ xa : Option Addr, ∃ xl : Nat, ∃ xc : Nat, ∃ wo2 : World, Sem.run Try.prog (Builtin.append_ #[22, 22] 22 #[(.slice (some ⟨g19.w.heap.size, 0, none⟩) 1 1), (.slice la ll lc)]) g20.w = .ok (.slice xa xl xc) wo2 ∧ ∃ g21 : G, g21.w = wo2 ∧ Stp g.w.heap.size nobody g20 g21 ∧ SameBut MR2 g19 g21 ∧ (∀ g22 : G, NewL g21 g22 22 [(.slice xa xl xc)] →
  (∃ madea_2 : Option Addr, ∃ madel_2 : Nat, ∃ madec_2 : Nat, ∃ wo3 : World, Sem.run Try.prog (Builtin.append_ #[67, 67] 67 #[(.slice madea madel madec), (.slice (some ⟨g21.w.heap.size, 0, none⟩) 1 1)]) g22.w = .ok (.slice madea_2 madel_2 madec_2) wo3 ∧ ∃ g23 : G, g23.w = wo3 ∧ Stp g.w.heap.size nobody g22 g23 ∧ SameBut MR2 g19 g23 ∧ ∀ g24 : G, NewL g23 g24 41 [(.bool x10), (.int .i64 x11)] →
  ∃ ata_2 : Option Addr, ∃ atl_2 : Nat, ∃ atc_2 : Nat, ∃ wo4 : World, Sem.run Try.prog (Builtin.append_ #[22, 22] 22 #[(.slice ata atl atc), (.slice (some ⟨g23.w.heap.size, 0, none⟩) 1 1)]) g24.w = .ok (.slice ata_2 atl_2 atc_2) wo4 ∧ ∃ g25 : G, g25.w = wo4 ∧ Stp g.w.heap.size nobody g24 g25 ∧ J_1 x01_1 madea_2 madel_2 madec_2 ata_2 atl_2 atc_2 x00a_1 x00l_1 x00c_1 x01_1 x02_1 g25) ∧ (∀ g26 : G, NewL g22 g26 41 [(.bool x10), (.int .i64 x11)] →
  ∃ madea_3 : Option Addr, ∃ madel_3 : Nat, ∃ madec_3 : Nat, ∃ wo5 : World, Sem.run Try.prog (Builtin.append_ #[67, 67] 67 #[(.slice madea madel madec), (.slice (some ⟨g21.w.heap.size, 0, none⟩) 1 1)]) g26.w = .ok (.slice madea_3 madel_3 madec_3) wo5 ∧ ∃ g27 : G, g27.w = wo5 ∧ Stp g.w.heap.size nobody g26 g27 ∧ SameBut MR2 g19 g27 ∧ ∃ ata_3 : Option Addr, ∃ atl_3 : Nat, ∃ atc_3 : Nat, ∃ wo6 : World, Sem.run Try.prog (Builtin.append_ #[22, 22] 22 #[(.slice ata atl atc), (.slice (some ⟨g22.w.heap.size, 0, none⟩) 1 1)]) g27.w = .ok (.slice ata_3 atl_3 atc_3) wo6 ∧ ∃ g28 : G, g28.w = wo6 ∧ Stp g.w.heap.size nobody g27 g28 ∧ J_1 x01_1 madea_3 madel_3 madec_3 ata_3 atl_3 atc_3 x00a_1 x00l_1 x00c_1 x01_1 x02_1 g28)) ∧ (∀ g29 : G, NewL g21 g29 41 [(.bool x10), (.int .i64 x11)] →
  ∀ g30 : G, NewL g29 g30 22 [(.slice xa xl xc)] →
  ∃ madea_4 : Option Addr, ∃ madel_4 : Nat, ∃ madec_4 : Nat, ∃ wo7 : World, Sem.run Try.prog (Builtin.append_ #[67, 67] 67 #[(.slice madea madel madec), (.slice (some ⟨g29.w.heap.size, 0, none⟩) 1 1)]) g30.w = .ok (.slice madea_4 madel_4 madec_4) wo7 ∧ ∃ g31 : G, g31.w = wo7 ∧ Stp g.w.heap.size nobody g30 g31 ∧ SameBut MR2 g19 g31 ∧ ∃ ata_4 : Option Addr, ∃ atl_4 : Nat, ∃ atc_4 : Nat, ∃ wo8 : World, Sem.run Try.prog (Builtin.append_ #[22, 22] 22 #[(.slice ata atl atc), (.slice (some ⟨g21.w.heap.size, 0, none⟩) 1 1)]) g31.w = .ok (.slice ata_4 atl_4 atc_4) wo8 ∧ ∃ g32 : G, g32.w = wo8 ∧ Stp g.w.heap.size nobody g31 g32 ∧ J_1 x01_1 madea_4 madel_4 madec_4 ata_4 atl_4 atc_4 x00a_1 x00l_1 x00c_1 x01_1 x02_1 g32)) ∧ (∀ g33 : G, NewL g20 g33 41 [(.bool x10), (.int .i64 x11)] →
  ∃ xa_1 : Option Addr, ∃ xl_1 : Nat, ∃ xc_1 : Nat, ∃ wo9 : World, Sem.run Try.prog (Builtin.append_ #[22, 22] 22 #[(.slice (some ⟨g19.w.heap.size, 0, none⟩) 1 1), (.slice la ll lc)]) g33.w = .ok (.slice xa_1 xl_1 xc_1) wo9 ∧ ∃ g34 : G, g34.w = wo9 ∧ Stp g.w.heap.size nobody g33 g34 ∧ SameBut MR2 g19 g34 ∧ ∀ g35 : G, NewL g34 g35 22 [(.slice xa_1 xl_1 xc_1)] →
  ∃ madea_5 : Option Addr, ∃ madel_5 : Nat, ∃ madec_5 : Nat, ∃ wo10 : World, Sem.run Try.prog (Builtin.append_ #[67, 67] 67 #[(.slice madea madel madec), (.slice (some ⟨g34.w.heap.size, 0, none⟩) 1 1)]) g35.w = .ok (.slice madea_5 madel_5 madec_5) wo10 ∧ ∃ g36 : G, g36.w = wo10 ∧ Stp g.w.heap.size nobody g35 g36 ∧ SameBut MR2 g19 g36 ∧ ∃ ata_5 : Option Addr, ∃ atl_5 : Nat, ∃ atc_5 : Nat, ∃ wo11 : World, Sem.run Try.prog (Builtin.append_ #[22, 22] 22 #[(.slice ata atl atc), (.slice (some ⟨g20.w.heap.size, 0, none⟩) 1 1)]) g36.w = .ok (.slice ata_5 atl_5 atc_5) wo11 ∧ ∃ g37 : G, g37.w = wo11 ∧ Stp g.w.heap.size nobody g36 g37 ∧ J_1 x01_1 madea_5 madel_5 madec_5 ata_5 atl_5 atc_5 x00a_1 x00l_1 x00c_1 x01_1 x02_1 g37)) ∧ (∀ g38 : G, NewL g19 g38 41 [(.bool x10), (.int .i64 x11)] →
  ∀ g39 : G, NewL g38 g39 41 [(.bool false), (.int .i64 v_1)] →
  ∃ xa_2 : Option Addr, ∃ xl_2 : Nat, ∃ xc_2 : Nat, ∃ wo12 : World, Sem.run Try.prog (Builtin.append_ #[22, 22] 22 #[(.slice (some ⟨g38.w.heap.size, 0, none⟩) 1 1), (.slice la ll lc)]) g39.w = .ok (.slice xa_2 xl_2 xc_2) wo12 ∧ ∃ g40 : G, g40.w = wo12 ∧ Stp g.w.heap.size nobody g39 g40 ∧ SameBut MR2 g19 g40 ∧ ∀ g41 : G, NewL g40 g41 22 [(.slice xa_2 xl_2 xc_2)] →
  ∃ madea_6 : Option Addr, ∃ madel_6 : Nat, ∃ madec_6 : Nat, ∃ wo13 : World, Sem.run Try.prog (Builtin.append_ #[67, 67] 67 #[(.slice madea madel madec), (.slice (some ⟨g40.w.heap.size, 0, none⟩) 1 1)]) g41.w = .ok (.slice madea_6 madel_6 madec_6) wo13 ∧ ∃ g42 : G, g42.w = wo13 ∧ Stp g.w.heap.size nobody g41 g42 ∧ SameBut MR2 g19 g42 ∧ ∃ ata_6 : Option Addr, ∃ atl_6 : Nat, ∃ atc_6 : Nat, ∃ wo14 : World, Sem.run Try.prog (Builtin.append_ #[22, 22] 22 #[(.slice ata atl atc), (.slice (some ⟨g19.w.heap.size, 0, none⟩) 1 1)]) g42.w = .ok (.slice ata_6 atl_6 atc_6) wo14 ∧ ∃ g43 : G, g43.w = wo14 ∧ Stp g.w.heap.size nobody g42 g43 ∧ J_1 x01_1 madea_6 madel_6 madec_6 ata_6 atl_6 atc_6 x00a_1 x00l_1 x00c_1 x01_1 x02_1 g43)) ∧ (∀ g44 : G, NewL g19 g44 41 [(.bool x10), (.int .i64 x11)] →
  ∀ g45 : G, NewL g44 g45 41 [(.bool false), (.int .i64 v_1)] →
  ∃ xa_3 : Option Addr, ∃ xl_3 : Nat, ∃ xc_3 : Nat, ∃ wo15 : World, Sem.run Try.prog (Builtin.append_ #[22, 22] 22 #[(.slice (some ⟨g44.w.heap.size, 0, none⟩) 1 1), (.slice la ll lc)]) g45.w = .ok (.slice xa_3 xl_3 xc_3) wo15 ∧ ∃ g46 : G, g46.w = wo15 ∧ Stp g.w.heap.size nobody g45 g46 ∧ SameBut MR2 g19 g46 ∧ ∀ g47 : G, NewL g46 g47 22 [(.slice xa_3 xl_3 xc_3)] →
  ∃ madea_7 : Option Addr, ∃ madel_7 : Nat, ∃ madec_7 : Nat, ∃ wo16 : World, Sem.run Try.prog (Builtin.append_ #[67, 67] 67 #[(.slice madea madel madec), (.slice (some ⟨g46.w.heap.size, 0, none⟩) 1 1)]) g47.w = .ok (.slice madea_7 madel_7 madec_7) wo16 ∧ ∃ g48 : G, g48.w = wo16 ∧ Stp g.w.heap.size nobody g47 g48 ∧ SameBut MR2 g19 g48 ∧ ∃ ata_7 : Option Addr, ∃ atl_7 : Nat, ∃ atc_7 : Nat, ∃ wo17 : World, Sem.run Try.prog (Builtin.append_ #[22, 22] 22 #[(.slice ata atl atc), (.slice (some ⟨g19.w.heap.size, 0, none⟩) 1 1)]) g48.w = .ok (.slice ata_7 atl_7 atc_7) wo17 ∧ ∃ g49 : G, g49.w = wo17 ∧ Stp g.w.heap.size nobody g48 g49 ∧ J_1 x01_1 madea_7 madel_7 madec_7 ata_7 atl_7 atc_7 x00a_1 x00l_1 x00c_1 x01_1 x02_1 g49)) → J_3 g17) →
  ifB (!eqI x2 (0 : Int))
  (∀ g50 : G, Ex g12 g50 →
  R (.bool false) g50)
  (∀ g51 : G, Ex g12 g51 →
  ifB (!((x10 == true) && ((eqI x11 used) && true)))
  (∀ g52 : G, Ex g51 g52 →
  R (.bool false) g52)
  (InI64 (used + (3 : Int)) ∧ InI64 ((used + (3 : Int)) + ((ll : Nat) : Int)) ∧ ifB (!eqI x01_1 ((used + (3 : Int)) + ((ll : Nat) : Int)))
  (∀ g53 : G, Ex g51 g53 →
  R (.bool false) g53)
  ((CallsP Try.prog 21 #[(.agg ⟨[(.slice x00a_1 x00l_1 x00c_1), (.int .i64 x01_1), (.int .i64 x02_1)]⟩)] g51 fun v g54 =>
  ∃ x_1 : Bool, v = (.bool x_1) ∧ ifB (!x_1)
  (∀ g55 : G, Ex g54 g55 →
  R (.bool false) g55)
  (J_3 g54)))))))))
  (∃ Inv_2 : Nat → Int → G → Prop, ((∃ m0 : Nat, Inv_2 m0 (0 : Int) g5)) ∧
  ∀ m_4 : Nat, ∀ v_4 : Int, ∀ g56 : G, Le g5 g56 → Inv_2 m_4 v_4 g56 →
  ifB (ltI v_4 ((atl : Nat) : Int))
  ((0 ≤ v_4 ∧ v_4 < ((atl : Nat) : Int)) ∧ derefP ata fun ad_4 => ∃ x0_1 : Bool, ∃ x1_2 : Int, g56.w.cell? (Addr.add ad_4 (Int.toNat v_4 * 2)) = some (.bool x0_1) ∧ g56.w.cell? (Addr.add (Addr.add ad_4 (Int.toNat v_4 * 2)) 1) = some (.int .i64 x1_2) ∧ ∀ g57 : G, Ex g56 g57 →
  (CallsP Try.prog 32 #[(.agg ⟨[(.slice h0a h0l h0c), (.int .i64 h1), (.int .i64 h2)]⟩), (.agg ⟨[(.bool x0_1), (.int .i64 x1_2)]⟩)] g57 fun v g58 =>
  ∃ x0_2 : Int, ∃ x1_3 : Int, ∃ x2a : Option Addr, ∃ x2l : Nat, ∃ x2c : Nat, ∃ x3 : Int, v = (.tuple ⟨[(.int .i64 x0_2), (.int .i64 x1_3), (.slice x2a x2l x2c), (.int .i64 x3)]⟩) ∧ ifB (!eqI x3 (0 : Int))
  (∀ g59 : G, Ex g58 g59 →
  R (.bool false) g59)
  (ifB (!eqI x0_2 (3 : Int))
  (∀ g60 : G, Ex g58 g60 →
  R (.bool false) g60)
  ((0 ≤ v_4 ∧ v_4 < ((madel : Nat) : Int)) ∧ derefP madea fun ad_5 => ∃ xa_4 : Option Addr, ∃ xl_4 : Nat, ∃ xc_4 : Nat, g58.w.cell? (Addr.add ad_5 (Int.toNat v_4 * 1)) = some (.slice xa_4 xl_4 xc_4) ∧ (0 ≤ (0 : Int) ∧ (0 : Int) < ((xl_4 : Nat) : Int)) ∧ derefP xa_4 fun ad_6 => ∃ x_2 : Int, g58.w.cell? (Addr.add (Addr.add ad_6 (Int.toNat (0 : Int) * 2)) 1) = some (.int .i64 x_2) ∧ ifB (!eqI x1_3 x_2)
  (∀ g61 : G, Ex g58 g61 →
  R (.bool false) g61)
  ((0 ≤ v_4 ∧ v_4 < ((madel : Nat) : Int)) ∧ derefP madea fun ad_7 => ∃ xa_5 : Option Addr, ∃ xl_5 : Nat, ∃ xc_5 : Nat, g58.w.cell? (Addr.add ad_7 (Int.toNat v_4 * 1)) = some (.slice xa_5 xl_5 xc_5) ∧ (0 ≤ (1 : Int) ∧ (1 : Int) ≤ ((xl_5 : Nat) : Int)) ∧ (CallsP Try.prog 39 #[(.slice x2a x2l x2c), (.slice (slAddr xa_5 xc_5 (Int.toNat (1 : Int)) 2) (xl_5 - (Int.toNat (1 : Int))) (xc_5 - (Int.toNat (1 : Int))))] g58 fun v g62 =>
  ∃ x_3 : Bool, v = (.bool x_3) ∧ ifB (!x_3)
  (∀ g63 : G, Ex g62 g63 →
  R (.bool false) g63)
  (InI64 (v_4 + (1 : Int)) ∧ (∃ m_5 : Nat, m_5 < m_4 ∧ Inv_2 m_5 (v_4 + (1 : Int)) g62))))))))
  ((CallsP Try.prog 34 #[(.agg ⟨[(.slice h0a h0l h0c), (.int .i64 h1), (.int .i64 h2)]⟩)] g56 fun v g64 =>
  ∃ x0a : Option Addr, ∃ x0l : Nat, ∃ x0c : Nat, ∃ x1_4 : Int, v = (.tuple ⟨[(.slice x0a x0l x0c), (.int .i64 x1_4)]⟩) ∧ ifB (eqI x1_4 (0 : Int))
  (∀ g65 : G, Ex g64 g65 →
  R (.bool (eqI ((x0l : Nat) : Int) ((atl : Nat) : Int))) g65)
  (∀ g66 : G, Ex g64 g66 →
  R (.bool false) g66))))))) → J g1) →
  (CallsP Try.prog 15 #[] g fun v g67 =>
  ∃ x_4 : Bool, v = (.bool x_4) ∧ ifB (!x_4)
  ((CallsP Try.prog 15 #[] g67 fun v g68 =>
  ∃ x_5 : Bool, v = (.bool x_5) ∧ ∀ g69 : G, Ex g68 g69 →
  R (.bool x_5) g69))
  (ifB (ltI (60 : Int) ((lengthsl : Nat) : Int))
  ((CallsP Try.prog 15 #[] g67 fun v g70 =>
  ∃ x_6 : Bool, v = (.bool x_6) ∧ ∀ g71 : G, Ex g70 g71 →
  R (.bool x_6) g71))
  (J g67)))
theorem F7_eq (limit : Int) (lengthsa : Option Addr) (lengthsl : Nat) (lengthsc : Nat) (g : G) (R : Value → G → Prop) : fnG cfg7 206 [.tmp 4] c7 an7 [(.int .u16 limit), (.slice lengthsa lengthsl lengthsc)] g nobody R = F7 limit lengthsa lengthsl lengthsc g R := by kernel_rfl
theorem call7 (limit : Int) (lengthsa : Option Addr) (lengthsl : Nat) (lengthsc : Nat) (g : G) (R : Value → G → Prop) (hF : F7 limit lengthsa lengthsl lengthsc g R) : CallsG Try.prog 7 #[(.int .u16 limit), (.slice lengthsa lengthsl lengthsc)] g nobody R :=
  fn_soundG (c := cfg7) TTok FNSok mixed Try.func7 (show Try.f7.body = some c7 by kernel_rfl) (show Try.f7.ntmps = 206 by kernel_rfl) (show Try.f7.results.toList = [.tmp 4] by kernel_rfl) rfl ((F7_eq limit lengthsa lengthsl lengthsc g R).mpr hF)

/- 8 pilaster/pilasterlaw50.CollectData -/
noncomputable def c8 : Code := match Try.f8.body with
  | some c => c
  | none => .skip
noncomputable def cfg8 : Cfg := ⟨Try.prog, TT, FNS, [2, 5], [(2, 2), (5, 5)], [], TCH, false, false⟩
def an8 : AnnG := (.seq .leaf (.seq (.seq .leaf (.cond (.seq .leaf .leaf) .leaf)) (.join ⟨[], [], []⟩ (.seq .leaf (.cond (.seq .leaf .leaf) .leaf)) (.seq .leaf (.seq (.seq .leaf (.cond (.seq .leaf .leaf) .leaf)) (.seq (.seq .leaf (.cond (.seq .leaf .leaf) .leaf)) (.seq (.seq .leaf (.blk (.loop ⟨[(38, .int .i64)], [], []⟩ (.seq .leaf (.seq (.cond .leaf .leaf) (.seq (.blk (.seq .leaf (.seq (.seq (.tree 10 (.quiet 0 (.quiet 1 (.quiet 2 (.quiet 3 (.quiet 4 (.quiet 5 (.quiet 6 (.quiet 7 (.quiet 8 (.quiet 9 .fin))))))))))) (.cond (.seq .leaf .leaf) .leaf)) (.seq .leaf (.blk (.loop ⟨[(54, .int .i64)], [], []⟩ (.seq .leaf (.seq (.cond .leaf .leaf) (.seq (.blk (.seq .leaf (.seq (.tree 18 (.quiet 0 (.quiet 1 (.quiet 2 (.quiet 3 (.quiet 4 (.quiet 5 (.quiet 6 (.quiet 7 (.quiet 8 (.quiet 9 (.quiet 10 (.quiet 11 (.quiet 12 (.quiet 13 (.quiet 14 (.quiet 15 (.quiet 16 (.quiet 17 .fin))))))))))))))))))) (.cond (.seq .leaf .leaf) .leaf)))) .leaf))))))))) .leaf)))))) (.seq .leaf .leaf))))))))
def F8 (h0a : Option Addr) (h0l : Nat) (h0c : Nat) (h1 : Int) (h2 : Int) (rootsa : Option Addr) (rootsl : Nat) (rootsc : Nat) (g : G) (R : Value → G → Prop) : Prop :=
  ∀ g1 : G, Ex g g1 →
  (CallsP Try.prog 41 #[] g1 fun v g2 =>
  ∃ x : Bool, v = (.bool x) ∧ ifB (!x)
  (∀ g3 : G, Ex g2 g3 →
  R (.bool false) g3)
  (∀ J : G → Prop,
  (∀ g4 : G, ((CallsP Try.prog 43 #[(.agg ⟨[(.slice h0a h0l h0c), (.int .i64 h1), (.int .i64 h2)]⟩), (.slice rootsa rootsl rootsc)] g4 fun v g5 =>
  ∃ x00a : Option Addr, ∃ x00l : Nat, ∃ x00c : Nat, ∃ x01 : Int, ∃ x02 : Int, ∃ x1a : Option Addr, ∃ x1l : Nat, ∃ x1c : Nat, ∃ x2 : Int, v = (.tuple ⟨[(.agg ⟨[(.slice x00a x00l x00c), (.int .i64 x01), (.int .i64 x02)]⟩), (.slice x1a x1l x1c), (.int .i64 x2)]⟩) ∧ ifB (!eqI x2 (0 : Int))
  (∀ g6 : G, Ex g5 g6 →
  (CallsP Try.prog 44 #[(.agg ⟨[(.slice x00a x00l x00c), (.int .i64 x01), (.int .i64 x02)]⟩)] g6 fun v g7 =>
  ∃ x_1 : Bool, v = (.bool x_1) ∧ ∀ g8 : G, Ex g7 g8 →
  R (.bool x_1) g8))
  (ifB (!eqI ((x1l : Nat) : Int) ((rootsl : Nat) : Int))
  (∀ g9 : G, Ex g5 g9 →
  R (.bool false) g9)
  (∃ Inv : Nat → Int → G → Prop, (∀ g10 : G, Ex g5 g10 →
  (∃ m0 : Nat, Inv m0 (0 : Int) g10)) ∧
  ∀ m : Nat, ∀ v_1 : Int, ∀ g11 : G, Le g5 g11 → Inv m v_1 g11 →
  ifB (ltI v_1 ((rootsl : Nat) : Int))
  (∀ g12 : G, Ex g11 g12 →
  (0 ≤ v_1 ∧ v_1 < ((rootsl : Nat) : Int)) ∧ derefP rootsa fun ad => ∃ x0 : Bool, ∃ x1 : Int, g12.w.cell? (Addr.add ad (Int.toNat v_1 * 2)) = some (.bool x0) ∧ g12.w.cell? (Addr.add (Addr.add ad (Int.toNat v_1 * 2)) 1) = some (.int .i64 x1) ∧ (0 ≤ v_1 ∧ v_1 < ((x1l : Nat) : Int)) ∧ derefP x1a fun ad_1 => ∃ x0_1 : Bool, ∃ x1_1 : Int, g12.w.cell? (Addr.add ad_1 (Int.toNat v_1 * 2)) = some (.bool x0_1) ∧ g12.w.cell? (Addr.add (Addr.add ad_1 (Int.toNat v_1 * 2)) 1) = some (.int .i64 x1_1) ∧ (CallsP Try.prog 45 #[(.agg ⟨[(.slice h0a h0l h0c), (.int .i64 h1), (.int .i64 h2)]⟩), (.agg ⟨[(.slice x00a x00l x00c), (.int .i64 x01), (.int .i64 x02)]⟩), (.agg ⟨[(.bool x0), (.int .i64 x1)]⟩), (.agg ⟨[(.bool x0_1), (.int .i64 x1_1)]⟩), (.int .i64 (1 : Int))] g12 fun v g13 =>
  ∃ x_2 : Bool, v = (.bool x_2) ∧ ifB (!x_2)
  (∀ g14 : G, Ex g13 g14 →
  R (.bool false) g14)
  (∃ Inv_1 : Nat → Int → G → Prop, ((∃ m0 : Nat, Inv_1 m0 (0 : Int) g13)) ∧
  ∀ m_2 : Nat, ∀ v_2 : Int, ∀ g15 : G, Le g13 g15 → Inv_1 m_2 v_2 g15 →
  ifB (ltI v_2 v_1)
  (∀ g16 : G, Ex g15 g16 →
  (0 ≤ v_1 ∧ v_1 < ((rootsl : Nat) : Int)) ∧ derefP rootsa fun ad_2 => ∃ x0_2 : Bool, ∃ x1_2 : Int, g16.w.cell? (Addr.add ad_2 (Int.toNat v_1 * 2)) = some (.bool x0_2) ∧ g16.w.cell? (Addr.add (Addr.add ad_2 (Int.toNat v_1 * 2)) 1) = some (.int .i64 x1_2) ∧ (0 ≤ v_2 ∧ v_2 < ((rootsl : Nat) : Int)) ∧ derefP rootsa fun ad_3 => ∃ x0_3 : Bool, ∃ x1_3 : Int, g16.w.cell? (Addr.add ad_3 (Int.toNat v_2 * 2)) = some (.bool x0_3) ∧ g16.w.cell? (Addr.add (Addr.add ad_3 (Int.toNat v_2 * 2)) 1) = some (.int .i64 x1_3) ∧ (0 ≤ v_1 ∧ v_1 < ((x1l : Nat) : Int)) ∧ derefP x1a fun ad_4 => ∃ x0_4 : Bool, ∃ x1_4 : Int, g16.w.cell? (Addr.add ad_4 (Int.toNat v_1 * 2)) = some (.bool x0_4) ∧ g16.w.cell? (Addr.add (Addr.add ad_4 (Int.toNat v_1 * 2)) 1) = some (.int .i64 x1_4) ∧ (0 ≤ v_2 ∧ v_2 < ((x1l : Nat) : Int)) ∧ derefP x1a fun ad_5 => ∃ x0_5 : Bool, ∃ x1_5 : Int, g16.w.cell? (Addr.add ad_5 (Int.toNat v_2 * 2)) = some (.bool x0_5) ∧ g16.w.cell? (Addr.add (Addr.add ad_5 (Int.toNat v_2 * 2)) 1) = some (.int .i64 x1_5) ∧ ifB (!(((x0_2 == x0_3) && ((eqI x1_2 x1_3) && true)) == ((x0_4 == x0_5) && ((eqI x1_4 x1_5) && true))))
  (∀ g17 : G, Ex g16 g17 →
  R (.bool false) g17)
  (InI64 (v_2 + (1 : Int)) ∧ (∃ m_3 : Nat, m_3 < m_2 ∧ Inv_1 m_3 (v_2 + (1 : Int)) g16)))
  (InI64 (v_1 + (1 : Int)) ∧ (∃ m_1 : Nat, m_1 < m ∧ Inv m_1 (v_1 + (1 : Int)) g15)))))
  (∀ g18 : G, Ex g11 g18 →
  R (.bool true) g18))))) → J g4) →
  (CallsP Try.prog 42 #[(.agg ⟨[(.slice h0a h0l h0c), (.int .i64 h1), (.int .i64 h2)]⟩), (.slice rootsa rootsl rootsc)] g2 fun v g19 =>
  ∃ x_3 : Bool, v = (.bool x_3) ∧ ifB x_3
  (∀ g20 : G, Ex g19 g20 →
  R (.bool true) g20)
  (ifB (ltI (100 : Int) ((rootsl : Nat) : Int))
  (∀ g21 : G, Ex g19 g21 →
  R (.bool true) g21)
  (J g19)))))
theorem F8_eq (h0a : Option Addr) (h0l : Nat) (h0c : Nat) (h1 : Int) (h2 : Int) (rootsa : Option Addr) (rootsl : Nat) (rootsc : Nat) (g : G) (R : Value → G → Prop) : fnG cfg8 78 [.tmp 4] c8 an8 [(.agg ⟨[(.slice h0a h0l h0c), (.int .i64 h1), (.int .i64 h2)]⟩), (.slice rootsa rootsl rootsc)] g nobody R = F8 h0a h0l h0c h1 h2 rootsa rootsl rootsc g R := by kernel_rfl
theorem call8 (h0a : Option Addr) (h0l : Nat) (h0c : Nat) (h1 : Int) (h2 : Int) (rootsa : Option Addr) (rootsl : Nat) (rootsc : Nat) (g : G) (R : Value → G → Prop) (hF : F8 h0a h0l h0c h1 h2 rootsa rootsl rootsc g R) : CallsG Try.prog 8 #[(.agg ⟨[(.slice h0a h0l h0c), (.int .i64 h1), (.int .i64 h2)]⟩), (.slice rootsa rootsl rootsc)] g nobody R :=
  fn_soundG (c := cfg8) TTok FNSok mixed Try.func8 (show Try.f8.body = some c8 by kernel_rfl) (show Try.f8.ntmps = 78 by kernel_rfl) (show Try.f8.results.toList = [.tmp 4] by kernel_rfl) rfl ((F8_eq h0a h0l h0c h1 h2 rootsa rootsl rootsc g R).mpr hF)

/- 9 pilaster/pilasterlaw50.CollectRoom -/
noncomputable def c9 : Code := match Try.f9.body with
  | some c => c
  | none => .skip
noncomputable def cfg9 : Cfg := ⟨Try.prog, TT, FNS, [3, 7, 11], [(3, 3), (7, 7), (11, 11), (53, 3), (55, 3), (72, 3)], [], TCH, false, false⟩
def an9 : AnnG := (.seq .leaf (.seq (.seq .leaf (.cond (.seq .leaf .leaf) .leaf)) (.seq (.seq .leaf (.cond (.seq .leaf .leaf) .leaf)) (.seq .leaf (.seq .leaf (.join ⟨[(10, .int .i64)], [], []⟩ (.seq .leaf (.cond .leaf .leaf)) (.seq (.seq .leaf (.cond (.seq .leaf .leaf) .leaf)) (.seq (.seq .leaf (.cond (.seq .leaf .leaf) .leaf)) (.seq (.seq (.tree 7 (.quiet 0 (.quiet 1 (.quiet 2 (.quiet 3 (.quiet 6 (.eff 4 (.quiet 5 .fin) .fin))))))) (.cond (.seq .leaf .leaf) .leaf)) (.seq .leaf (.seq .leaf .leaf)))))))))))
def F9 (h0a : Option Addr) (h0l : Nat) (h0c : Nat) (h1 : Int) (h2 : Int) (rootsa : Option Addr) (rootsl : Nat) (rootsc : Nat) (need : Int) (g : G) (R : Value → G → Prop) : Prop :=
  ∀ g1 : G, Ex g g1 →
  (CallsP Try.prog 41 #[] g1 fun v g2 =>
  ∃ x : Bool, v = (.bool x) ∧ ifB (!x)
  (∀ g3 : G, Ex g2 g3 →
  R (.bool false) g3)
  ((CallsP Try.prog 42 #[(.agg ⟨[(.slice h0a h0l h0c), (.int .i64 h1), (.int .i64 h2)]⟩), (.slice rootsa rootsl rootsc)] g2 fun v g4 =>
  ∃ x_1 : Bool, v = (.bool x_1) ∧ ifB x_1
  (∀ g5 : G, Ex g4 g5 →
  R (.bool true) g5)
  ((CallsP Try.prog 46 #[(.agg ⟨[(.slice h0a h0l h0c), (.int .i64 h1), (.int .i64 h2)]⟩), (.slice rootsa rootsl rootsc), (.int .i64 need)] g4 fun v g6 =>
  ∃ x00a : Option Addr, ∃ x00l : Nat, ∃ x00c : Nat, ∃ x01 : Int, ∃ x02 : Int, ∃ x1a : Option Addr, ∃ x1l : Nat, ∃ x1c : Nat, ∃ x2 : Int, v = (.tuple ⟨[(.agg ⟨[(.slice x00a x00l x00c), (.int .i64 x01), (.int .i64 x02)]⟩), (.slice x1a x1l x1c), (.int .i64 x2)]⟩) ∧ ∀ g7 : G, Ex g6 g7 →
  (CallsP Try.prog 47 #[(.agg ⟨[(.slice h0a h0l h0c), (.int .i64 h1), (.int .i64 h2)]⟩), (.slice rootsa rootsl rootsc)] g7 fun v g8 =>
  ∃ fault : Int, v = (.int .i64 fault) ∧ ∀ J : Int → G → Prop,
  (∀ fault_1 : Int, ∀ g9 : G, (ifB (!eqI fault_1 (0 : Int))
  (ifB (eqI x2 fault_1)
  ((CallsP Try.prog 44 #[(.agg ⟨[(.slice x00a x00l x00c), (.int .i64 x01), (.int .i64 x02)]⟩)] g9 fun v g10 =>
  ∃ x_2 : Bool, v = (.bool x_2) ∧ ifB x_2
  (∀ g11 : G, Ex g10 g11 →
  R (.bool (eqI ((x1l : Nat) : Int) (0 : Int))) g11)
  (∀ g12 : G, Ex g10 g12 →
  R (.bool false) g12)))
  (∀ g13 : G, Ex g9 g13 →
  R (.bool false) g13))
  (InI64 (h2 - h1) ∧ ifB (leI need (h2 - h1))
  (ifB (eqI x2 (0 : Int))
  ((CallsP Try.prog 20 #[(.agg ⟨[(.slice x00a x00l x00c), (.int .i64 x01), (.int .i64 x02)]⟩), (.agg ⟨[(.slice h0a h0l h0c), (.int .i64 h1), (.int .i64 h2)]⟩)] g9 fun v g14 =>
  ∃ x_3 : Bool, v = (.bool x_3) ∧ ifB x_3
  ((CallsP Try.prog 39 #[(.slice x1a x1l x1c), (.slice rootsa rootsl rootsc)] g14 fun v g15 =>
  ∃ x_4 : Bool, v = (.bool x_4) ∧ ∀ g16 : G, Ex g15 g16 →
  R (.bool x_4) g16))
  (∀ g17 : G, Ex g14 g17 →
  R (.bool false) g17)))
  (∀ g18 : G, Ex g9 g18 →
  R (.bool false) g18))
  (∀ g19 : G, Ex g9 g19 →
  (CallsP Try.prog 48 #[(.agg ⟨[(.slice h0a h0l h0c), (.int .i64 h1), (.int .i64 h2)]⟩), (.slice rootsa rootsl rootsc)] g19 fun v g20 =>
  ∃ x_5 : Int, v = (.int .i64 x_5) ∧ InI64 (h2 - x_5) ∧ ifB (ltI (h2 - x_5) need)
  (ifB (eqI x2 (25 : Int))
  ((CallsP Try.prog 44 #[(.agg ⟨[(.slice x00a x00l x00c), (.int .i64 x01), (.int .i64 x02)]⟩)] g20 fun v g21 =>
  ∃ x_6 : Bool, v = (.bool x_6) ∧ ifB x_6
  (∀ g22 : G, Ex g21 g22 →
  R (.bool (eqI ((x1l : Nat) : Int) (0 : Int))) g22)
  (∀ g23 : G, Ex g21 g23 →
  R (.bool false) g23)))
  (∀ g24 : G, Ex g20 g24 →
  R (.bool false) g24))
  ((CallsP Try.prog 49 #[(.agg ⟨[(.slice h0a h0l h0c), (.int .i64 h1), (.int .i64 h2)]⟩), (.slice rootsa rootsl rootsc)] g20 fun v g25 =>
  ∃ x00a_1 : Option Addr, ∃ x00l_1 : Nat, ∃ x00c_1 : Nat, ∃ x01_1 : Int, ∃ x02_1 : Int, ∃ x1a_1 : Option Addr, ∃ x1l_1 : Nat, ∃ x1c_1 : Nat, v = (.tuple ⟨[(.agg ⟨[(.slice x00a_1 x00l_1 x00c_1), (.int .i64 x01_1), (.int .i64 x02_1)]⟩), (.slice x1a_1 x1l_1 x1c_1)]⟩) ∧ ifB (eqI x2 (0 : Int))
  (∀ g26 : G, Ex g25 g26 →
  (CallsP Try.prog 20 #[(.agg ⟨[(.slice x00a x00l x00c), (.int .i64 x01), (.int .i64 x02)]⟩), (.agg ⟨[(.slice x00a_1 x00l_1 x00c_1), (.int .i64 x01_1), (.int .i64 x02_1)]⟩)] g26 fun v g27 =>
  ∃ x_7 : Bool, v = (.bool x_7) ∧ ifB x_7
  ((CallsP Try.prog 39 #[(.slice x1a x1l x1c), (.slice x1a_1 x1l_1 x1c_1)] g27 fun v g28 =>
  ∃ x_8 : Bool, v = (.bool x_8) ∧ ∀ g29 : G, Ex g28 g29 →
  R (.bool x_8) g29))
  (∀ g30 : G, Ex g27 g30 →
  R (.bool false) g30)))
  (∀ g31 : G, Ex g25 g31 →
  R (.bool false) g31))))))) → J fault_1 g9) →
  ifB (eqI fault (0 : Int))
  (ifB (ltI need (0 : Int))
  (J (2 : Int) g8)
  (ifB (ltI (65536 : Int) need)
  (J (2 : Int) g8)
  (J fault g8)))
  (J fault g8)))))))
theorem F9_eq (h0a : Option Addr) (h0l : Nat) (h0c : Nat) (h1 : Int) (h2 : Int) (rootsa : Option Addr) (rootsl : Nat) (rootsc : Nat) (need : Int) (g : G) (R : Value → G → Prop) : fnG cfg9 109 [.tmp 6] c9 an9 [(.agg ⟨[(.slice h0a h0l h0c), (.int .i64 h1), (.int .i64 h2)]⟩), (.slice rootsa rootsl rootsc), (.int .i64 need)] g nobody R = F9 h0a h0l h0c h1 h2 rootsa rootsl rootsc need g R := by kernel_rfl
theorem call9 (h0a : Option Addr) (h0l : Nat) (h0c : Nat) (h1 : Int) (h2 : Int) (rootsa : Option Addr) (rootsl : Nat) (rootsc : Nat) (need : Int) (g : G) (R : Value → G → Prop) (hF : F9 h0a h0l h0c h1 h2 rootsa rootsl rootsc need g R) : CallsG Try.prog 9 #[(.agg ⟨[(.slice h0a h0l h0c), (.int .i64 h1), (.int .i64 h2)]⟩), (.slice rootsa rootsl rootsc), (.int .i64 need)] g nobody R :=
  fn_soundG (c := cfg9) TTok FNSok mixed Try.func9 (show Try.f9.body = some c9 by kernel_rfl) (show Try.f9.ntmps = 109 by kernel_rfl) (show Try.f9.results.toList = [.tmp 6] by kernel_rfl) rfl ((F9_eq h0a h0l h0c h1 h2 rootsa rootsl rootsc need g R).mpr hF)

/- 10 pilaster/pilasterlaw49.HeapBack -/
noncomputable def c10 : Code := match Try.f10.body with
  | some c => c
  | none => .skip
noncomputable def cfg10 : Cfg := ⟨Try.prog, TT, FNS, [2, 3, 5, 6, 8], [(2, 2), (3, 3), (5, 5), (6, 6), (8, 8), (51, 5), (53, 2), (58, 5), (60, 2), (65, 5), (68, 2), (74, 5), (76, 2), (80, 2)], [], TCH, false, false⟩
def an10 : AnnG := (.seq .leaf (.join ⟨[], [], []⟩ (.seq .leaf (.cond (.seq .leaf .leaf) .leaf)) (.seq .leaf (.seq (.seq .leaf (.cond (.seq .leaf .leaf) .leaf)) (.seq .leaf (.seq (.tree 42 (.quiet 0 (.quiet 1 (.quiet 2 (.quiet 3 (.eff 4 (.quiet 5 (.quiet 6 (.quiet 7 (.eff 8 (.quiet 9 (.quiet 10 (.quiet 11 (.quiet 12 (.quiet 13 (.quiet 14 (.quiet 15 (.quiet 16 (.quiet 17 (.quiet 18 (.quiet 19 (.quiet 20 (.quiet 21 (.quiet 22 (.quiet 23 (.quiet 24 (.quiet 25 (.quiet 26 (.quiet 27 (.quiet 28 (.quiet 29 (.quiet 30 (.quiet 31 (.quiet 32 (.quiet 33 (.quiet 34 (.quiet 35 (.quiet 36 (.quiet 37 (.quiet 38 (.quiet 39 (.quiet 40 (.quiet 41 .fin))))))))))))))))))))))))))))))))) .fin)))) .fin)))))) .leaf))))))
def F10 (h0a : Option Addr) (h0l : Nat) (h0c : Nat) (h1 : Int) (h2 : Int) (v0 : Int) (v1 : Int) (v2 : ByteArray) (v3a : Option Addr) (v3l : Nat) (v3c : Nat) (v4a : Option Addr) (v4l : Nat) (v4c : Nat) (g : G) (R : Value → G → Prop) : Prop :=
  ∀ J : G → Prop,
  (∀ g1 : G, ((CallsP Try.prog 26 #[(.agg ⟨[(.slice h0a h0l h0c), (.int .i64 h1), (.int .i64 h2)]⟩), (.agg ⟨[(.int .i64 v0), (.int .i64 v1), (.string v2), (.slice v3a v3l v3c), (.slice v4a v4l v4c)]⟩)] g1 fun v g2 =>
  ∃ x00a : Option Addr, ∃ x00l : Nat, ∃ x00c : Nat, ∃ x01 : Int, ∃ x02 : Int, ∃ x10 : Bool, ∃ x11 : Int, ∃ x2 : Int, v = (.tuple ⟨[(.agg ⟨[(.slice x00a x00l x00c), (.int .i64 x01), (.int .i64 x02)]⟩), (.agg ⟨[(.bool x10), (.int .i64 x11)]⟩), (.int .i64 x2)]⟩) ∧ ifB (!eqI x2 (0 : Int))
  (∀ g3 : G, Ex g2 g3 →
  (CallsP Try.prog 19 #[(.agg ⟨[(.slice x00a x00l x00c), (.int .i64 x01), (.int .i64 x02)]⟩)] g3 fun v g4 =>
  ∃ x : Bool, v = (.bool x) ∧ ∀ g5 : G, Ex g4 g5 →
  R (.bool x) g5))
  (∀ g6 : G, Ex g2 g6 →
  (CallsP Try.prog 51 #[(.agg ⟨[(.slice x00a x00l x00c), (.int .i64 x01), (.int .i64 x02)]⟩), (.agg ⟨[(.bool x10), (.int .i64 x11)]⟩), (.int .i64 (1 : Int))] g6 fun v g7 =>
  ∃ x00 : Int, ∃ x01_1 : Int, ∃ x02_1 : ByteArray, ∃ x03a : Option Addr, ∃ x03l : Nat, ∃ x03c : Nat, ∃ x04a : Option Addr, ∃ x04l : Nat, ∃ x04c : Nat, ∃ x1 : Bool, v = (.tuple ⟨[(.agg ⟨[(.int .i64 x00), (.int .i64 x01_1), (.string x02_1), (.slice x03a x03l x03c), (.slice x04a x04l x04c)]⟩), (.bool x1)]⟩) ∧ ∀ g8 : G, Ex g7 g8 →
  ifB x1
  ((CallsP Try.prog 52 #[(.agg ⟨[(.int .i64 x00), (.int .i64 x01_1), (.string x02_1), (.slice x03a x03l x03c), (.slice x04a x04l x04c)]⟩), (.agg ⟨[(.int .i64 v0), (.int .i64 v1), (.string v2), (.slice v3a v3l v3c), (.slice v4a v4l v4c)]⟩)] g8 fun v g9 =>
  ∃ x_1 : Bool, v = (.bool x_1) ∧ ifB x_1
  ((CallsP Try.prog 21 #[(.agg ⟨[(.slice x00a x00l x00c), (.int .i64 x01), (.int .i64 x02)]⟩)] g9 fun v g10 =>
  ∃ x_2 : Bool, v = (.bool x_2) ∧ ifB x_2
  (ifB (eqI x02 h2)
  (ifB (leI h1 x01)
  (ifB (leI ((h0l : Nat) : Int) ((x00l : Nat) : Int))
  ((0 ≤ ((h0l : Nat) : Int) ∧ ((h0l : Nat) : Int) ≤ ((x00c : Nat) : Int)) ∧ (CallsP Try.prog 39 #[(.slice (slAddr x00a x00c 0 2) ((Int.toNat ((h0l : Nat) : Int)) - 0) (x00c - 0)), (.slice h0a h0l h0c)] g10 fun v g11 =>
  ∃ x_3 : Bool, v = (.bool x_3) ∧ ∀ g12 : G, Ex g11 g12 →
  R (.bool x_3) g12))
  (∀ g13 : G, Ex g10 g13 →
  R (.bool false) g13))
  (∀ g14 : G, Ex g10 g14 →
  R (.bool false) g14))
  (∀ g15 : G, Ex g10 g15 →
  R (.bool false) g15))
  (∀ g16 : G, Ex g10 g16 →
  R (.bool false) g16)))
  (∀ g17 : G, Ex g9 g17 →
  R (.bool false) g17)))
  (∀ g18 : G, Ex g8 g18 →
  R (.bool false) g18))))) → J g1) →
  ∀ g19 : G, Ex g g19 →
  (CallsP Try.prog 15 #[] g19 fun v g20 =>
  ∃ x_4 : Bool, v = (.bool x_4) ∧ ifB (!x_4)
  ((CallsP Try.prog 15 #[] g20 fun v g21 =>
  ∃ x_5 : Bool, v = (.bool x_5) ∧ ∀ g22 : G, Ex g21 g22 →
  R (.bool x_5) g22))
  ((CallsP Try.prog 16 #[(.agg ⟨[(.slice h0a h0l h0c), (.int .i64 h1), (.int .i64 h2)]⟩)] g20 fun v g23 =>
  ∃ x_6 : Bool, v = (.bool x_6) ∧ ifB (!x_6)
  ((CallsP Try.prog 15 #[] g23 fun v g24 =>
  ∃ x_7 : Bool, v = (.bool x_7) ∧ ∀ g25 : G, Ex g24 g25 →
  R (.bool x_7) g25))
  ((CallsP Try.prog 50 #[(.agg ⟨[(.int .i64 v0), (.int .i64 v1), (.string v2), (.slice v3a v3l v3c), (.slice v4a v4l v4c)]⟩), (.int .i64 (200 : Int)), (.int .i64 (1 : Int))] g23 fun v g26 =>
  ∃ x_8 : Int, v = (.int .i64 x_8) ∧ ifB (leI (200 : Int) x_8)
  ((CallsP Try.prog 15 #[] g26 fun v g27 =>
  ∃ x_9 : Bool, v = (.bool x_9) ∧ ∀ g28 : G, Ex g27 g28 →
  R (.bool x_9) g28))
  (J g26))))))
theorem F10_eq (h0a : Option Addr) (h0l : Nat) (h0c : Nat) (h1 : Int) (h2 : Int) (v0 : Int) (v1 : Int) (v2 : ByteArray) (v3a : Option Addr) (v3l : Nat) (v3c : Nat) (v4a : Option Addr) (v4l : Nat) (v4c : Nat) (g : G) (R : Value → G → Prop) : fnG cfg10 84 [.tmp 4] c10 an10 [(.agg ⟨[(.slice h0a h0l h0c), (.int .i64 h1), (.int .i64 h2)]⟩), (.agg ⟨[(.int .i64 v0), (.int .i64 v1), (.string v2), (.slice v3a v3l v3c), (.slice v4a v4l v4c)]⟩)] g nobody R = F10 h0a h0l h0c h1 h2 v0 v1 v2 v3a v3l v3c v4a v4l v4c g R := by kernel_rfl
theorem call10 (h0a : Option Addr) (h0l : Nat) (h0c : Nat) (h1 : Int) (h2 : Int) (v0 : Int) (v1 : Int) (v2 : ByteArray) (v3a : Option Addr) (v3l : Nat) (v3c : Nat) (v4a : Option Addr) (v4l : Nat) (v4c : Nat) (g : G) (R : Value → G → Prop) (hF : F10 h0a h0l h0c h1 h2 v0 v1 v2 v3a v3l v3c v4a v4l v4c g R) : CallsG Try.prog 10 #[(.agg ⟨[(.slice h0a h0l h0c), (.int .i64 h1), (.int .i64 h2)]⟩), (.agg ⟨[(.int .i64 v0), (.int .i64 v1), (.string v2), (.slice v3a v3l v3c), (.slice v4a v4l v4c)]⟩)] g nobody R :=
  fn_soundG (c := cfg10) TTok FNSok mixed Try.func10 (show Try.f10.body = some c10 by kernel_rfl) (show Try.f10.ntmps = 84 by kernel_rfl) (show Try.f10.results.toList = [.tmp 4] by kernel_rfl) rfl ((F10_eq h0a h0l h0c h1 h2 v0 v1 v2 v3a v3l v3c v4a v4l v4c g R).mpr hF)

/- 11 pilaster/pilasterlaw50.CollectSame -/
noncomputable def c11 : Code := match Try.f11.body with
  | some c => c
  | none => .skip
noncomputable def cfg11 : Cfg := ⟨Try.prog, TT, FNS, [4, 6], [(4, 4), (6, 6)], [], TCH, false, false⟩
def an11 : AnnG := (.seq .leaf (.seq (.seq .leaf (.cond (.seq .leaf .leaf) .leaf)) (.join ⟨[], [], []⟩ (.seq .leaf (.cond (.seq .leaf .leaf) .leaf)) (.seq .leaf (.seq .leaf (.seq .leaf (.join ⟨[(13, .int .i64)], [], []⟩ (.seq .leaf (.cond .leaf .leaf)) (.seq (.seq .leaf (.cond (.seq .leaf .leaf) .leaf)) (.seq .leaf (.seq .leaf .leaf))))))))))
def F11 (a0a : Option Addr) (a0l : Nat) (a0c : Nat) (a1 : Int) (a2 : Int) (xa : Option Addr) (xl : Nat) (xc : Nat) (b0a : Option Addr) (b0l : Nat) (b0c : Nat) (b1 : Int) (b2 : Int) (ya : Option Addr) (yl : Nat) (yc : Nat) (g : G) (R : Value → G → Prop) : Prop :=
  ∀ g1 : G, Ex g g1 →
  (CallsP Try.prog 41 #[] g1 fun v g2 =>
  ∃ x : Bool, v = (.bool x) ∧ ifB (!x)
  (∀ g3 : G, Ex g2 g3 →
  R (.bool false) g3)
  (∀ J : G → Prop,
  (∀ g4 : G, ((CallsP Try.prog 53 #[(.agg ⟨[(.slice a0a a0l a0c), (.int .i64 a1), (.int .i64 a2)]⟩), (.slice xa xl xc), (.agg ⟨[(.slice b0a b0l b0c), (.int .i64 b1), (.int .i64 b2)]⟩), (.slice ya yl yc)] g4 fun v g5 =>
  ∃ x0 : Bool, ∃ x1 : Int, v = (.tuple ⟨[(.bool x0), (.int .i64 x1)]⟩) ∧ (CallsP Try.prog 53 #[(.agg ⟨[(.slice b0a b0l b0c), (.int .i64 b1), (.int .i64 b2)]⟩), (.slice ya yl yc), (.agg ⟨[(.slice a0a a0l a0c), (.int .i64 a1), (.int .i64 a2)]⟩), (.slice xa xl xc)] g5 fun v g6 =>
  ∃ x0_1 : Bool, ∃ x1_1 : Int, v = (.tuple ⟨[(.bool x0_1), (.int .i64 x1_1)]⟩) ∧ (CallsP Try.prog 47 #[(.agg ⟨[(.slice a0a a0l a0c), (.int .i64 a1), (.int .i64 a2)]⟩), (.slice xa xl xc)] g6 fun v g7 =>
  ∃ fault : Int, v = (.int .i64 fault) ∧ ∀ J_1 : Int → G → Prop,
  (∀ fault_1 : Int, ∀ g8 : G, (ifB (!eqI fault_1 (0 : Int))
  (ifB (eqI x1 fault_1)
  (ifB (!x0)
  (ifB (!eqI x1_1 (0 : Int))
  (∀ g9 : G, Ex g8 g9 →
  R (.bool (!x0_1)) g9)
  (∀ g10 : G, Ex g8 g10 →
  R (.bool false) g10))
  (∀ g11 : G, Ex g8 g11 →
  R (.bool false) g11))
  (∀ g12 : G, Ex g8 g12 →
  R (.bool false) g12))
  ((CallsP Try.prog 54 #[(.agg ⟨[(.slice a0a a0l a0c), (.int .i64 a1), (.int .i64 a2)]⟩), (.slice xa xl xc), (.agg ⟨[(.slice b0a b0l b0c), (.int .i64 b1), (.int .i64 b2)]⟩), (.slice ya yl yc)] g8 fun v g13 =>
  ∃ want : Bool, v = (.bool want) ∧ ifB (eqI x1 (0 : Int))
  (ifB (x0 == want)
  (ifB (eqI x1_1 (0 : Int))
  (∀ g14 : G, Ex g13 g14 →
  R (.bool (x0_1 == want)) g14)
  (∀ g15 : G, Ex g13 g15 →
  R (.bool false) g15))
  (∀ g16 : G, Ex g13 g16 →
  R (.bool false) g16))
  (∀ g17 : G, Ex g13 g17 →
  R (.bool false) g17)))) → J_1 fault_1 g8) →
  ifB (eqI fault (0 : Int))
  ((CallsP Try.prog 47 #[(.agg ⟨[(.slice b0a b0l b0c), (.int .i64 b1), (.int .i64 b2)]⟩), (.slice ya yl yc)] g7 fun v g18 =>
  ∃ fault_2 : Int, v = (.int .i64 fault_2) ∧ J_1 fault_2 g18))
  (J_1 fault g7))))) → J g4) →
  (CallsP Try.prog 42 #[(.agg ⟨[(.slice a0a a0l a0c), (.int .i64 a1), (.int .i64 a2)]⟩), (.slice xa xl xc)] g2 fun v g19 =>
  ∃ x_1 : Bool, v = (.bool x_1) ∧ ifB x_1
  (∀ g20 : G, Ex g19 g20 →
  R (.bool true) g20)
  ((CallsP Try.prog 42 #[(.agg ⟨[(.slice b0a b0l b0c), (.int .i64 b1), (.int .i64 b2)]⟩), (.slice ya yl yc)] g19 fun v g21 =>
  ∃ x_2 : Bool, v = (.bool x_2) ∧ ifB x_2
  (∀ g22 : G, Ex g21 g22 →
  R (.bool true) g22)
  (J g21))))))
theorem F11_eq (a0a : Option Addr) (a0l : Nat) (a0c : Nat) (a1 : Int) (a2 : Int) (xa : Option Addr) (xl : Nat) (xc : Nat) (b0a : Option Addr) (b0l : Nat) (b0c : Nat) (b1 : Int) (b2 : Int) (ya : Option Addr) (yl : Nat) (yc : Nat) (g : G) (R : Value → G → Prop) : fnG cfg11 87 [.tmp 8] c11 an11 [(.agg ⟨[(.slice a0a a0l a0c), (.int .i64 a1), (.int .i64 a2)]⟩), (.slice xa xl xc), (.agg ⟨[(.slice b0a b0l b0c), (.int .i64 b1), (.int .i64 b2)]⟩), (.slice ya yl yc)] g nobody R = F11 a0a a0l a0c a1 a2 xa xl xc b0a b0l b0c b1 b2 ya yl yc g R := by kernel_rfl
theorem call11 (a0a : Option Addr) (a0l : Nat) (a0c : Nat) (a1 : Int) (a2 : Int) (xa : Option Addr) (xl : Nat) (xc : Nat) (b0a : Option Addr) (b0l : Nat) (b0c : Nat) (b1 : Int) (b2 : Int) (ya : Option Addr) (yl : Nat) (yc : Nat) (g : G) (R : Value → G → Prop) (hF : F11 a0a a0l a0c a1 a2 xa xl xc b0a b0l b0c b1 b2 ya yl yc g R) : CallsG Try.prog 11 #[(.agg ⟨[(.slice a0a a0l a0c), (.int .i64 a1), (.int .i64 a2)]⟩), (.slice xa xl xc), (.agg ⟨[(.slice b0a b0l b0c), (.int .i64 b1), (.int .i64 b2)]⟩), (.slice ya yl yc)] g nobody R :=
  fn_soundG (c := cfg11) TTok FNSok mixed Try.func11 (show Try.f11.body = some c11 by kernel_rfl) (show Try.f11.ntmps = 87 by kernel_rfl) (show Try.f11.results.toList = [.tmp 8] by kernel_rfl) rfl ((F11_eq a0a a0l a0c a1 a2 xa xl xc b0a b0l b0c b1 b2 ya yl yc g R).mpr hF)

/- 12 pilaster/pilasterlaw50.CollectGarbage -/
noncomputable def c12 : Code := match Try.f12.body with
  | some c => c
  | none => .skip
noncomputable def cfg12 : Cfg := ⟨Try.prog, TT, FNS, [3, 5, 7, 10, 11, 13], [(3, 3), (5, 5), (7, 7), (10, 10), (11, 11), (13, 13)], [], TCH, false, false⟩
def an12 : AnnG := (.seq .leaf (.seq (.seq .leaf (.cond (.seq .leaf .leaf) .leaf)) (.join ⟨[], [], []⟩ (.seq .leaf (.cond (.seq .leaf .leaf) .leaf)) (.seq .leaf (.seq (.seq .leaf (.cond (.seq .leaf .leaf) .leaf)) (.seq .leaf (.seq (.seq .leaf (.cond (.seq .leaf .leaf) .leaf)) (.seq .leaf (.seq .leaf (.seq .leaf (.seq .leaf .leaf)))))))))))
def F12 (h0a : Option Addr) (h0l : Nat) (h0c : Nat) (h1 : Int) (h2 : Int) (rootsa : Option Addr) (rootsl : Nat) (rootsc : Nat) (v0 : Int) (v1 : Int) (v2 : ByteArray) (v3a : Option Addr) (v3l : Nat) (v3c : Nat) (v4a : Option Addr) (v4l : Nat) (v4c : Nat) (g : G) (R : Value → G → Prop) : Prop :=
  ∀ g1 : G, Ex g g1 →
  (CallsP Try.prog 41 #[] g1 fun v g2 =>
  ∃ x : Bool, v = (.bool x) ∧ ifB (!x)
  (∀ g3 : G, Ex g2 g3 →
  R (.bool false) g3)
  (∀ J : G → Prop,
  (∀ g4 : G, ((CallsP Try.prog 43 #[(.agg ⟨[(.slice h0a h0l h0c), (.int .i64 h1), (.int .i64 h2)]⟩), (.slice rootsa rootsl rootsc)] g4 fun v g5 =>
  ∃ x00a : Option Addr, ∃ x00l : Nat, ∃ x00c : Nat, ∃ x01 : Int, ∃ x02 : Int, ∃ x1a : Option Addr, ∃ x1l : Nat, ∃ x1c : Nat, ∃ x2 : Int, v = (.tuple ⟨[(.agg ⟨[(.slice x00a x00l x00c), (.int .i64 x01), (.int .i64 x02)]⟩), (.slice x1a x1l x1c), (.int .i64 x2)]⟩) ∧ ifB (!eqI x2 (0 : Int))
  (∀ g6 : G, Ex g5 g6 →
  (CallsP Try.prog 44 #[(.agg ⟨[(.slice x00a x00l x00c), (.int .i64 x01), (.int .i64 x02)]⟩)] g6 fun v g7 =>
  ∃ x_1 : Bool, v = (.bool x_1) ∧ ∀ g8 : G, Ex g7 g8 →
  R (.bool x_1) g8))
  (∀ g9 : G, Ex g5 g9 →
  (CallsP Try.prog 26 #[(.agg ⟨[(.slice h0a h0l h0c), (.int .i64 h1), (.int .i64 h2)]⟩), (.agg ⟨[(.int .i64 v0), (.int .i64 v1), (.string v2), (.slice v3a v3l v3c), (.slice v4a v4l v4c)]⟩)] g9 fun v g10 =>
  ∃ x00a_1 : Option Addr, ∃ x00l_1 : Nat, ∃ x00c_1 : Nat, ∃ x01_1 : Int, ∃ x02_1 : Int, ∃ x10 : Bool, ∃ x11 : Int, ∃ x2_1 : Int, v = (.tuple ⟨[(.agg ⟨[(.slice x00a_1 x00l_1 x00c_1), (.int .i64 x01_1), (.int .i64 x02_1)]⟩), (.agg ⟨[(.bool x10), (.int .i64 x11)]⟩), (.int .i64 x2_1)]⟩) ∧ ifB (!eqI x2_1 (0 : Int))
  (∀ g11 : G, Ex g10 g11 →
  (CallsP Try.prog 44 #[(.agg ⟨[(.slice x00a_1 x00l_1 x00c_1), (.int .i64 x01_1), (.int .i64 x02_1)]⟩)] g11 fun v g12 =>
  ∃ x_2 : Bool, v = (.bool x_2) ∧ ∀ g13 : G, Ex g12 g13 →
  R (.bool x_2) g13))
  (∀ g14 : G, Ex g10 g14 →
  (CallsP Try.prog 43 #[(.agg ⟨[(.slice x00a_1 x00l_1 x00c_1), (.int .i64 x01_1), (.int .i64 x02_1)]⟩), (.slice rootsa rootsl rootsc)] g14 fun v g15 =>
  ∃ x00a_2 : Option Addr, ∃ x00l_2 : Nat, ∃ x00c_2 : Nat, ∃ x01_2 : Int, ∃ x02_2 : Int, ∃ x1a_1 : Option Addr, ∃ x1l_1 : Nat, ∃ x1c_1 : Nat, ∃ x2_2 : Int, v = (.tuple ⟨[(.agg ⟨[(.slice x00a_2 x00l_2 x00c_2), (.int .i64 x01_2), (.int .i64 x02_2)]⟩), (.slice x1a_1 x1l_1 x1c_1), (.int .i64 x2_2)]⟩) ∧ ∀ g16 : G, Ex g15 g16 →
  (CallsP Try.prog 56 #[(.agg ⟨[(.slice h0a h0l h0c), (.int .i64 h1), (.int .i64 h2)]⟩), (.slice rootsa rootsl rootsc)] g16 fun v g17 =>
  ∃ x0 : Int, ∃ x1 : Int, v = (.tuple ⟨[(.int .i64 x0), (.int .i64 x1)]⟩) ∧ (CallsP Try.prog 56 #[(.agg ⟨[(.slice x00a_1 x00l_1 x00c_1), (.int .i64 x01_1), (.int .i64 x02_1)]⟩), (.slice rootsa rootsl rootsc)] g17 fun v g18 =>
  ∃ x0_1 : Int, ∃ x1_1 : Int, v = (.tuple ⟨[(.int .i64 x0_1), (.int .i64 x1_1)]⟩) ∧ ifB (eqI x2_2 (0 : Int))
  ((CallsP Try.prog 20 #[(.agg ⟨[(.slice x00a x00l x00c), (.int .i64 x01), (.int .i64 x02)]⟩), (.agg ⟨[(.slice x00a_2 x00l_2 x00c_2), (.int .i64 x01_2), (.int .i64 x02_2)]⟩)] g18 fun v g19 =>
  ∃ x_3 : Bool, v = (.bool x_3) ∧ ifB x_3
  ((CallsP Try.prog 39 #[(.slice x1a x1l x1c), (.slice x1a_1 x1l_1 x1c_1)] g19 fun v g20 =>
  ∃ x_4 : Bool, v = (.bool x_4) ∧ ifB x_4
  (ifB (eqI x1 (0 : Int))
  (ifB (eqI x1_1 (0 : Int))
  (∀ g21 : G, Ex g20 g21 →
  R (.bool (eqI x0 x0_1)) g21)
  (∀ g22 : G, Ex g20 g22 →
  R (.bool false) g22))
  (∀ g23 : G, Ex g20 g23 →
  R (.bool false) g23))
  (∀ g24 : G, Ex g20 g24 →
  R (.bool false) g24)))
  (∀ g25 : G, Ex g19 g25 →
  R (.bool false) g25)))
  (∀ g26 : G, Ex g18 g26 →
  R (.bool false) g26))))))))) → J g4) →
  (CallsP Try.prog 42 #[(.agg ⟨[(.slice h0a h0l h0c), (.int .i64 h1), (.int .i64 h2)]⟩), (.slice rootsa rootsl rootsc)] g2 fun v g27 =>
  ∃ x_5 : Bool, v = (.bool x_5) ∧ ifB x_5
  (∀ g28 : G, Ex g27 g28 →
  R (.bool true) g28)
  (ifB (ltI (100 : Int) ((rootsl : Nat) : Int))
  (∀ g29 : G, Ex g27 g29 →
  R (.bool true) g29)
  ((CallsP Try.prog 55 #[(.agg ⟨[(.int .i64 v0), (.int .i64 v1), (.string v2), (.slice v3a v3l v3c), (.slice v4a v4l v4c)]⟩), (.int .i64 (30 : Int))] g27 fun v g30 =>
  ∃ x_6 : Int, v = (.int .i64 x_6) ∧ ifB (ltI (60 : Int) x_6)
  (∀ g31 : G, Ex g30 g31 →
  R (.bool true) g31)
  (J g30)))))))
theorem F12_eq (h0a : Option Addr) (h0l : Nat) (h0c : Nat) (h1 : Int) (h2 : Int) (rootsa : Option Addr) (rootsl : Nat) (rootsc : Nat) (v0 : Int) (v1 : Int) (v2 : ByteArray) (v3a : Option Addr) (v3l : Nat) (v3c : Nat) (v4a : Option Addr) (v4l : Nat) (v4c : Nat) (g : G) (R : Value → G → Prop) : fnG cfg12 101 [.tmp 6] c12 an12 [(.agg ⟨[(.slice h0a h0l h0c), (.int .i64 h1), (.int .i64 h2)]⟩), (.slice rootsa rootsl rootsc), (.agg ⟨[(.int .i64 v0), (.int .i64 v1), (.string v2), (.slice v3a v3l v3c), (.slice v4a v4l v4c)]⟩)] g nobody R = F12 h0a h0l h0c h1 h2 rootsa rootsl rootsc v0 v1 v2 v3a v3l v3c v4a v4l v4c g R := by kernel_rfl
theorem call12 (h0a : Option Addr) (h0l : Nat) (h0c : Nat) (h1 : Int) (h2 : Int) (rootsa : Option Addr) (rootsl : Nat) (rootsc : Nat) (v0 : Int) (v1 : Int) (v2 : ByteArray) (v3a : Option Addr) (v3l : Nat) (v3c : Nat) (v4a : Option Addr) (v4l : Nat) (v4c : Nat) (g : G) (R : Value → G → Prop) (hF : F12 h0a h0l h0c h1 h2 rootsa rootsl rootsc v0 v1 v2 v3a v3l v3c v4a v4l v4c g R) : CallsG Try.prog 12 #[(.agg ⟨[(.slice h0a h0l h0c), (.int .i64 h1), (.int .i64 h2)]⟩), (.slice rootsa rootsl rootsc), (.agg ⟨[(.int .i64 v0), (.int .i64 v1), (.string v2), (.slice v3a v3l v3c), (.slice v4a v4l v4c)]⟩)] g nobody R :=
  fn_soundG (c := cfg12) TTok FNSok mixed Try.func12 (show Try.f12.body = some c12 by kernel_rfl) (show Try.f12.ntmps = 101 by kernel_rfl) (show Try.f12.results.toList = [.tmp 6] by kernel_rfl) rfl ((F12_eq h0a h0l h0c h1 h2 rootsa rootsl rootsc v0 v1 v2 v3a v3l v3c v4a v4l v4c g R).mpr hF)

/- 13 pilaster/pilasterlaw50.CollectHeaps -/
noncomputable def c13 : Code := match Try.f13.body with
  | some c => c
  | none => .skip
noncomputable def cfg13 : Cfg := ⟨Try.prog, TT, FNS, [2, 5, 13], [(2, 2), (5, 5), (13, 13)], [], TCH, false, false⟩
def an13 : AnnG := (.seq .leaf (.seq (.seq .leaf (.cond (.seq .leaf .leaf) .leaf)) (.seq (.seq .leaf (.cond (.seq .leaf .leaf) .leaf)) (.seq .leaf (.seq .leaf (.seq .leaf (.seq (.seq .leaf (.seq .leaf (.cond (.seq .leaf .leaf) .leaf))) (.seq .leaf (.seq .leaf .leaf)))))))))
def F13 (h0a : Option Addr) (h0l : Nat) (h0c : Nat) (h1 : Int) (h2 : Int) (rootsa : Option Addr) (rootsl : Nat) (rootsc : Nat) (g : G) (R : Value → G → Prop) : Prop :=
  ∀ g1 : G, Ex g g1 →
  (CallsP Try.prog 41 #[] g1 fun v g2 =>
  ∃ x : Bool, v = (.bool x) ∧ ifB (!x)
  (∀ g3 : G, Ex g2 g3 →
  R (.bool false) g3)
  ((CallsP Try.prog 42 #[(.agg ⟨[(.slice h0a h0l h0c), (.int .i64 h1), (.int .i64 h2)]⟩), (.slice rootsa rootsl rootsc)] g2 fun v g4 =>
  ∃ x_1 : Bool, v = (.bool x_1) ∧ ifB x_1
  (∀ g5 : G, Ex g4 g5 →
  R (.bool true) g5)
  ((CallsP Try.prog 43 #[(.agg ⟨[(.slice h0a h0l h0c), (.int .i64 h1), (.int .i64 h2)]⟩), (.slice rootsa rootsl rootsc)] g4 fun v g6 =>
  ∃ x00a : Option Addr, ∃ x00l : Nat, ∃ x00c : Nat, ∃ x01 : Int, ∃ x02 : Int, ∃ x1a : Option Addr, ∃ x1l : Nat, ∃ x1c : Nat, ∃ x2 : Int, v = (.tuple ⟨[(.agg ⟨[(.slice x00a x00l x00c), (.int .i64 x01), (.int .i64 x02)]⟩), (.slice x1a x1l x1c), (.int .i64 x2)]⟩) ∧ ∀ g7 : G, Ex g6 g7 →
  (CallsP Try.prog 57 #[(.agg ⟨[(.slice h0a h0l h0c), (.int .i64 h1), (.int .i64 h2)]⟩), (.slice rootsa rootsl rootsc)] g7 fun v g8 =>
  ∃ x0a : Option Addr, ∃ x0l : Nat, ∃ x0c : Nat, ∃ x1 : Int, v = (.tuple ⟨[(.slice x0a x0l x0c), (.int .i64 x1)]⟩) ∧ (CallsP Try.prog 56 #[(.agg ⟨[(.slice h0a h0l h0c), (.int .i64 h1), (.int .i64 h2)]⟩), (.slice rootsa rootsl rootsc)] g8 fun v g9 =>
  ∃ x0 : Int, ∃ x1_1 : Int, v = (.tuple ⟨[(.int .i64 x0), (.int .i64 x1_1)]⟩) ∧ (CallsP Try.prog 47 #[(.agg ⟨[(.slice h0a h0l h0c), (.int .i64 h1), (.int .i64 h2)]⟩), (.slice rootsa rootsl rootsc)] g9 fun v g10 =>
  ∃ fault : Int, v = (.int .i64 fault) ∧ ifB (!eqI fault (0 : Int))
  (ifB (eqI x2 fault)
  ((CallsP Try.prog 44 #[(.agg ⟨[(.slice x00a x00l x00c), (.int .i64 x01), (.int .i64 x02)]⟩)] g10 fun v g11 =>
  ∃ x_2 : Bool, v = (.bool x_2) ∧ ifB x_2
  (ifB (eqI ((x1l : Nat) : Int) (0 : Int))
  (ifB (eqI x1 fault)
  (ifB (eqI ((x0l : Nat) : Int) (0 : Int))
  (ifB (eqI x1_1 fault)
  (∀ g12 : G, Ex g11 g12 →
  R (.bool (eqI x0 (0 : Int))) g12)
  (∀ g13 : G, Ex g11 g13 →
  R (.bool false) g13))
  (∀ g14 : G, Ex g11 g14 →
  R (.bool false) g14))
  (∀ g15 : G, Ex g11 g15 →
  R (.bool false) g15))
  (∀ g16 : G, Ex g11 g16 →
  R (.bool false) g16))
  (∀ g17 : G, Ex g11 g17 →
  R (.bool false) g17)))
  (∀ g18 : G, Ex g10 g18 →
  R (.bool false) g18))
  ((CallsP Try.prog 49 #[(.agg ⟨[(.slice h0a h0l h0c), (.int .i64 h1), (.int .i64 h2)]⟩), (.slice rootsa rootsl rootsc)] g10 fun v g19 =>
  ∃ x00a_1 : Option Addr, ∃ x00l_1 : Nat, ∃ x00c_1 : Nat, ∃ x01_1 : Int, ∃ x02_1 : Int, ∃ x1a_1 : Option Addr, ∃ x1l_1 : Nat, ∃ x1c_1 : Nat, v = (.tuple ⟨[(.agg ⟨[(.slice x00a_1 x00l_1 x00c_1), (.int .i64 x01_1), (.int .i64 x02_1)]⟩), (.slice x1a_1 x1l_1 x1c_1)]⟩) ∧ ifB (eqI x2 (0 : Int))
  (∀ g20 : G, Ex g19 g20 →
  (CallsP Try.prog 20 #[(.agg ⟨[(.slice x00a x00l x00c), (.int .i64 x01), (.int .i64 x02)]⟩), (.agg ⟨[(.slice x00a_1 x00l_1 x00c_1), (.int .i64 x01_1), (.int .i64 x02_1)]⟩)] g20 fun v g21 =>
  ∃ x_3 : Bool, v = (.bool x_3) ∧ ifB x_3
  ((CallsP Try.prog 39 #[(.slice x1a x1l x1c), (.slice x1a_1 x1l_1 x1c_1)] g21 fun v g22 =>
  ∃ x_4 : Bool, v = (.bool x_4) ∧ ifB x_4
  (ifB (eqI x1 (0 : Int))
  ((CallsP Try.prog 58 #[(.agg ⟨[(.slice h0a h0l h0c), (.int .i64 h1), (.int .i64 h2)]⟩), (.slice rootsa rootsl rootsc)] g22 fun v g23 =>
  ∃ xa : Option Addr, ∃ xl : Nat, ∃ xc : Nat, v = (.slice xa xl xc) ∧ (CallsP Try.prog 35 #[(.slice x0a x0l x0c), (.slice xa xl xc)] g23 fun v g24 =>
  ∃ x_5 : Bool, v = (.bool x_5) ∧ ifB x_5
  (ifB (eqI x1_1 (0 : Int))
  ((CallsP Try.prog 48 #[(.agg ⟨[(.slice h0a h0l h0c), (.int .i64 h1), (.int .i64 h2)]⟩), (.slice rootsa rootsl rootsc)] g24 fun v g25 =>
  ∃ x_6 : Int, v = (.int .i64 x_6) ∧ ∀ g26 : G, Ex g25 g26 →
  R (.bool (eqI x0 x_6)) g26))
  (∀ g27 : G, Ex g24 g27 →
  R (.bool false) g27))
  (∀ g28 : G, Ex g24 g28 →
  R (.bool false) g28))))
  (∀ g29 : G, Ex g22 g29 →
  R (.bool false) g29))
  (∀ g30 : G, Ex g22 g30 →
  R (.bool false) g30)))
  (∀ g31 : G, Ex g21 g31 →
  R (.bool false) g31)))
  (∀ g32 : G, Ex g19 g32 →
  R (.bool false) g32)))))))))))
theorem F13_eq (h0a : Option Addr) (h0l : Nat) (h0c : Nat) (h1 : Int) (h2 : Int) (rootsa : Option Addr) (rootsl : Nat) (rootsc : Nat) (g : G) (R : Value → G → Prop) : fnG cfg13 115 [.tmp 4] c13 an13 [(.agg ⟨[(.slice h0a h0l h0c), (.int .i64 h1), (.int .i64 h2)]⟩), (.slice rootsa rootsl rootsc)] g nobody R = F13 h0a h0l h0c h1 h2 rootsa rootsl rootsc g R := by kernel_rfl
theorem call13 (h0a : Option Addr) (h0l : Nat) (h0c : Nat) (h1 : Int) (h2 : Int) (rootsa : Option Addr) (rootsl : Nat) (rootsc : Nat) (g : G) (R : Value → G → Prop) (hF : F13 h0a h0l h0c h1 h2 rootsa rootsl rootsc g R) : CallsG Try.prog 13 #[(.agg ⟨[(.slice h0a h0l h0c), (.int .i64 h1), (.int .i64 h2)]⟩), (.slice rootsa rootsl rootsc)] g nobody R :=
  fn_soundG (c := cfg13) TTok FNSok mixed Try.func13 (show Try.f13.body = some c13 by kernel_rfl) (show Try.f13.ntmps = 115 by kernel_rfl) (show Try.f13.results.toList = [.tmp 4] by kernel_rfl) rfl ((F13_eq h0a h0l h0c h1 h2 rootsa rootsl rootsc g R).mpr hF)

/- 14 pilaster/pilasterlaw50.CollectKeeps -/
noncomputable def c14 : Code := match Try.f14.body with
  | some c => c
  | none => .skip
noncomputable def cfg14 : Cfg := ⟨Try.prog, TT, FNS, [2, 5, 16], [(2, 2), (5, 5), (16, 16), (54, 5), (56, 2), (103, 5)], [], TCH, false, false⟩
def an14 : AnnG := (.seq .leaf (.seq (.seq .leaf (.cond (.seq .leaf .leaf) .leaf)) (.join ⟨[], [], []⟩ (.seq .leaf (.cond (.seq .leaf .leaf) .leaf)) (.seq .leaf (.seq (.seq .leaf (.cond (.seq .leaf .leaf) .leaf)) (.join ⟨[], [], []⟩ (.seq .leaf (.cond (.seq .leaf .leaf) .leaf)) (.seq .leaf (.seq .leaf (.seq .leaf (.seq .leaf (.seq .leaf (.seq .leaf .leaf))))))))))))
def F14 (h0a : Option Addr) (h0l : Nat) (h0c : Nat) (h1 : Int) (h2 : Int) (rootsa : Option Addr) (rootsl : Nat) (rootsc : Nat) (g : G) (R : Value → G → Prop) : Prop :=
  ∀ g1 : G, Ex g g1 →
  (CallsP Try.prog 41 #[] g1 fun v g2 =>
  ∃ x : Bool, v = (.bool x) ∧ ifB (!x)
  (∀ g3 : G, Ex g2 g3 →
  R (.bool false) g3)
  (∀ J : G → Prop,
  (∀ g4 : G, ((CallsP Try.prog 43 #[(.agg ⟨[(.slice h0a h0l h0c), (.int .i64 h1), (.int .i64 h2)]⟩), (.slice rootsa rootsl rootsc)] g4 fun v g5 =>
  ∃ x00a : Option Addr, ∃ x00l : Nat, ∃ x00c : Nat, ∃ x01 : Int, ∃ x02 : Int, ∃ x1a : Option Addr, ∃ x1l : Nat, ∃ x1c : Nat, ∃ x2 : Int, v = (.tuple ⟨[(.agg ⟨[(.slice x00a x00l x00c), (.int .i64 x01), (.int .i64 x02)]⟩), (.slice x1a x1l x1c), (.int .i64 x2)]⟩) ∧ ifB (!eqI x2 (0 : Int))
  (∀ g6 : G, Ex g5 g6 →
  (CallsP Try.prog 44 #[(.agg ⟨[(.slice x00a x00l x00c), (.int .i64 x01), (.int .i64 x02)]⟩)] g6 fun v g7 =>
  ∃ x_1 : Bool, v = (.bool x_1) ∧ ifB x_1
  (∀ g8 : G, Ex g7 g8 →
  R (.bool (eqI ((x1l : Nat) : Int) (0 : Int))) g8)
  (∀ g9 : G, Ex g7 g9 →
  R (.bool false) g9)))
  (∀ J_1 : G → Prop,
  (∀ g10 : G, ((CallsP Try.prog 53 #[(.agg ⟨[(.slice h0a h0l h0c), (.int .i64 h1), (.int .i64 h2)]⟩), (.slice rootsa rootsl rootsc), (.agg ⟨[(.slice x00a x00l x00c), (.int .i64 x01), (.int .i64 x02)]⟩), (.slice x1a x1l x1c)] g10 fun v g11 =>
  ∃ x0 : Bool, ∃ x1 : Int, v = (.tuple ⟨[(.bool x0), (.int .i64 x1)]⟩) ∧ (CallsP Try.prog 56 #[(.agg ⟨[(.slice h0a h0l h0c), (.int .i64 h1), (.int .i64 h2)]⟩), (.slice rootsa rootsl rootsc)] g11 fun v g12 =>
  ∃ x0_1 : Int, ∃ x1_1 : Int, v = (.tuple ⟨[(.int .i64 x0_1), (.int .i64 x1_1)]⟩) ∧ (CallsP Try.prog 34 #[(.agg ⟨[(.slice x00a x00l x00c), (.int .i64 x01), (.int .i64 x02)]⟩)] g12 fun v g13 =>
  ∃ x0a : Option Addr, ∃ x0l : Nat, ∃ x0c : Nat, ∃ x1_2 : Int, v = (.tuple ⟨[(.slice x0a x0l x0c), (.int .i64 x1_2)]⟩) ∧ (CallsP Try.prog 57 #[(.agg ⟨[(.slice x00a x00l x00c), (.int .i64 x01), (.int .i64 x02)]⟩), (.slice x1a x1l x1c)] g13 fun v g14 =>
  ∃ x0a_1 : Option Addr, ∃ x0l_1 : Nat, ∃ x0c_1 : Nat, ∃ x1_3 : Int, v = (.tuple ⟨[(.slice x0a_1 x0l_1 x0c_1), (.int .i64 x1_3)]⟩) ∧ (CallsP Try.prog 43 #[(.agg ⟨[(.slice x00a x00l x00c), (.int .i64 x01), (.int .i64 x02)]⟩), (.slice x1a x1l x1c)] g14 fun v g15 =>
  ∃ x00a_1 : Option Addr, ∃ x00l_1 : Nat, ∃ x00c_1 : Nat, ∃ x01_1 : Int, ∃ x02_1 : Int, ∃ x1a_1 : Option Addr, ∃ x1l_1 : Nat, ∃ x1c_1 : Nat, ∃ x2_1 : Int, v = (.tuple ⟨[(.agg ⟨[(.slice x00a_1 x00l_1 x00c_1), (.int .i64 x01_1), (.int .i64 x02_1)]⟩), (.slice x1a_1 x1l_1 x1c_1), (.int .i64 x2_1)]⟩) ∧ ifB (eqI x1 (0 : Int))
  (ifB x0
  (ifB (eqI x1_1 (0 : Int))
  (ifB (eqI x0_1 x01)
  (ifB (eqI x1_2 (0 : Int))
  (ifB (eqI x1_3 (0 : Int))
  (∀ g16 : G, Ex g15 g16 →
  (CallsP Try.prog 35 #[(.slice x0a x0l x0c), (.slice x0a_1 x0l_1 x0c_1)] g16 fun v g17 =>
  ∃ x_2 : Bool, v = (.bool x_2) ∧ ifB x_2
  (ifB (eqI x2_1 (0 : Int))
  ((CallsP Try.prog 20 #[(.agg ⟨[(.slice x00a_1 x00l_1 x00c_1), (.int .i64 x01_1), (.int .i64 x02_1)]⟩), (.agg ⟨[(.slice x00a x00l x00c), (.int .i64 x01), (.int .i64 x02)]⟩)] g17 fun v g18 =>
  ∃ x_3 : Bool, v = (.bool x_3) ∧ ifB x_3
  ((CallsP Try.prog 39 #[(.slice x1a_1 x1l_1 x1c_1), (.slice x1a x1l x1c)] g18 fun v g19 =>
  ∃ x_4 : Bool, v = (.bool x_4) ∧ ∀ g20 : G, Ex g19 g20 →
  R (.bool x_4) g20))
  (∀ g21 : G, Ex g18 g21 →
  R (.bool false) g21)))
  (∀ g22 : G, Ex g17 g22 →
  R (.bool false) g22))
  (∀ g23 : G, Ex g17 g23 →
  R (.bool false) g23)))
  (∀ g24 : G, Ex g15 g24 →
  R (.bool false) g24))
  (∀ g25 : G, Ex g15 g25 →
  R (.bool false) g25))
  (∀ g26 : G, Ex g15 g26 →
  R (.bool false) g26))
  (∀ g27 : G, Ex g15 g27 →
  R (.bool false) g27))
  (∀ g28 : G, Ex g15 g28 →
  R (.bool false) g28))
  (∀ g29 : G, Ex g15 g29 →
  R (.bool false) g29))))))) → J_1 g10) →
  ∀ g30 : G, Ex g5 g30 →
  (CallsP Try.prog 21 #[(.agg ⟨[(.slice x00a x00l x00c), (.int .i64 x01), (.int .i64 x02)]⟩)] g30 fun v g31 =>
  ∃ x_5 : Bool, v = (.bool x_5) ∧ ifB (!x_5)
  (∀ g32 : G, Ex g31 g32 →
  R (.bool false) g32)
  ((CallsP Try.prog 23 #[(.agg ⟨[(.slice x00a x00l x00c), (.int .i64 x01), (.int .i64 x02)]⟩)] g31 fun v g33 =>
  ∃ x_6 : Bool, v = (.bool x_6) ∧ ifB (!x_6)
  (∀ g34 : G, Ex g33 g34 →
  R (.bool false) g34)
  (ifB (!eqI x02 h2)
  (∀ g35 : G, Ex g33 g35 →
  R (.bool false) g35)
  (J_1 g33)))))))) → J g4) →
  (CallsP Try.prog 42 #[(.agg ⟨[(.slice h0a h0l h0c), (.int .i64 h1), (.int .i64 h2)]⟩), (.slice rootsa rootsl rootsc)] g2 fun v g36 =>
  ∃ x_7 : Bool, v = (.bool x_7) ∧ ifB x_7
  (∀ g37 : G, Ex g36 g37 →
  R (.bool true) g37)
  (ifB (ltI (100 : Int) ((rootsl : Nat) : Int))
  (∀ g38 : G, Ex g36 g38 →
  R (.bool true) g38)
  (J g36)))))
theorem F14_eq (h0a : Option Addr) (h0l : Nat) (h0c : Nat) (h1 : Int) (h2 : Int) (rootsa : Option Addr) (rootsl : Nat) (rootsc : Nat) (g : G) (R : Value → G → Prop) : fnG cfg14 134 [.tmp 4] c14 an14 [(.agg ⟨[(.slice h0a h0l h0c), (.int .i64 h1), (.int .i64 h2)]⟩), (.slice rootsa rootsl rootsc)] g nobody R = F14 h0a h0l h0c h1 h2 rootsa rootsl rootsc g R := by kernel_rfl
theorem call14 (h0a : Option Addr) (h0l : Nat) (h0c : Nat) (h1 : Int) (h2 : Int) (rootsa : Option Addr) (rootsl : Nat) (rootsc : Nat) (g : G) (R : Value → G → Prop) (hF : F14 h0a h0l h0c h1 h2 rootsa rootsl rootsc g R) : CallsG Try.prog 14 #[(.agg ⟨[(.slice h0a h0l h0c), (.int .i64 h1), (.int .i64 h2)]⟩), (.slice rootsa rootsl rootsc)] g nobody R :=
  fn_soundG (c := cfg14) TTok FNSok mixed Try.func14 (show Try.f14.body = some c14 by kernel_rfl) (show Try.f14.ntmps = 134 by kernel_rfl) (show Try.f14.results.toList = [.tmp 4] by kernel_rfl) rfl ((F14_eq h0a h0l h0c h1 h2 rootsa rootsl rootsc g R).mpr hF)

/- 15 pilaster/pilasterlaw49.awake -/
noncomputable def c15 : Code := match Try.f15.body with
  | some c => c
  | none => .skip
noncomputable def cfg15 : Cfg := ⟨Try.prog, TT, FNS, [3, 5, 6], [(3, 3), (5, 5), (6, 6)], [], TCH, false, false⟩
def an15 : AnnG := (.seq .leaf (.seq .leaf (.seq .leaf (.seq .leaf (.seq .leaf (.seq .leaf .leaf))))))
def F15 (g : G) (R : Value → G → Prop) : Prop :=
  (CallsP Try.prog 18 #[(.int .i64 (1 : Int)), (.int .i64 (2 : Int))] g fun v g1 =>
  ∃ x0 : Int, ∃ x1 : Int, v = (.tuple ⟨[(.int .i64 x0), (.int .i64 x1)]⟩) ∧ (CallsP Try.prog 17 #[(.int .i64 (7 : Int))] g1 fun v g2 =>
  ∃ x00a : Option Addr, ∃ x00l : Nat, ∃ x00c : Nat, ∃ x01 : Int, ∃ x02 : Int, ∃ x1_1 : Int, v = (.tuple ⟨[(.agg ⟨[(.slice x00a x00l x00c), (.int .i64 x01), (.int .i64 x02)]⟩), (.int .i64 x1_1)]⟩) ∧ ∀ g3 : G, Ex g2 g3 →
  ∀ g4 : G, NewL g3 g4 38 [(.int .i64 (3 : Int)), (.int .i64 (0 : Int)), (.string (bs [])), (.slice none 0 0), (.slice none 0 0)] →
  (CallsP Try.prog 26 #[(.agg ⟨[(.slice x00a x00l x00c), (.int .i64 x01), (.int .i64 x02)]⟩), (.agg ⟨[(.int .i64 (4 : Int)), (.int .i64 (1 : Int)), (.string (bs [])), (.slice none 0 0), (.slice (some ⟨g3.w.heap.size, 0, none⟩) 1 1)]⟩)] g4 fun v g5 =>
  ∃ x00a_1 : Option Addr, ∃ x00l_1 : Nat, ∃ x00c_1 : Nat, ∃ x01_1 : Int, ∃ x02_1 : Int, ∃ x10 : Bool, ∃ x11 : Int, ∃ x2 : Int, v = (.tuple ⟨[(.agg ⟨[(.slice x00a_1 x00l_1 x00c_1), (.int .i64 x01_1), (.int .i64 x02_1)]⟩), (.agg ⟨[(.bool x10), (.int .i64 x11)]⟩), (.int .i64 x2)]⟩) ∧ ∀ g6 : G, Ex g5 g6 →
  (CallsP Try.prog 34 #[(.agg ⟨[(.slice x00a_1 x00l_1 x00c_1), (.int .i64 x01_1), (.int .i64 x02_1)]⟩)] g6 fun v g7 =>
  ∃ x0a : Option Addr, ∃ x0l : Nat, ∃ x0c : Nat, ∃ x1_2 : Int, v = (.tuple ⟨[(.slice x0a x0l x0c), (.int .i64 x1_2)]⟩) ∧ ifB (eqI x0 (5 : Int))
  (ifB (eqI x1 (0 : Int))
  (ifB (eqI x1_1 (0 : Int))
  (ifB (eqI x2 (0 : Int))
  (ifB ((x10 == true) && ((eqI x11 (3 : Int)) && true))
  (∀ g8 : G, NewL g7 g8 3 [(.int .i64 (0 : Int)), (.int .i64 (3 : Int))] →
  (CallsP Try.prog 35 #[(.slice x0a x0l x0c), (.slice (some ⟨g7.w.heap.size, 0, none⟩) 2 2)] g8 fun v g9 =>
  ∃ x : Bool, v = (.bool x) ∧ ifB x
  (∀ g10 : G, Ex g9 g10 →
  R (.bool (eqI x1_2 (0 : Int))) g10)
  (∀ g11 : G, Ex g9 g11 →
  R (.bool false) g11)))
  (∀ g12 : G, Ex g7 g12 →
  R (.bool false) g12))
  (∀ g13 : G, Ex g7 g13 →
  R (.bool false) g13))
  (∀ g14 : G, Ex g7 g14 →
  R (.bool false) g14))
  (∀ g15 : G, Ex g7 g15 →
  R (.bool false) g15))
  (∀ g16 : G, Ex g7 g16 →
  R (.bool false) g16)))))
theorem F15_eq (g : G) (R : Value → G → Prop) : fnG cfg15 60 [.tmp 0] c15 an15 [] g nobody R = F15 g R := by kernel_rfl
theorem call15 (g : G) (R : Value → G → Prop) (hF : F15 g R) : CallsG Try.prog 15 #[] g nobody R :=
  fn_soundG (c := cfg15) TTok FNSok mixed Try.func15 (show Try.f15.body = some c15 by kernel_rfl) (show Try.f15.ntmps = 60 by kernel_rfl) (show Try.f15.results.toList = [.tmp 0] by kernel_rfl) rfl ((F15_eq g R).mpr hF)

/- 16 pilaster/pilasterlaw49.few -/
noncomputable def c16 : Code := match Try.f16.body with
  | some c => c
  | none => .skip
noncomputable def cfg16 : Cfg := ⟨Try.prog, TT, FNS, [1], [(1, 1), (3, 1)], [], TCH, false, false⟩
def an16 : AnnG := (.seq .leaf (.seq .leaf .leaf))
def F16 (h0a : Option Addr) (h0l : Nat) (h0c : Nat) (h1 : Int) (h2 : Int) (g : G) (R : Value → G → Prop) : Prop :=
  ∀ g1 : G, Ex g g1 →
  R (.bool (leI ((h0l : Nat) : Int) (600 : Int))) g1
theorem F16_eq (h0a : Option Addr) (h0l : Nat) (h0c : Nat) (h1 : Int) (h2 : Int) (g : G) (R : Value → G → Prop) : fnG cfg16 7 [.tmp 2] c16 an16 [(.agg ⟨[(.slice h0a h0l h0c), (.int .i64 h1), (.int .i64 h2)]⟩)] g nobody R = F16 h0a h0l h0c h1 h2 g R := by kernel_rfl
theorem call16 (h0a : Option Addr) (h0l : Nat) (h0c : Nat) (h1 : Int) (h2 : Int) (g : G) (R : Value → G → Prop) (hF : F16 h0a h0l h0c h1 h2 g R) : CallsG Try.prog 16 #[(.agg ⟨[(.slice h0a h0l h0c), (.int .i64 h1), (.int .i64 h2)]⟩)] g nobody R :=
  fn_soundG (c := cfg16) TTok FNSok mixed Try.func16 (show Try.f16.body = some c16 by kernel_rfl) (show Try.f16.ntmps = 7 by kernel_rfl) (show Try.f16.results.toList = [.tmp 2] by kernel_rfl) rfl ((F16_eq h0a h0l h0c h1 h2 g R).mpr hF)

/- 17 pilaster/heap.New -/
noncomputable def c17 : Code := match Try.f17.body with
  | some c => c
  | none => .skip
noncomputable def cfg17 : Cfg := ⟨Try.prog, TT, FNS, [2], [(2, 2)], [], TCH, false, false⟩
def an17 : AnnG := (.seq .leaf (.seq (.seq .leaf (.cond (.seq .leaf .leaf) .leaf)) (.seq .leaf .leaf)))
def F17 (limit : Int) (g : G) (R : Value → G → Prop) : Prop :=
  ifB (ltI limit (0 : Int))
  (∀ g1 : G, Ex g g1 →
  ∀ g2 : G, Ex g1 g2 →
  R (.tuple ⟨[(.agg ⟨[(.slice none 0 0), (.int .i64 (0 : Int)), (.int .i64 (0 : Int))]⟩), (.int .i64 (2 : Int))]⟩) g2)
  (ifB (ltI (65536 : Int) limit)
  (∀ g3 : G, Ex g g3 →
  ∀ g4 : G, Ex g3 g4 →
  R (.tuple ⟨[(.agg ⟨[(.slice none 0 0), (.int .i64 (0 : Int)), (.int .i64 (0 : Int))]⟩), (.int .i64 (2 : Int))]⟩) g4)
  (∀ g5 : G, Ex g g5 →
  ∀ g6 : G, Ex g5 g6 →
  R (.tuple ⟨[(.agg ⟨[(.slice none 0 0), (.int .i64 (0 : Int)), (.int .i64 limit)]⟩), (.int .i64 (0 : Int))]⟩) g6))
theorem F17_eq (limit : Int) (g : G) (R : Value → G → Prop) : fnG cfg17 13 [.cell 2 24, .tmp 3] c17 an17 [(.int .i64 limit)] g nobody R = F17 limit g R := by kernel_rfl
theorem call17 (limit : Int) (g : G) (R : Value → G → Prop) (hF : F17 limit g R) : CallsG Try.prog 17 #[(.int .i64 limit)] g nobody R :=
  fn_soundG (c := cfg17) TTok FNSok mixed Try.func17 (show Try.f17.body = some c17 by kernel_rfl) (show Try.f17.ntmps = 13 by kernel_rfl) (show Try.f17.results.toList = [.cell 2 24, .tmp 3] by kernel_rfl) rfl ((F17_eq limit g R).mpr hF)

/- 18 pilaster/heap.Need -/
noncomputable def c18 : Code := match Try.f18.body with
  | some c => c
  | none => .skip
noncomputable def cfg18 : Cfg := ⟨Try.prog, TT, FNS, [], [], [], TCH, false, false⟩
def an18 : AnnG := (.seq .leaf (.seq (.seq .leaf (.cond (.seq .leaf .leaf) .leaf)) (.seq .leaf .leaf)))
def F18 (kind : Int) (n : Int) (g : G) (R : Value → G → Prop) : Prop :=
  (CallsP Try.prog 59 #[(.int .i64 kind), (.int .i64 n)] g fun v g1 =>
  ∃ x : Bool, v = (.bool x) ∧ ifB (!x)
  (∀ g2 : G, Ex g1 g2 →
  R (.tuple ⟨[(.int .i64 (0 : Int)), (.int .i64 (2 : Int))]⟩) g2)
  (InI64 (n + (3 : Int)) ∧ ∀ g3 : G, Ex g1 g3 →
  R (.tuple ⟨[(.int .i64 (n + (3 : Int))), (.int .i64 (0 : Int))]⟩) g3))
theorem F18_eq (kind : Int) (n : Int) (g : G) (R : Value → G → Prop) : fnG cfg18 12 [.tmp 4, .tmp 5] c18 an18 [(.int .i64 kind), (.int .i64 n)] g nobody R = F18 kind n g R := by kernel_rfl
theorem call18 (kind : Int) (n : Int) (g : G) (R : Value → G → Prop) (hF : F18 kind n g R) : CallsG Try.prog 18 #[(.int .i64 kind), (.int .i64 n)] g nobody R :=
  fn_soundG (c := cfg18) TTok FNSok mixed Try.func18 (show Try.f18.body = some c18 by kernel_rfl) (show Try.f18.ntmps = 12 by kernel_rfl) (show Try.f18.results.toList = [.tmp 4, .tmp 5] by kernel_rfl) rfl ((F18_eq kind n g R).mpr hF)

/- 19 pilaster/pilasterlaw49.none -/
noncomputable def c19 : Code := match Try.f19.body with
  | some c => c
  | none => .skip
noncomputable def cfg19 : Cfg := ⟨Try.prog, TT, FNS, [1], [(1, 1)], [], TCH, false, false⟩
def an19 : AnnG := (.seq .leaf (.seq .leaf .leaf))
def F19 (h0a : Option Addr) (h0l : Nat) (h0c : Nat) (h1 : Int) (h2 : Int) (g : G) (R : Value → G → Prop) : Prop :=
  ∀ g1 : G, Ex g g1 →
  (CallsP Try.prog 20 #[(.agg ⟨[(.slice h0a h0l h0c), (.int .i64 h1), (.int .i64 h2)]⟩), (.agg ⟨[(.slice none 0 0), (.int .i64 (0 : Int)), (.int .i64 (0 : Int))]⟩)] g1 fun v g2 =>
  ∃ x : Bool, v = (.bool x) ∧ ∀ g3 : G, Ex g2 g3 →
  R (.bool x) g3)
theorem F19_eq (h0a : Option Addr) (h0l : Nat) (h0c : Nat) (h1 : Int) (h2 : Int) (g : G) (R : Value → G → Prop) : fnG cfg19 6 [.tmp 2] c19 an19 [(.agg ⟨[(.slice h0a h0l h0c), (.int .i64 h1), (.int .i64 h2)]⟩)] g nobody R = F19 h0a h0l h0c h1 h2 g R := by kernel_rfl
theorem call19 (h0a : Option Addr) (h0l : Nat) (h0c : Nat) (h1 : Int) (h2 : Int) (g : G) (R : Value → G → Prop) (hF : F19 h0a h0l h0c h1 h2 g R) : CallsG Try.prog 19 #[(.agg ⟨[(.slice h0a h0l h0c), (.int .i64 h1), (.int .i64 h2)]⟩)] g nobody R :=
  fn_soundG (c := cfg19) TTok FNSok mixed Try.func19 (show Try.f19.body = some c19 by kernel_rfl) (show Try.f19.ntmps = 6 by kernel_rfl) (show Try.f19.results.toList = [.tmp 2] by kernel_rfl) rfl ((F19_eq h0a h0l h0c h1 h2 g R).mpr hF)

/- 20 pilaster/pilasterref49.Same -/
noncomputable def c20 : Code := match Try.f20.body with
  | some c => c
  | none => .skip
noncomputable def cfg20 : Cfg := ⟨Try.prog, TT, FNS, [2, 3], [(2, 2), (3, 3), (5, 2), (7, 3), (11, 2), (13, 3), (18, 2), (20, 3)], [], TCH, false, false⟩
def an20 : AnnG := (.seq .leaf (.seq .leaf .leaf))
def F20 (a0a : Option Addr) (a0l : Nat) (a0c : Nat) (a1 : Int) (a2 : Int) (b0a : Option Addr) (b0l : Nat) (b0c : Nat) (b1 : Int) (b2 : Int) (g : G) (R : Value → G → Prop) : Prop :=
  ifB (eqI a1 b1)
  (ifB (eqI a2 b2)
  (∀ g1 : G, Ex g g1 →
  (CallsP Try.prog 39 #[(.slice a0a a0l a0c), (.slice b0a b0l b0c)] g1 fun v g2 =>
  ∃ x : Bool, v = (.bool x) ∧ ∀ g3 : G, Ex g2 g3 →
  R (.bool x) g3))
  (∀ g4 : G, Ex g g4 →
  R (.bool false) g4))
  (∀ g5 : G, Ex g g5 →
  R (.bool false) g5)
theorem F20_eq (a0a : Option Addr) (a0l : Nat) (a0c : Nat) (a1 : Int) (a2 : Int) (b0a : Option Addr) (b0l : Nat) (b0c : Nat) (b1 : Int) (b2 : Int) (g : G) (R : Value → G → Prop) : fnG cfg20 24 [.tmp 4] c20 an20 [(.agg ⟨[(.slice a0a a0l a0c), (.int .i64 a1), (.int .i64 a2)]⟩), (.agg ⟨[(.slice b0a b0l b0c), (.int .i64 b1), (.int .i64 b2)]⟩)] g nobody R = F20 a0a a0l a0c a1 a2 b0a b0l b0c b1 b2 g R := by kernel_rfl
theorem call20 (a0a : Option Addr) (a0l : Nat) (a0c : Nat) (a1 : Int) (a2 : Int) (b0a : Option Addr) (b0l : Nat) (b0c : Nat) (b1 : Int) (b2 : Int) (g : G) (R : Value → G → Prop) (hF : F20 a0a a0l a0c a1 a2 b0a b0l b0c b1 b2 g R) : CallsG Try.prog 20 #[(.agg ⟨[(.slice a0a a0l a0c), (.int .i64 a1), (.int .i64 a2)]⟩), (.agg ⟨[(.slice b0a b0l b0c), (.int .i64 b1), (.int .i64 b2)]⟩)] g nobody R :=
  fn_soundG (c := cfg20) TTok FNSok mixed Try.func20 (show Try.f20.body = some c20 by kernel_rfl) (show Try.f20.ntmps = 24 by kernel_rfl) (show Try.f20.results.toList = [.tmp 4] by kernel_rfl) rfl ((F20_eq a0a a0l a0c a1 a2 b0a b0l b0c b1 b2 g R).mpr hF)

/- 21 pilaster/heap.Valid -/
noncomputable def c21 : Code := match Try.f21.body with
  | some c => c
  | none => .skip
noncomputable def cfg21 : Cfg := ⟨Try.prog, TT, FNS, [1], [(1, 1)], [], TCH, false, false⟩
def an21 : AnnG := (.seq .leaf (.seq .leaf (.seq .leaf .leaf)))
def F21 (h0a : Option Addr) (h0l : Nat) (h0c : Nat) (h1 : Int) (h2 : Int) (g : G) (R : Value → G → Prop) : Prop :=
  ∀ g1 : G, Ex g g1 →
  (CallsP Try.prog 60 #[(.agg ⟨[(.slice h0a h0l h0c), (.int .i64 h1), (.int .i64 h2)]⟩)] g1 fun v g2 =>
  ∃ x0a : Option Addr, ∃ x0l : Nat, ∃ x0c : Nat, ∃ x1 : Bool, v = (.tuple ⟨[(.slice x0a x0l x0c), (.bool x1)]⟩) ∧ ∀ g3 : G, Ex g2 g3 →
  R (.bool x1) g3)
theorem F21_eq (h0a : Option Addr) (h0l : Nat) (h0c : Nat) (h1 : Int) (h2 : Int) (g : G) (R : Value → G → Prop) : fnG cfg21 11 [.tmp 2] c21 an21 [(.agg ⟨[(.slice h0a h0l h0c), (.int .i64 h1), (.int .i64 h2)]⟩)] g nobody R = F21 h0a h0l h0c h1 h2 g R := by kernel_rfl
theorem call21 (h0a : Option Addr) (h0l : Nat) (h0c : Nat) (h1 : Int) (h2 : Int) (g : G) (R : Value → G → Prop) (hF : F21 h0a h0l h0c h1 h2 g R) : CallsG Try.prog 21 #[(.agg ⟨[(.slice h0a h0l h0c), (.int .i64 h1), (.int .i64 h2)]⟩)] g nobody R :=
  fn_soundG (c := cfg21) TTok FNSok mixed Try.func21 (show Try.f21.body = some c21 by kernel_rfl) (show Try.f21.ntmps = 11 by kernel_rfl) (show Try.f21.results.toList = [.tmp 2] by kernel_rfl) rfl ((F21_eq h0a h0l h0c h1 h2 g R).mpr hF)

/- 22 pilaster/pilasterref49.Length -/
noncomputable def c22 : Code := match Try.f22.body with
  | some c => c
  | none => .skip
noncomputable def cfg22 : Cfg := ⟨Try.prog, TT, FNS, [], [], [], TCH, false, false⟩
def an22 : AnnG := (.seq .leaf (.seq (.seq .leaf (.blk (.join ⟨[(6, .bool)], [], []⟩ (.seq .leaf (.cond .leaf .leaf)) (.cond (.seq .leaf .leaf) (.seq .leaf (.cond (.seq .leaf .leaf) (.seq .leaf (.cond (.seq .leaf .leaf) .leaf)))))))) (.seq .leaf .leaf)))
def F22 (kind : Int) (n : Int) (g : G) (R : Value → G → Prop) : Prop :=
  ∀ J : Bool → G → Prop,
  (∀ v_1 : Bool, ∀ g1 : G, (ifB v_1
  ((CallsP Try.prog 61 #[(.int .i64 n), (.int .i64 (0 : Int)), (.int .i64 (1000 : Int))] g1 fun v g2 =>
  ∃ x : Bool, v = (.bool x) ∧ ∀ g3 : G, Ex g2 g3 →
  R (.bool x) g3))
  (ifB (eqI kind (2 : Int))
  (∀ g4 : G, Ex g1 g4 →
  R (.bool (eqI n (1 : Int))) g4)
  (ifB (eqI kind (4 : Int))
  ((CallsP Try.prog 61 #[(.int .i64 n), (.int .i64 (0 : Int)), (.int .i64 (16384 : Int))] g1 fun v g5 =>
  ∃ x_1 : Bool, v = (.bool x_1) ∧ ∀ g6 : G, Ex g5 g6 →
  R (.bool x_1) g6))
  (∀ g7 : G, Ex g1 g7 →
  R (.bool false) g7)))) → J v_1 g1) →
  ifB (eqI kind (1 : Int))
  (J true g)
  (J (eqI kind (3 : Int)) g)
theorem F22_eq (kind : Int) (n : Int) (g : G) (R : Value → G → Prop) : fnG cfg22 19 [.tmp 4] c22 an22 [(.int .i64 kind), (.int .i64 n)] g nobody R = F22 kind n g R := by kernel_rfl
theorem call22 (kind : Int) (n : Int) (g : G) (R : Value → G → Prop) (hF : F22 kind n g R) : CallsG Try.prog 22 #[(.int .i64 kind), (.int .i64 n)] g nobody R :=
  fn_soundG (c := cfg22) TTok FNSok mixed Try.func22 (show Try.f22.body = some c22 by kernel_rfl) (show Try.f22.ntmps = 19 by kernel_rfl) (show Try.f22.results.toList = [.tmp 4] by kernel_rfl) rfl ((F22_eq kind n g R).mpr hF)

/- 23 pilaster/pilasterref49.Valid -/
noncomputable def c23 : Code := match Try.f23.body with
  | some c => c
  | none => .skip
noncomputable def cfg23 : Cfg := ⟨Try.prog, TT, FNS, [1], [(1, 1), (8, 1), (12, 1), (17, 1), (19, 1), (25, 1), (27, 1), (32, 1), (45, 1), (61, 1)], [], TCH, false, false⟩
def an23 : AnnG := (.seq .leaf (.join ⟨[], [], []⟩ (.seq .leaf (.cond (.seq .leaf .leaf) .leaf)) (.seq .leaf (.seq (.seq .leaf (.cond (.seq .leaf .leaf) .leaf)) (.seq (.seq .leaf (.blk (.loop ⟨[(5, .int .i64)], [], []⟩ (.seq (.seq .leaf (.cond .leaf .leaf)) (.seq (.blk (.seq (.tree 7 (.quiet 0 (.quiet 1 (.quiet 2 (.quiet 3 (.quiet 4 (.quiet 5 (.quiet 6 .fin)))))))) (.seq .leaf (.blk (.loop ⟨[(7, .int .i64)], [], []⟩ (.seq (.seq .leaf (.cond .leaf .leaf)) (.seq (.blk (.seq (.tree 12 (.quiet 0 (.quiet 1 (.quiet 2 (.quiet 3 (.quiet 4 (.quiet 5 (.quiet 6 (.quiet 7 (.quiet 8 (.quiet 9 (.quiet 10 (.quiet 11 .fin))))))))))))) (.cond (.seq .leaf .leaf) .leaf))) .leaf))))))) .leaf))))) (.seq .leaf .leaf))))))
def F23 (h0a : Option Addr) (h0l : Nat) (h0c : Nat) (h1 : Int) (h2 : Int) (g : G) (R : Value → G → Prop) : Prop :=
  ∀ J : G → Prop,
  (∀ g1 : G, ((CallsP Try.prog 62 #[(.slice h0a h0l h0c)] g1 fun v g2 =>
  ∃ x0a : Option Addr, ∃ x0l : Nat, ∃ x0c : Nat, ∃ x1 : Bool, v = (.tuple ⟨[(.slice x0a x0l x0c), (.bool x1)]⟩) ∧ ifB (!x1)
  (∀ g3 : G, Ex g2 g3 →
  R (.bool false) g3)
  (∃ Inv : Nat → Int → G → Prop, ((∃ m0 : Nat, Inv m0 (0 : Int) g2)) ∧
  ∀ m : Nat, ∀ i : Int, ∀ g4 : G, Le g2 g4 → Inv m i g4 →
  ifB (ltI i ((x0l : Nat) : Int))
  (∀ g5 : G, Ex g4 g5 →
  (0 ≤ i ∧ i < ((x0l : Nat) : Int)) ∧ derefP x0a fun ad => ∃ x : Int, g5.w.cell? (Addr.add ad (Int.toNat i * 1)) = some (.int .i64 x) ∧ InI64 (x + (2 : Int)) ∧ (0 ≤ (x + (2 : Int)) ∧ (x + (2 : Int)) < ((h0l : Nat) : Int)) ∧ derefP h0a fun ad_1 => ∃ n : Int, g5.w.cell? (Addr.add (Addr.add ad_1 (Int.toNat (x + (2 : Int)) * 2)) 1) = some (.int .i64 n) ∧ ∃ Inv_1 : Nat → Int → G → Prop, ((∃ m0 : Nat, Inv_1 m0 (0 : Int) g5)) ∧
  ∀ m_2 : Nat, ∀ k : Int, ∀ g6 : G, Le g5 g6 → Inv_1 m_2 k g6 →
  ifB (ltI k n)
  (∀ g7 : G, Ex g6 g7 →
  (0 ≤ i ∧ i < ((x0l : Nat) : Int)) ∧ derefP x0a fun ad_2 => ∃ x_1 : Int, g7.w.cell? (Addr.add ad_2 (Int.toNat i * 1)) = some (.int .i64 x_1) ∧ InI64 (x_1 + (3 : Int)) ∧ InI64 ((x_1 + (3 : Int)) + k) ∧ (0 ≤ ((x_1 + (3 : Int)) + k) ∧ ((x_1 + (3 : Int)) + k) < ((h0l : Nat) : Int)) ∧ derefP h0a fun ad_3 => ∃ x0 : Bool, ∃ x1_1 : Int, g7.w.cell? (Addr.add ad_3 (Int.toNat ((x_1 + (3 : Int)) + k) * 2)) = some (.bool x0) ∧ g7.w.cell? (Addr.add (Addr.add ad_3 (Int.toNat ((x_1 + (3 : Int)) + k) * 2)) 1) = some (.int .i64 x1_1) ∧ (CallsP Try.prog 63 #[(.slice x0a x0l x0c), (.agg ⟨[(.bool x0), (.int .i64 x1_1)]⟩)] g7 fun v g8 =>
  ∃ x_2 : Bool, v = (.bool x_2) ∧ ifB (!x_2)
  (∀ g9 : G, Ex g8 g9 →
  R (.bool false) g9)
  (InI64 (k + (1 : Int)) ∧ (∃ m_3 : Nat, m_3 < m_2 ∧ Inv_1 m_3 (k + (1 : Int)) g8))))
  (InI64 (i + (1 : Int)) ∧ (∃ m_1 : Nat, m_1 < m ∧ Inv m_1 (i + (1 : Int)) g6)))
  (∀ g10 : G, Ex g4 g10 →
  R (.bool true) g10)))) → J g1) →
  ifB (ltI h2 (0 : Int))
  (∀ g11 : G, Ex g g11 →
  R (.bool false) g11)
  (ifB (ltI (65536 : Int) h2)
  (∀ g12 : G, Ex g g12 →
  R (.bool false) g12)
  (ifB (!eqI h1 ((h0l : Nat) : Int))
  (∀ g13 : G, Ex g g13 →
  R (.bool false) g13)
  (ifB (ltI h2 h1)
  (∀ g14 : G, Ex g g14 →
  R (.bool false) g14)
  (∀ g15 : G, Ex g g15 →
  J g15))))
theorem F23_eq (h0a : Option Addr) (h0l : Nat) (h0c : Nat) (h1 : Int) (h2 : Int) (g : G) (R : Value → G → Prop) : fnG cfg23 74 [.tmp 2] c23 an23 [(.agg ⟨[(.slice h0a h0l h0c), (.int .i64 h1), (.int .i64 h2)]⟩)] g nobody R = F23 h0a h0l h0c h1 h2 g R := by kernel_rfl
theorem call23 (h0a : Option Addr) (h0l : Nat) (h0c : Nat) (h1 : Int) (h2 : Int) (g : G) (R : Value → G → Prop) (hF : F23 h0a h0l h0c h1 h2 g R) : CallsG Try.prog 23 #[(.agg ⟨[(.slice h0a h0l h0c), (.int .i64 h1), (.int .i64 h2)]⟩)] g nobody R :=
  fn_soundG (c := cfg23) TTok FNSok mixed Try.func23 (show Try.f23.body = some c23 by kernel_rfl) (show Try.f23.ntmps = 74 by kernel_rfl) (show Try.f23.results.toList = [.tmp 2] by kernel_rfl) rfl ((F23_eq h0a h0l h0c h1 h2 g R).mpr hF)

/- 24 pilaster/pilasterlaw49.light -/
noncomputable def c24 : Code := match Try.f24.body with
  | some c => c
  | none => .skip
noncomputable def cfg24 : Cfg := ⟨Try.prog, TT, FNS, [1], [(1, 1)], [], TCH, false, false⟩
def an24 : AnnG := (.seq .leaf (.seq .leaf (.seq .leaf .leaf)))
def F24 (v0 : Int) (v1 : Int) (v2 : ByteArray) (v3a : Option Addr) (v3l : Nat) (v3c : Nat) (v4a : Option Addr) (v4l : Nat) (v4c : Nat) (g : G) (R : Value → G → Prop) : Prop :=
  ∀ g1 : G, Ex g g1 →
  (CallsP Try.prog 50 #[(.agg ⟨[(.int .i64 v0), (.int .i64 v1), (.string v2), (.slice v3a v3l v3c), (.slice v4a v4l v4c)]⟩), (.int .i64 (4400 : Int)), (.int .i64 (1 : Int))] g1 fun v g2 =>
  ∃ n : Int, v = (.int .i64 n) ∧ ifB (ltI n (200 : Int))
  (∀ g3 : G, Ex g2 g3 →
  R (.bool true) g3)
  (ifB (ltI (20000 : Int) n)
  (∀ g4 : G, Ex g2 g4 →
  R (.bool (ltI n (4400 : Int))) g4)
  (∀ g5 : G, Ex g2 g5 →
  R (.bool false) g5)))
theorem F24_eq (v0 : Int) (v1 : Int) (v2 : ByteArray) (v3a : Option Addr) (v3l : Nat) (v3c : Nat) (v4a : Option Addr) (v4l : Nat) (v4c : Nat) (g : G) (R : Value → G → Prop) : fnG cfg24 16 [.tmp 2] c24 an24 [(.agg ⟨[(.int .i64 v0), (.int .i64 v1), (.string v2), (.slice v3a v3l v3c), (.slice v4a v4l v4c)]⟩)] g nobody R = F24 v0 v1 v2 v3a v3l v3c v4a v4l v4c g R := by kernel_rfl
theorem call24 (v0 : Int) (v1 : Int) (v2 : ByteArray) (v3a : Option Addr) (v3l : Nat) (v3c : Nat) (v4a : Option Addr) (v4l : Nat) (v4c : Nat) (g : G) (R : Value → G → Prop) (hF : F24 v0 v1 v2 v3a v3l v3c v4a v4l v4c g R) : CallsG Try.prog 24 #[(.agg ⟨[(.int .i64 v0), (.int .i64 v1), (.string v2), (.slice v3a v3l v3c), (.slice v4a v4l v4c)]⟩)] g nobody R :=
  fn_soundG (c := cfg24) TTok FNSok mixed Try.func24 (show Try.f24.body = some c24 by kernel_rfl) (show Try.f24.ntmps = 16 by kernel_rfl) (show Try.f24.results.toList = [.tmp 2] by kernel_rfl) rfl ((F24_eq v0 v1 v2 v3a v3l v3c v4a v4l v4c g R).mpr hF)

/- 25 pilaster/heap.Text -/
noncomputable def c25 : Code := match Try.f25.body with
  | some c => c
  | none => .skip
noncomputable def cfg25 : Cfg := ⟨Try.prog, TT, FNS, [2, 4, 5, 7, 8], [(2, 2), (4, 4), (5, 5), (7, 7), (8, 8)], [], TCH, false, false⟩
def an25 : AnnG := (.seq .leaf (.seq (.seq .leaf (.cond (.seq .leaf .leaf) .leaf)) (.seq (.seq .leaf (.cond (.seq .leaf .leaf) .leaf)) (.join ⟨[(9, .bool)], [(7, 7, 0), (8, 8, 0)], [(7, [(.sl), (.int .i64), (.int .i64)]), (8, [(.bool), (.int .i64)])]⟩ (.treeP false [] 14 (.quiet 0 (.quiet 1 (.quiet 2 (.quiet 3 (.eff 4 (.eff 5 (.quiet 6 (.quiet 7 (.quiet 8 (.quiet 9 (.eff 10 (.eff 11 (.eff 12 (.eff 13 .fin .fin) .fin) .fin) (.eff 11 (.eff 10 (.eff 12 (.eff 13 .fin .fin) .fin) .fin) .fin)))))) (.eff 10 (.eff 5 (.quiet 6 (.quiet 7 (.quiet 8 (.quiet 9 (.eff 11 (.eff 12 (.eff 13 .fin .fin) .fin) .fin))))) (.eff 11 (.eff 5 (.quiet 6 (.quiet 7 (.quiet 8 (.quiet 9 (.eff 12 (.eff 13 .fin .fin) .fin))))) .fin) .fin)) (.eff 11 (.eff 5 (.quiet 6 (.quiet 7 (.quiet 8 (.quiet 9 (.eff 10 (.eff 12 (.eff 13 .fin .fin) .fin) .fin))))) (.eff 10 (.eff 5 (.quiet 6 (.quiet 7 (.quiet 8 (.quiet 9 (.eff 12 (.eff 13 .fin .fin) .fin))))) .fin) .fin)) .fin))) (.eff 10 (.eff 4 (.eff 5 (.quiet 6 (.quiet 7 (.quiet 8 (.quiet 9 (.eff 11 (.eff 12 (.eff 13 .fin .fin) .fin) .fin))))) (.eff 11 (.eff 5 (.quiet 6 (.quiet 7 (.quiet 8 (.quiet 9 (.eff 12 (.eff 13 .fin .fin) .fin))))) .fin) .fin)) (.eff 11 (.eff 4 (.eff 5 (.quiet 6 (.quiet 7 (.quiet 8 (.quiet 9 (.eff 12 (.eff 13 .fin .fin) .fin))))) .fin) .fin) .fin)) (.eff 11 (.eff 4 (.eff 5 (.quiet 6 (.quiet 7 (.quiet 8 (.quiet 9 (.eff 10 (.eff 12 (.eff 13 .fin .fin) .fin) .fin))))) (.eff 10 (.eff 5 (.quiet 6 (.quiet 7 (.quiet 8 (.quiet 9 (.eff 12 (.eff 13 .fin .fin) .fin))))) .fin) .fin)) (.eff 10 (.eff 4 (.eff 5 (.quiet 6 (.quiet 7 (.quiet 8 (.quiet 9 (.eff 12 (.eff 13 .fin .fin) .fin))))) .fin) .fin) .fin)) .fin)))))))) (.seq (.seq .leaf (.cond (.seq .leaf .leaf) .leaf)) (.seq (.treeP false [4, 5] 3 (.quiet 0 (.quiet 1 (.eff 2 .fin .fin)))) .leaf))))))
def F25 (h0a : Option Addr) (h0l : Nat) (h0c : Nat) (h1 : Int) (h2 : Int) (s : ByteArray) (g : G) (R : Value → G → Prop) : Prop :=
  ∀ g1 : G, Ex g g1 →
  (CallsP Try.prog 21 #[(.agg ⟨[(.slice h0a h0l h0c), (.int .i64 h1), (.int .i64 h2)]⟩)] g1 fun v g2 =>
  ∃ x : Bool, v = (.bool x) ∧ ifB (!x)
  (∀ g3 : G, Ex g2 g3 →
  R (.tuple ⟨[(.agg ⟨[(.slice none 0 0), (.int .i64 (0 : Int)), (.int .i64 (0 : Int))]⟩), (.agg ⟨[(.bool false), (.int .i64 (0 : Int))]⟩), (.int .i64 (1 : Int))]⟩) g3)
  (ifB (ltI (16384 : Int) ((s.size : Nat) : Int))
  (∀ g4 : G, Ex g2 g4 →
  R (.tuple ⟨[(.agg ⟨[(.slice none 0 0), (.int .i64 (0 : Int)), (.int .i64 (0 : Int))]⟩), (.agg ⟨[(.bool false), (.int .i64 (0 : Int))]⟩), (.int .i64 (5 : Int))]⟩) g4)
  (∀ J : Bool → Option Addr → Nat → Nat → Int → Int → Bool → Int → G → Prop,
  (∀ ok : Bool, ∀ out0a : Option Addr, ∀ out0l : Nat, ∀ out0c : Nat, ∀ out1 : Int, ∀ out2 : Int, ∀ w0 : Bool, ∀ w1 : Int, ∀ g5 : G, (ifB (!ok)
  (∀ g6 : G, Ex g5 g6 →
  R (.tuple ⟨[(.agg ⟨[(.slice none 0 0), (.int .i64 (0 : Int)), (.int .i64 (0 : Int))]⟩), (.agg ⟨[(.bool false), (.int .i64 (0 : Int))]⟩), (.int .i64 (25 : Int))]⟩) g6)
  (∀ g7 : G, Ex g5 g7 →
  ∀ g8 : G, Ex g7 g8 →
  R (.tuple ⟨[(.agg ⟨[(.slice out0a out0l out0c), (.int .i64 out1), (.int .i64 out2)]⟩), (.agg ⟨[(.bool w0), (.int .i64 w1)]⟩), (.int .i64 (0 : Int))]⟩) g8)) → J ok out0a out0l out0c out1 out2 w0 w1 g5) →
  ∀ g9 : G, Ex g2 g9 →
  (∀ g10 : G, Ex g9 g10 →
  (CallsP Try.prog 65 #[(.string s)] g10 fun v g11 =>
  ∃ xa : Option Addr, ∃ xl : Nat, ∃ xc : Nat, v = (.slice xa xl xc) ∧ (∀ g12 : G, Ex g11 g12 →
  (CallsP Try.prog 64 #[(.agg ⟨[(.slice h0a h0l h0c), (.int .i64 h1), (.int .i64 h2)]⟩), (.int .i64 (4 : Int)), (.int .i64 ((s.size : Nat) : Int)), (.slice xa xl xc)] g12 fun v g13 =>
  ∃ x00a : Option Addr, ∃ x00l : Nat, ∃ x00c : Nat, ∃ x01 : Int, ∃ x02 : Int, ∃ x10 : Bool, ∃ x11 : Int, ∃ x2 : Bool, v = (.tuple ⟨[(.agg ⟨[(.slice x00a x00l x00c), (.int .i64 x01), (.int .i64 x02)]⟩), (.agg ⟨[(.bool x10), (.int .i64 x11)]⟩), (.bool x2)]⟩) ∧ Rep 1 (∀ g14 : G, Ex g13 g14 →
  J x2 x00a x00l x00c x01 x02 x10 x11 g14))) ∧ ((Rep 1 (∀ g16 : G, Ex g11 g16 →
  (CallsP Try.prog 64 #[(.agg ⟨[(.slice h0a h0l h0c), (.int .i64 h1), (.int .i64 h2)]⟩), (.int .i64 (4 : Int)), (.int .i64 ((s.size : Nat) : Int)), (.slice xa xl xc)] g16 fun v g17 =>
  ∃ x00a_1 : Option Addr, ∃ x00l_1 : Nat, ∃ x00c_1 : Nat, ∃ x01_1 : Int, ∃ x02_1 : Int, ∃ x10_1 : Bool, ∃ x11_1 : Int, ∃ x2_1 : Bool, v = (.tuple ⟨[(.agg ⟨[(.slice x00a_1 x00l_1 x00c_1), (.int .i64 x01_1), (.int .i64 x02_1)]⟩), (.agg ⟨[(.bool x10_1), (.int .i64 x11_1)]⟩), (.bool x2_1)]⟩) ∧ ∀ g18 : G, Ex g17 g18 →
  J x2_1 x00a_1 x00l_1 x00c_1 x01_1 x02_1 x10_1 x11_1 g18))) ∧ (Rep 1 (∀ g22 : G, Ex g11 g22 →
  (CallsP Try.prog 64 #[(.agg ⟨[(.slice h0a h0l h0c), (.int .i64 h1), (.int .i64 h2)]⟩), (.int .i64 (4 : Int)), (.int .i64 ((s.size : Nat) : Int)), (.slice xa xl xc)] g22 fun v g23 =>
  ∃ x00a_3 : Option Addr, ∃ x00l_3 : Nat, ∃ x00c_3 : Nat, ∃ x01_3 : Int, ∃ x02_3 : Int, ∃ x10_3 : Bool, ∃ x11_3 : Int, ∃ x2_3 : Bool, v = (.tuple ⟨[(.agg ⟨[(.slice x00a_3 x00l_3 x00c_3), (.int .i64 x01_3), (.int .i64 x02_3)]⟩), (.agg ⟨[(.bool x10_3), (.int .i64 x11_3)]⟩), (.bool x2_3)]⟩) ∧ ∀ g24 : G, Ex g23 g24 →
  J x2_3 x00a_3 x00l_3 x00c_3 x01_3 x02_3 x10_3 x11_3 g24)))))) ∧ (((∀ g28 : G, Ex g9 g28 →
  (CallsP Try.prog 65 #[(.string s)] g28 fun v g29 =>
  ∃ xa_1 : Option Addr, ∃ xl_1 : Nat, ∃ xc_1 : Nat, v = (.slice xa_1 xl_1 xc_1) ∧ Rep 1 (∀ g30 : G, Ex g29 g30 →
  (CallsP Try.prog 64 #[(.agg ⟨[(.slice h0a h0l h0c), (.int .i64 h1), (.int .i64 h2)]⟩), (.int .i64 (4 : Int)), (.int .i64 ((s.size : Nat) : Int)), (.slice xa_1 xl_1 xc_1)] g30 fun v g31 =>
  ∃ x00a_5 : Option Addr, ∃ x00l_5 : Nat, ∃ x00c_5 : Nat, ∃ x01_5 : Int, ∃ x02_5 : Int, ∃ x10_5 : Bool, ∃ x11_5 : Int, ∃ x2_5 : Bool, v = (.tuple ⟨[(.agg ⟨[(.slice x00a_5 x00l_5 x00c_5), (.int .i64 x01_5), (.int .i64 x02_5)]⟩), (.agg ⟨[(.bool x10_5), (.int .i64 x11_5)]⟩), (.bool x2_5)]⟩) ∧ ∀ g32 : G, Ex g31 g32 →
  J x2_5 x00a_5 x00l_5 x00c_5 x01_5 x02_5 x10_5 x11_5 g32)))) ∧ (∀ g36 : G, Ex g9 g36 →
  (CallsP Try.prog 65 #[(.string s)] g36 fun v g37 =>
  ∃ xa_2 : Option Addr, ∃ xl_2 : Nat, ∃ xc_2 : Nat, v = (.slice xa_2 xl_2 xc_2) ∧ ∀ g38 : G, Ex g37 g38 →
  (CallsP Try.prog 64 #[(.agg ⟨[(.slice h0a h0l h0c), (.int .i64 h1), (.int .i64 h2)]⟩), (.int .i64 (4 : Int)), (.int .i64 ((s.size : Nat) : Int)), (.slice xa_2 xl_2 xc_2)] g38 fun v g39 =>
  ∃ x00a_7 : Option Addr, ∃ x00l_7 : Nat, ∃ x00c_7 : Nat, ∃ x01_7 : Int, ∃ x02_7 : Int, ∃ x10_7 : Bool, ∃ x11_7 : Int, ∃ x2_7 : Bool, v = (.tuple ⟨[(.agg ⟨[(.slice x00a_7 x00l_7 x00c_7), (.int .i64 x01_7), (.int .i64 x02_7)]⟩), (.agg ⟨[(.bool x10_7), (.int .i64 x11_7)]⟩), (.bool x2_7)]⟩) ∧ ∀ g40 : G, Ex g39 g40 →
  J x2_7 x00a_7 x00l_7 x00c_7 x01_7 x02_7 x10_7 x11_7 g40)))) ∧ ((∀ g41 : G, Ex g9 g41 →
  (CallsP Try.prog 65 #[(.string s)] g41 fun v g42 =>
  ∃ xa_3 : Option Addr, ∃ xl_3 : Nat, ∃ xc_3 : Nat, v = (.slice xa_3 xl_3 xc_3) ∧ Rep 1 (∀ g43 : G, Ex g42 g43 →
  (CallsP Try.prog 64 #[(.agg ⟨[(.slice h0a h0l h0c), (.int .i64 h1), (.int .i64 h2)]⟩), (.int .i64 (4 : Int)), (.int .i64 ((s.size : Nat) : Int)), (.slice xa_3 xl_3 xc_3)] g43 fun v g44 =>
  ∃ x00a_8 : Option Addr, ∃ x00l_8 : Nat, ∃ x00c_8 : Nat, ∃ x01_8 : Int, ∃ x02_8 : Int, ∃ x10_8 : Bool, ∃ x11_8 : Int, ∃ x2_8 : Bool, v = (.tuple ⟨[(.agg ⟨[(.slice x00a_8 x00l_8 x00c_8), (.int .i64 x01_8), (.int .i64 x02_8)]⟩), (.agg ⟨[(.bool x10_8), (.int .i64 x11_8)]⟩), (.bool x2_8)]⟩) ∧ ∀ g45 : G, Ex g44 g45 →
  J x2_8 x00a_8 x00l_8 x00c_8 x01_8 x02_8 x10_8 x11_8 g45)))) ∧ (∀ g49 : G, Ex g9 g49 →
  (CallsP Try.prog 65 #[(.string s)] g49 fun v g50 =>
  ∃ xa_4 : Option Addr, ∃ xl_4 : Nat, ∃ xc_4 : Nat, v = (.slice xa_4 xl_4 xc_4) ∧ ∀ g51 : G, Ex g50 g51 →
  (CallsP Try.prog 64 #[(.agg ⟨[(.slice h0a h0l h0c), (.int .i64 h1), (.int .i64 h2)]⟩), (.int .i64 (4 : Int)), (.int .i64 ((s.size : Nat) : Int)), (.slice xa_4 xl_4 xc_4)] g51 fun v g52 =>
  ∃ x00a_10 : Option Addr, ∃ x00l_10 : Nat, ∃ x00c_10 : Nat, ∃ x01_10 : Int, ∃ x02_10 : Int, ∃ x10_10 : Bool, ∃ x11_10 : Int, ∃ x2_10 : Bool, v = (.tuple ⟨[(.agg ⟨[(.slice x00a_10 x00l_10 x00c_10), (.int .i64 x01_10), (.int .i64 x02_10)]⟩), (.agg ⟨[(.bool x10_10), (.int .i64 x11_10)]⟩), (.bool x2_10)]⟩) ∧ ∀ g53 : G, Ex g52 g53 →
  J x2_10 x00a_10 x00l_10 x00c_10 x01_10 x02_10 x10_10 x11_10 g53))))))))
theorem F25_eq (h0a : Option Addr) (h0l : Nat) (h0c : Nat) (h1 : Int) (h2 : Int) (s : ByteArray) (g : G) (R : Value → G → Prop) : fnG cfg25 36 [.cell 4 24, .cell 5 41, .tmp 6] c25 an25 [(.agg ⟨[(.slice h0a h0l h0c), (.int .i64 h1), (.int .i64 h2)]⟩), (.string s)] g nobody R = F25 h0a h0l h0c h1 h2 s g R := by kernel_rfl
theorem call25 (h0a : Option Addr) (h0l : Nat) (h0c : Nat) (h1 : Int) (h2 : Int) (s : ByteArray) (g : G) (R : Value → G → Prop) (hF : F25 h0a h0l h0c h1 h2 s g R) : CallsG Try.prog 25 #[(.agg ⟨[(.slice h0a h0l h0c), (.int .i64 h1), (.int .i64 h2)]⟩), (.string s)] g nobody R :=
  fn_soundG (c := cfg25) TTok FNSok mixed Try.func25 (show Try.f25.body = some c25 by kernel_rfl) (show Try.f25.ntmps = 36 by kernel_rfl) (show Try.f25.results.toList = [.cell 4 24, .cell 5 41, .tmp 6] by kernel_rfl) rfl ((F25_eq h0a h0l h0c h1 h2 s g R).mpr hF)

/- 26 pilaster/heap.Put -/
noncomputable def c26 : Code := match Try.f26.body with
  | some c => c
  | none => .skip
noncomputable def cfg26 : Cfg := ⟨Try.prog, TT, FNS, [2, 3, 4, 5, 9, 10], [(2, 2), (3, 3), (4, 4), (5, 5), (9, 9), (10, 10), (35, 2), (38, 2)], [], TCH, false, false⟩
def an26 : AnnG := (.seq .leaf (.seq .leaf (.seq (.join ⟨[(32, .bool)], [], []⟩ .leaf (.cond (.seq .leaf .leaf) .leaf)) (.seq .leaf (.seq .leaf (.seq (.seq .leaf (.cond (.seq .leaf .leaf) .leaf)) (.seq (.treeP false [4, 5] 3 (.quiet 0 (.quiet 1 (.eff 2 .fin .fin)))) .leaf)))))))
def F26 (h0a : Option Addr) (h0l : Nat) (h0c : Nat) (h1 : Int) (h2 : Int) (v0 : Int) (v1 : Int) (v2 : ByteArray) (v3a : Option Addr) (v3l : Nat) (v3c : Nat) (v4a : Option Addr) (v4l : Nat) (v4c : Nat) (g : G) (R : Value → G → Prop) : Prop :=
  ∀ g1 : G, Ex g g1 →
  (CallsP Try.prog 66 #[(.agg ⟨[(.int .i64 v0), (.int .i64 v1), (.string v2), (.slice v3a v3l v3c), (.slice v4a v4l v4c)]⟩)] g1 fun v g2 =>
  ∃ x0 : Int, ∃ x1 : Int, v = (.tuple ⟨[(.int .i64 x0), (.int .i64 x1)]⟩) ∧ ∀ J : Bool → G → Prop,
  (∀ v_1 : Bool, ∀ g3 : G, (ifB v_1
  (∀ g4 : G, Ex g3 g4 →
  R (.tuple ⟨[(.agg ⟨[(.slice none 0 0), (.int .i64 (0 : Int)), (.int .i64 (0 : Int))]⟩), (.agg ⟨[(.bool false), (.int .i64 (0 : Int))]⟩), (.int .i64 (1 : Int))]⟩) g4)
  ((CallsP Try.prog 68 #[(.slice h0a h0l h0c)] g3 fun v g5 =>
  ∃ xa : Option Addr, ∃ xl : Nat, ∃ xc : Nat, v = (.slice xa xl xc) ∧ ∀ g6 : G, Ex g5 g6 →
  (CallsP Try.prog 69 #[(.agg ⟨[(.slice xa xl xc), (.int .i64 h1), (.int .i64 h2)]⟩), (.agg ⟨[(.int .i64 v0), (.int .i64 v1), (.string v2), (.slice v3a v3l v3c), (.slice v4a v4l v4c)]⟩)] g6 fun v g7 =>
  ∃ x00a : Option Addr, ∃ x00l : Nat, ∃ x00c : Nat, ∃ x01 : Int, ∃ x02 : Int, ∃ x10 : Bool, ∃ x11 : Int, ∃ x2 : Bool, v = (.tuple ⟨[(.agg ⟨[(.slice x00a x00l x00c), (.int .i64 x01), (.int .i64 x02)]⟩), (.agg ⟨[(.bool x10), (.int .i64 x11)]⟩), (.bool x2)]⟩) ∧ ifB (!x2)
  (∀ g8 : G, Ex g7 g8 →
  ∀ g9 : G, Ex g8 g9 →
  R (.tuple ⟨[(.agg ⟨[(.slice none 0 0), (.int .i64 (0 : Int)), (.int .i64 (0 : Int))]⟩), (.agg ⟨[(.bool false), (.int .i64 (0 : Int))]⟩), (.int .i64 (25 : Int))]⟩) g9)
  (∀ g10 : G, Ex g7 g10 →
  ∀ g11 : G, Ex g10 g11 →
  R (.tuple ⟨[(.agg ⟨[(.slice x00a x00l x00c), (.int .i64 x01), (.int .i64 x02)]⟩), (.agg ⟨[(.bool x10), (.int .i64 x11)]⟩), (.int .i64 (0 : Int))]⟩) g11))))) → J v_1 g3) →
  (CallsP Try.prog 21 #[(.agg ⟨[(.slice h0a h0l h0c), (.int .i64 h1), (.int .i64 h2)]⟩)] g2 fun v g12 =>
  ∃ x : Bool, v = (.bool x) ∧ ifB (!x)
  (J true g12)
  (ifB (ltI (20000 : Int) x0)
  (J true g12)
  (ifB (ltI (400 : Int) x1)
  (J true g12)
  ((CallsP Try.prog 67 #[(.agg ⟨[(.int .i64 v0), (.int .i64 v1), (.string v2), (.slice v3a v3l v3c), (.slice v4a v4l v4c)]⟩)] g12 fun v g13 =>
  ∃ x_1 : Bool, v = (.bool x_1) ∧ J (!x_1) g13))))))
theorem F26_eq (h0a : Option Addr) (h0l : Nat) (h0c : Nat) (h1 : Int) (h2 : Int) (v0 : Int) (v1 : Int) (v2 : ByteArray) (v3a : Option Addr) (v3l : Nat) (v3c : Nat) (v4a : Option Addr) (v4l : Nat) (v4c : Nat) (g : G) (R : Value → G → Prop) : fnG cfg26 52 [.cell 4 24, .cell 5 41, .tmp 6] c26 an26 [(.agg ⟨[(.slice h0a h0l h0c), (.int .i64 h1), (.int .i64 h2)]⟩), (.agg ⟨[(.int .i64 v0), (.int .i64 v1), (.string v2), (.slice v3a v3l v3c), (.slice v4a v4l v4c)]⟩)] g nobody R = F26 h0a h0l h0c h1 h2 v0 v1 v2 v3a v3l v3c v4a v4l v4c g R := by kernel_rfl
theorem call26 (h0a : Option Addr) (h0l : Nat) (h0c : Nat) (h1 : Int) (h2 : Int) (v0 : Int) (v1 : Int) (v2 : ByteArray) (v3a : Option Addr) (v3l : Nat) (v3c : Nat) (v4a : Option Addr) (v4l : Nat) (v4c : Nat) (g : G) (R : Value → G → Prop) (hF : F26 h0a h0l h0c h1 h2 v0 v1 v2 v3a v3l v3c v4a v4l v4c g R) : CallsG Try.prog 26 #[(.agg ⟨[(.slice h0a h0l h0c), (.int .i64 h1), (.int .i64 h2)]⟩), (.agg ⟨[(.int .i64 v0), (.int .i64 v1), (.string v2), (.slice v3a v3l v3c), (.slice v4a v4l v4c)]⟩)] g nobody R :=
  fn_soundG (c := cfg26) TTok FNSok mixed Try.func26 (show Try.f26.body = some c26 by kernel_rfl) (show Try.f26.ntmps = 52 by kernel_rfl) (show Try.f26.results.toList = [.cell 4 24, .cell 5 41, .tmp 6] by kernel_rfl) rfl ((F26_eq h0a h0l h0c h1 h2 v0 v1 v2 v3a v3l v3c v4a v4l v4c g R).mpr hF)

/- 27 pilaster/pilasterref49.Text -/
noncomputable def c27 : Code := match Try.f27.body with
  | some c => c
  | none => .skip
noncomputable def cfg27 : Cfg := ⟨Try.prog, TT, FNS, [2, 4, 5], [(2, 2), (4, 4), (5, 5)], [], TCH, false, false⟩
def an27 : AnnG := (.seq .leaf (.seq (.tree 9 (.quiet 0 (.quiet 1 (.quiet 2 (.quiet 3 (.eff 4 (.eff 5 (.quiet 6 (.quiet 7 (.quiet 8 .fin))) .fin) .fin)))))) .leaf))
def F27 (h0a : Option Addr) (h0l : Nat) (h0c : Nat) (h1 : Int) (h2 : Int) (s : ByteArray) (g : G) (R : Value → G → Prop) : Prop :=
  ∀ g1 : G, Ex g g1 →
  (CallsP Try.prog 71 #[(.string s)] g1 fun v g2 =>
  ∃ xa : Option Addr, ∃ xl : Nat, ∃ xc : Nat, v = (.slice xa xl xc) ∧ (CallsP Try.prog 70 #[(.agg ⟨[(.slice h0a h0l h0c), (.int .i64 h1), (.int .i64 h2)]⟩), (.int .i64 (4 : Int)), (.int .i64 ((s.size : Nat) : Int)), (.slice xa xl xc)] g2 fun v g3 =>
  ∃ x00a : Option Addr, ∃ x00l : Nat, ∃ x00c : Nat, ∃ x01 : Int, ∃ x02 : Int, ∃ x10 : Bool, ∃ x11 : Int, ∃ x2 : Bool, v = (.tuple ⟨[(.agg ⟨[(.slice x00a x00l x00c), (.int .i64 x01), (.int .i64 x02)]⟩), (.agg ⟨[(.bool x10), (.int .i64 x11)]⟩), (.bool x2)]⟩) ∧ ∀ g4 : G, Ex g3 g4 →
  R (.tuple ⟨[(.agg ⟨[(.slice x00a x00l x00c), (.int .i64 x01), (.int .i64 x02)]⟩), (.agg ⟨[(.bool x10), (.int .i64 x11)]⟩), (.bool x2)]⟩) g4))
theorem F27_eq (h0a : Option Addr) (h0l : Nat) (h0c : Nat) (h1 : Int) (h2 : Int) (s : ByteArray) (g : G) (R : Value → G → Prop) : fnG cfg27 16 [.cell 4 24, .cell 5 41, .tmp 6] c27 an27 [(.agg ⟨[(.slice h0a h0l h0c), (.int .i64 h1), (.int .i64 h2)]⟩), (.string s)] g nobody R = F27 h0a h0l h0c h1 h2 s g R := by kernel_rfl
theorem call27 (h0a : Option Addr) (h0l : Nat) (h0c : Nat) (h1 : Int) (h2 : Int) (s : ByteArray) (g : G) (R : Value → G → Prop) (hF : F27 h0a h0l h0c h1 h2 s g R) : CallsG Try.prog 27 #[(.agg ⟨[(.slice h0a h0l h0c), (.int .i64 h1), (.int .i64 h2)]⟩), (.string s)] g nobody R :=
  fn_soundG (c := cfg27) TTok FNSok mixed Try.func27 (show Try.f27.body = some c27 by kernel_rfl) (show Try.f27.ntmps = 16 by kernel_rfl) (show Try.f27.results.toList = [.cell 4 24, .cell 5 41, .tmp 6] by kernel_rfl) rfl ((F27_eq h0a h0l h0c h1 h2 s g R).mpr hF)

/- 28 pilaster/pilasterref49.Data -/
noncomputable def c28 : Code := match Try.f28.body with
  | some c => c
  | none => .skip
noncomputable def cfg28 : Cfg := ⟨Try.prog, TT, FNS, [1], [(1, 1)], [], TCH, false, false⟩
def an28 : AnnG := (.seq .leaf (.seq .leaf .leaf))
def F28 (v0 : Int) (v1 : Int) (v2 : ByteArray) (v3a : Option Addr) (v3l : Nat) (v3c : Nat) (v4a : Option Addr) (v4l : Nat) (v4c : Nat) (g : G) (R : Value → G → Prop) : Prop :=
  ∀ g1 : G, Ex g g1 →
  (CallsP Try.prog 72 #[(.agg ⟨[(.int .i64 v0), (.int .i64 v1), (.string v2), (.slice v3a v3l v3c), (.slice v4a v4l v4c)]⟩), (.int .i64 (20001 : Int)), (.int .i64 (1 : Int))] g1 fun v g2 =>
  ∃ x : Int, v = (.int .i64 x) ∧ ifB (leI x (20000 : Int))
  ((CallsP Try.prog 73 #[(.agg ⟨[(.int .i64 v0), (.int .i64 v1), (.string v2), (.slice v3a v3l v3c), (.slice v4a v4l v4c)]⟩)] g2 fun v g3 =>
  ∃ x_1 : Bool, v = (.bool x_1) ∧ ∀ g4 : G, Ex g3 g4 →
  R (.bool x_1) g4))
  (∀ g5 : G, Ex g2 g5 →
  R (.bool false) g5))
theorem F28_eq (v0 : Int) (v1 : Int) (v2 : ByteArray) (v3a : Option Addr) (v3l : Nat) (v3c : Nat) (v4a : Option Addr) (v4l : Nat) (v4c : Nat) (g : G) (R : Value → G → Prop) : fnG cfg28 10 [.tmp 2] c28 an28 [(.agg ⟨[(.int .i64 v0), (.int .i64 v1), (.string v2), (.slice v3a v3l v3c), (.slice v4a v4l v4c)]⟩)] g nobody R = F28 v0 v1 v2 v3a v3l v3c v4a v4l v4c g R := by kernel_rfl
theorem call28 (v0 : Int) (v1 : Int) (v2 : ByteArray) (v3a : Option Addr) (v3l : Nat) (v3c : Nat) (v4a : Option Addr) (v4l : Nat) (v4c : Nat) (g : G) (R : Value → G → Prop) (hF : F28 v0 v1 v2 v3a v3l v3c v4a v4l v4c g R) : CallsG Try.prog 28 #[(.agg ⟨[(.int .i64 v0), (.int .i64 v1), (.string v2), (.slice v3a v3l v3c), (.slice v4a v4l v4c)]⟩)] g nobody R :=
  fn_soundG (c := cfg28) TTok FNSok mixed Try.func28 (show Try.f28.body = some c28 by kernel_rfl) (show Try.f28.ntmps = 10 by kernel_rfl) (show Try.f28.results.toList = [.tmp 2] by kernel_rfl) rfl ((F28_eq v0 v1 v2 v3a v3l v3c v4a v4l v4c g R).mpr hF)

/- 29 pilaster/pilasterref49.Put -/
noncomputable def c29 : Code := match Try.f29.body with
  | some c => c
  | none => .skip
noncomputable def cfg29 : Cfg := ⟨Try.prog, TT, FNS, [2, 3, 4, 5, 9, 10], [(2, 2), (3, 3), (4, 4), (5, 5), (9, 9), (10, 10), (12, 3), (16, 3), (19, 3), (23, 3), (30, 3), (38, 3), (56, 3), (60, 3)], [], TCH, false, false⟩
def an29 : AnnG := (.seq .leaf (.seq (.seq .leaf (.cond (.seq (.treeP false [4, 5] 4 (.quiet 0 (.quiet 1 (.quiet 2 (.eff 3 .fin .fin))))) .leaf) .leaf)) (.seq (.seq .leaf (.cond (.seq .leaf .leaf) .leaf)) (.seq .leaf (.seq (.seq .leaf (.blk (.loop ⟨[(7, .sl), (8, .int .i64)], [(2, 2, 0), (4, 4, 0), (5, 5, 0)], [(2, [(.sl), (.int .i64), (.int .i64)]), (4, [(.sl), (.int .i64), (.int .i64)]), (5, [(.bool), (.int .i64)])]⟩ (.seq (.seq .leaf (.cond .leaf .leaf)) (.seq (.blk (.join ⟨[(11, .bool)], [(9, 9, 0), (10, 10, 0)], [(9, [(.sl), (.int .i64), (.int .i64)]), (10, [(.bool), (.int .i64)])]⟩ (.treeP false [] 15 (.quiet 0 (.quiet 1 (.quiet 2 (.quiet 3 (.quiet 4 (.quiet 5 (.eff 6 (.quiet 7 (.quiet 8 (.quiet 9 (.quiet 10 (.eff 11 (.eff 12 (.eff 13 (.eff 14 .fin .fin) .fin) .fin) (.eff 12 (.eff 11 (.eff 13 (.eff 14 .fin .fin) .fin) .fin) .fin)))))) (.eff 11 (.eff 6 (.quiet 7 (.quiet 8 (.quiet 9 (.quiet 10 (.eff 12 (.eff 13 (.eff 14 .fin .fin) .fin) .fin))))) (.eff 12 (.eff 6 (.quiet 7 (.quiet 8 (.quiet 9 (.quiet 10 (.eff 13 (.eff 14 .fin .fin) .fin))))) .fin) .fin)) (.eff 12 (.eff 6 (.quiet 7 (.quiet 8 (.quiet 9 (.quiet 10 (.eff 11 (.eff 13 (.eff 14 .fin .fin) .fin) .fin))))) (.eff 11 (.eff 6 (.quiet 7 (.quiet 8 (.quiet 9 (.quiet 10 (.eff 13 (.eff 14 .fin .fin) .fin))))) .fin) .fin)) .fin)))))))))) (.seq (.seq .leaf (.cond (.seq (.treeP false [4, 5] 3 (.quiet 0 (.quiet 1 (.eff 2 .fin .fin)))) .leaf) .leaf)) (.seq .leaf .leaf)))) .leaf))))) (.seq (.seq .leaf (.cond (.seq .leaf .leaf) .leaf)) (.seq .leaf .leaf)))))))
def F29 (h0a : Option Addr) (h0l : Nat) (h0c : Nat) (h1 : Int) (h2 : Int) (v0 : Int) (v1 : Int) (v2 : ByteArray) (v3a : Option Addr) (v3l : Nat) (v3c : Nat) (v4a : Option Addr) (v4l : Nat) (v4c : Nat) (g : G) (R : Value → G → Prop) : Prop :=
  ifB (eqI v0 (1 : Int))
  (∀ g1 : G, Ex g g1 →
  ∀ g2 : G, Ex g1 g2 →
  (CallsP Try.prog 74 #[(.int .i64 v1)] g2 fun v g3 =>
  ∃ x0 : Bool, ∃ x1 : Int, v = (.agg ⟨[(.bool x0), (.int .i64 x1)]⟩) ∧ ∀ g4 : G, Ex g3 g4 →
  R (.tuple ⟨[(.agg ⟨[(.slice h0a h0l h0c), (.int .i64 h1), (.int .i64 h2)]⟩), (.agg ⟨[(.bool x0), (.int .i64 x1)]⟩), (.bool true)]⟩) g4))
  (ifB (eqI v0 (2 : Int))
  (∀ g5 : G, Ex g g5 →
  (CallsP Try.prog 27 #[(.agg ⟨[(.slice h0a h0l h0c), (.int .i64 h1), (.int .i64 h2)]⟩), (.string v2)] g5 fun v g6 =>
  ∃ x00a : Option Addr, ∃ x00l : Nat, ∃ x00c : Nat, ∃ x01 : Int, ∃ x02 : Int, ∃ x10 : Bool, ∃ x11 : Int, ∃ x2 : Bool, v = (.tuple ⟨[(.agg ⟨[(.slice x00a x00l x00c), (.int .i64 x01), (.int .i64 x02)]⟩), (.agg ⟨[(.bool x10), (.int .i64 x11)]⟩), (.bool x2)]⟩) ∧ ∀ g7 : G, Ex g6 g7 →
  R (.tuple ⟨[(.agg ⟨[(.slice x00a x00l x00c), (.int .i64 x01), (.int .i64 x02)]⟩), (.agg ⟨[(.bool x10), (.int .i64 x11)]⟩), (.bool x2)]⟩) g7))
  (∃ Inv : Nat → Option Addr → Nat → Nat → Int → Option Addr → Nat → Nat → Int → Int → Option Addr → Nat → Nat → Int → Int → Bool → Int → G → Prop, (∀ g8 : G, Ex g g8 →
  (∃ m0 : Nat, Inv m0 none 0 0 (0 : Int) h0a h0l h0c h1 h2 none 0 0 (0 : Int) (0 : Int) false (0 : Int) g8)) ∧
  ∀ m : Nat, ∀ la : Option Addr, ∀ ll : Nat, ∀ lc : Nat, ∀ i : Int, ∀ h0a_1 : Option Addr, ∀ h0l_1 : Nat, ∀ h0c_1 : Nat, ∀ h1_1 : Int, ∀ h2_1 : Int, ∀ x0a : Option Addr, ∀ x0l : Nat, ∀ x0c : Nat, ∀ x1_1 : Int, ∀ x2_1 : Int, ∀ x0_1 : Bool, ∀ x1_2 : Int, ∀ g9 : G, Le g g9 → Inv m la ll lc i h0a_1 h0l_1 h0c_1 h1_1 h2_1 x0a x0l x0c x1_1 x2_1 x0_1 x1_2 g9 →
  ifB (ltI i ((v4l : Nat) : Int))
  (∀ J : Bool → Option Addr → Nat → Nat → Int → Int → Bool → Int → G → Prop,
  (∀ ok : Bool, ∀ next0a : Option Addr, ∀ next0l : Nat, ∀ next0c : Nat, ∀ next1 : Int, ∀ next2 : Int, ∀ w0 : Bool, ∀ w1 : Int, ∀ g10 : G, (ifB (!ok)
  (∀ g11 : G, Ex g10 g11 →
  ∀ g12 : G, Ex g11 g12 →
  R (.tuple ⟨[(.agg ⟨[(.slice next0a next0l next0c), (.int .i64 next1), (.int .i64 next2)]⟩), (.agg ⟨[(.bool w0), (.int .i64 w1)]⟩), (.bool false)]⟩) g12)
  (∀ g13 : G, Ex g10 g13 →
  ∀ g14 : G, NewL g13 g14 41 [(.bool w0), (.int .i64 w1)] →
  ∃ la_1 : Option Addr, ∃ ll_1 : Nat, ∃ lc_1 : Nat, ∃ wo1 : World, Sem.run Try.prog (Builtin.append_ #[22, 22] 22 #[(.slice la ll lc), (.slice (some ⟨g13.w.heap.size, 0, none⟩) 1 1)]) g14.w = .ok (.slice la_1 ll_1 lc_1) wo1 ∧ ∃ g15 : G, g15.w = wo1 ∧ Stp g.w.heap.size nobody g14 g15 ∧ InI64 (i + (1 : Int)) ∧ (∃ m_1 : Nat, m_1 < m ∧ Inv m_1 la_1 ll_1 lc_1 (i + (1 : Int)) next0a next0l next0c next1 next2 x0a x0l x0c x1_1 x2_1 x0_1 x1_2 g15))) → J ok next0a next0l next0c next1 next2 w0 w1 g10) →
  ∀ g16 : G, Ex g9 g16 →
  (0 ≤ i ∧ i < ((v4l : Nat) : Int)) ∧ derefP v4a fun ad => ¬ g16.X (Addr.block (Addr.add ad (Int.toNat i * 5))) ∧ ∃ x0_2 : Int, ∃ x1_3 : Int, ∃ x2_2 : ByteArray, ∃ x3a : Option Addr, ∃ x3l : Nat, ∃ x3c : Nat, ∃ x4a : Option Addr, ∃ x4l : Nat, ∃ x4c : Nat, g16.w.cell? (Addr.add ad (Int.toNat i * 5)) = some (.int .i64 x0_2) ∧ g16.w.cell? (Addr.add (Addr.add ad (Int.toNat i * 5)) 1) = some (.int .i64 x1_3) ∧ g16.w.cell? (Addr.add (Addr.add ad (Int.toNat i * 5)) 2) = some (.string x2_2) ∧ g16.w.cell? (Addr.add (Addr.add ad (Int.toNat i * 5)) 3) = some (.slice x3a x3l x3c) ∧ g16.w.cell? (Addr.add (Addr.add ad (Int.toNat i * 5)) 4) = some (.slice x4a x4l x4c) ∧ (∀ g17 : G, Ex g16 g17 →
  (CallsP Try.prog 29 #[(.agg ⟨[(.slice h0a_1 h0l_1 h0c_1), (.int .i64 h1_1), (.int .i64 h2_1)]⟩), (.agg ⟨[(.int .i64 x0_2), (.int .i64 x1_3), (.string x2_2), (.slice x3a x3l x3c), (.slice x4a x4l x4c)]⟩)] g17 fun v g18 =>
  ∃ x00a_1 : Option Addr, ∃ x00l_1 : Nat, ∃ x00c_1 : Nat, ∃ x01_1 : Int, ∃ x02_1 : Int, ∃ x10_1 : Bool, ∃ x11_1 : Int, ∃ x2_3 : Bool, v = (.tuple ⟨[(.agg ⟨[(.slice x00a_1 x00l_1 x00c_1), (.int .i64 x01_1), (.int .i64 x02_1)]⟩), (.agg ⟨[(.bool x10_1), (.int .i64 x11_1)]⟩), (.bool x2_3)]⟩) ∧ Rep 1 (∀ g19 : G, Ex g18 g19 →
  J x2_3 x00a_1 x00l_1 x00c_1 x01_1 x02_1 x10_1 x11_1 g19))) ∧ ((Rep 1 (∀ g21 : G, Ex g16 g21 →
  (CallsP Try.prog 29 #[(.agg ⟨[(.slice h0a_1 h0l_1 h0c_1), (.int .i64 h1_1), (.int .i64 h2_1)]⟩), (.agg ⟨[(.int .i64 x0_2), (.int .i64 x1_3), (.string x2_2), (.slice x3a x3l x3c), (.slice x4a x4l x4c)]⟩)] g21 fun v g22 =>
  ∃ x00a_2 : Option Addr, ∃ x00l_2 : Nat, ∃ x00c_2 : Nat, ∃ x01_2 : Int, ∃ x02_2 : Int, ∃ x10_2 : Bool, ∃ x11_2 : Int, ∃ x2_4 : Bool, v = (.tuple ⟨[(.agg ⟨[(.slice x00a_2 x00l_2 x00c_2), (.int .i64 x01_2), (.int .i64 x02_2)]⟩), (.agg ⟨[(.bool x10_2), (.int .i64 x11_2)]⟩), (.bool x2_4)]⟩) ∧ ∀ g23 : G, Ex g22 g23 →
  J x2_4 x00a_2 x00l_2 x00c_2 x01_2 x02_2 x10_2 x11_2 g23))) ∧ (Rep 1 (∀ g27 : G, Ex g16 g27 →
  (CallsP Try.prog 29 #[(.agg ⟨[(.slice h0a_1 h0l_1 h0c_1), (.int .i64 h1_1), (.int .i64 h2_1)]⟩), (.agg ⟨[(.int .i64 x0_2), (.int .i64 x1_3), (.string x2_2), (.slice x3a x3l x3c), (.slice x4a x4l x4c)]⟩)] g27 fun v g28 =>
  ∃ x00a_4 : Option Addr, ∃ x00l_4 : Nat, ∃ x00c_4 : Nat, ∃ x01_4 : Int, ∃ x02_4 : Int, ∃ x10_4 : Bool, ∃ x11_4 : Int, ∃ x2_6 : Bool, v = (.tuple ⟨[(.agg ⟨[(.slice x00a_4 x00l_4 x00c_4), (.int .i64 x01_4), (.int .i64 x02_4)]⟩), (.agg ⟨[(.bool x10_4), (.int .i64 x11_4)]⟩), (.bool x2_6)]⟩) ∧ ∀ g29 : G, Ex g28 g29 →
  J x2_6 x00a_4 x00l_4 x00c_4 x01_4 x02_4 x10_4 x11_4 g29)))))
  (ifB (eqI v0 (4 : Int))
  ((CallsP Try.prog 70 #[(.agg ⟨[(.slice h0a_1 h0l_1 h0c_1), (.int .i64 h1_1), (.int .i64 h2_1)]⟩), (.int .i64 (2 : Int)), (.int .i64 v1), (.slice la ll lc)] g9 fun v g33 =>
  ∃ x00a_6 : Option Addr, ∃ x00l_6 : Nat, ∃ x00c_6 : Nat, ∃ x01_6 : Int, ∃ x02_6 : Int, ∃ x10_6 : Bool, ∃ x11_6 : Int, ∃ x2_8 : Bool, v = (.tuple ⟨[(.agg ⟨[(.slice x00a_6 x00l_6 x00c_6), (.int .i64 x01_6), (.int .i64 x02_6)]⟩), (.agg ⟨[(.bool x10_6), (.int .i64 x11_6)]⟩), (.bool x2_8)]⟩) ∧ ∀ g34 : G, Ex g33 g34 →
  R (.tuple ⟨[(.agg ⟨[(.slice x00a_6 x00l_6 x00c_6), (.int .i64 x01_6), (.int .i64 x02_6)]⟩), (.agg ⟨[(.bool x10_6), (.int .i64 x11_6)]⟩), (.bool x2_8)]⟩) g34))
  ((CallsP Try.prog 70 #[(.agg ⟨[(.slice h0a_1 h0l_1 h0c_1), (.int .i64 h1_1), (.int .i64 h2_1)]⟩), (.int .i64 (1 : Int)), (.int .i64 (0 : Int)), (.slice la ll lc)] g9 fun v g35 =>
  ∃ x00a_7 : Option Addr, ∃ x00l_7 : Nat, ∃ x00c_7 : Nat, ∃ x01_7 : Int, ∃ x02_7 : Int, ∃ x10_7 : Bool, ∃ x11_7 : Int, ∃ x2_9 : Bool, v = (.tuple ⟨[(.agg ⟨[(.slice x00a_7 x00l_7 x00c_7), (.int .i64 x01_7), (.int .i64 x02_7)]⟩), (.agg ⟨[(.bool x10_7), (.int .i64 x11_7)]⟩), (.bool x2_9)]⟩) ∧ ∀ g36 : G, Ex g35 g36 →
  R (.tuple ⟨[(.agg ⟨[(.slice x00a_7 x00l_7 x00c_7), (.int .i64 x01_7), (.int .i64 x02_7)]⟩), (.agg ⟨[(.bool x10_7), (.int .i64 x11_7)]⟩), (.bool x2_9)]⟩) g36)))))
theorem F29_eq (h0a : Option Addr) (h0l : Nat) (h0c : Nat) (h1 : Int) (h2 : Int) (v0 : Int) (v1 : Int) (v2 : ByteArray) (v3a : Option Addr) (v3l : Nat) (v3c : Nat) (v4a : Option Addr) (v4l : Nat) (v4c : Nat) (g : G) (R : Value → G → Prop) : fnG cfg29 73 [.cell 4 24, .cell 5 41, .tmp 6] c29 an29 [(.agg ⟨[(.slice h0a h0l h0c), (.int .i64 h1), (.int .i64 h2)]⟩), (.agg ⟨[(.int .i64 v0), (.int .i64 v1), (.string v2), (.slice v3a v3l v3c), (.slice v4a v4l v4c)]⟩)] g nobody R = F29 h0a h0l h0c h1 h2 v0 v1 v2 v3a v3l v3c v4a v4l v4c g R := by kernel_rfl
theorem call29 (h0a : Option Addr) (h0l : Nat) (h0c : Nat) (h1 : Int) (h2 : Int) (v0 : Int) (v1 : Int) (v2 : ByteArray) (v3a : Option Addr) (v3l : Nat) (v3c : Nat) (v4a : Option Addr) (v4l : Nat) (v4c : Nat) (g : G) (R : Value → G → Prop) (hF : F29 h0a h0l h0c h1 h2 v0 v1 v2 v3a v3l v3c v4a v4l v4c g R) : CallsG Try.prog 29 #[(.agg ⟨[(.slice h0a h0l h0c), (.int .i64 h1), (.int .i64 h2)]⟩), (.agg ⟨[(.int .i64 v0), (.int .i64 v1), (.string v2), (.slice v3a v3l v3c), (.slice v4a v4l v4c)]⟩)] g nobody R :=
  fn_soundG (c := cfg29) TTok FNSok mixed Try.func29 (show Try.f29.body = some c29 by kernel_rfl) (show Try.f29.ntmps = 73 by kernel_rfl) (show Try.f29.results.toList = [.cell 4 24, .cell 5 41, .tmp 6] by kernel_rfl) rfl ((F29_eq h0a h0l h0c h1 h2 v0 v1 v2 v3a v3l v3c v4a v4l v4c g R).mpr hF)

/- 30 pilaster/heap.Alloc -/
noncomputable def c30 : Code := match Try.f30.body with
  | some c => c
  | none => .skip
noncomputable def cfg30 : Cfg := ⟨Try.prog, TT, FNS, [4, 8, 9, 13, 14], [(4, 4), (8, 8), (9, 9), (13, 13), (14, 14)], [11], TCH, false, false⟩
def an30 : AnnG := (.seq .leaf (.seq .leaf (.seq (.seq .leaf (.cond (.seq .leaf .leaf) .leaf)) (.join ⟨[], [(8, 8, 0), (9, 9, 0)], [(8, [(.sl), (.int .i64), (.int .i64)]), (9, [(.bool), (.int .i64)])]⟩ (.seq .leaf (.cond (.seq .leaf .leaf) .leaf)) (.seq .leaf (.seq (.seq .leaf (.cond (.seq .leaf .leaf) .leaf)) (.seq (.treeP false [8, 9] 3 (.quiet 0 (.quiet 1 (.eff 2 .fin .fin)))) .leaf)))))))
def F30 (h0a : Option Addr) (h0l : Nat) (h0c : Nat) (h1 : Int) (h2 : Int) (kind : Int) (n : Int) (la : Option Addr) (ll : Nat) (lc : Nat) (g : G) (R : Value → G → Prop) : Prop :=
  ∀ g1 : G, Ex g g1 →
  (CallsP Try.prog 60 #[(.agg ⟨[(.slice h0a h0l h0c), (.int .i64 h1), (.int .i64 h2)]⟩)] g1 fun v g2 =>
  ∃ x0a : Option Addr, ∃ x0l : Nat, ∃ x0c : Nat, ∃ x1 : Bool, v = (.tuple ⟨[(.slice x0a x0l x0c), (.bool x1)]⟩) ∧ ∀ g3 : G, NewD g2 g3 55 [(.slice none 0 0)] →
  stOk g3.w ⟨g2.w.heap.size, 0, none⟩ 1 ∧ ¬ g3.X (Addr.block ⟨g2.w.heap.size, 0, none⟩) ∧ mutAt g3 ⟨g2.w.heap.size, 0, none⟩ 1 ∧ ((Addr.block ⟨g2.w.heap.size, 0, none⟩) < g.w.heap.size → nobody (Addr.block ⟨g2.w.heap.size, 0, none⟩)) ∧ ∀ g4 : G, StG true g3 ⟨g2.w.heap.size, 0, none⟩ [(.slice x0a x0l x0c)] g4 →
  ifB (!x1)
  (∀ g5 : G, Ex g4 g5 →
  R (.tuple ⟨[(.agg ⟨[(.slice none 0 0), (.int .i64 (0 : Int)), (.int .i64 (0 : Int))]⟩), (.agg ⟨[(.bool false), (.int .i64 (0 : Int))]⟩), (.int .i64 (1 : Int))]⟩) g5)
  (∀ J : Option Addr → Nat → Nat → Int → Int → Bool → Int → G → Prop,
  (∀ x0a_1 : Option Addr, ∀ x0l_1 : Nat, ∀ x0c_1 : Nat, ∀ x1_1 : Int, ∀ x2 : Int, ∀ x0 : Bool, ∀ x1_2 : Int, ∀ g6 : G, ((CallsP Try.prog 64 #[(.agg ⟨[(.slice h0a h0l h0c), (.int .i64 h1), (.int .i64 h2)]⟩), (.int .i64 kind), (.int .i64 n), (.slice la ll lc)] g6 fun v g7 =>
  ∃ x00a : Option Addr, ∃ x00l : Nat, ∃ x00c : Nat, ∃ x01 : Int, ∃ x02 : Int, ∃ x10 : Bool, ∃ x11 : Int, ∃ x2_1 : Bool, v = (.tuple ⟨[(.agg ⟨[(.slice x00a x00l x00c), (.int .i64 x01), (.int .i64 x02)]⟩), (.agg ⟨[(.bool x10), (.int .i64 x11)]⟩), (.bool x2_1)]⟩) ∧ ifB (!x2_1)
  (∀ g8 : G, Ex g7 g8 →
  ∀ g9 : G, Ex g8 g9 →
  R (.tuple ⟨[(.agg ⟨[(.slice none 0 0), (.int .i64 (0 : Int)), (.int .i64 (0 : Int))]⟩), (.agg ⟨[(.bool false), (.int .i64 (0 : Int))]⟩), (.int .i64 (25 : Int))]⟩) g9)
  (∀ g10 : G, Ex g7 g10 →
  ∀ g11 : G, Ex g10 g11 →
  R (.tuple ⟨[(.agg ⟨[(.slice x00a x00l x00c), (.int .i64 x01), (.int .i64 x02)]⟩), (.agg ⟨[(.bool x10), (.int .i64 x11)]⟩), (.int .i64 (0 : Int))]⟩) g11))) → J x0a_1 x0l_1 x0c_1 x1_1 x2 x0 x1_2 g6) →
  (CallsP Try.prog 75 #[(.int .i64 kind), (.int .i64 n), (.slice la ll lc)] g4 fun v g12 =>
  ∃ x : Bool, v = (.bool x) ∧ ifB (!x)
  (∀ g13 : G, Ex g12 g13 →
  R (.tuple ⟨[(.agg ⟨[(.slice none 0 0), (.int .i64 (0 : Int)), (.int .i64 (0 : Int))]⟩), (.agg ⟨[(.bool false), (.int .i64 (0 : Int))]⟩), (.int .i64 (2 : Int))]⟩) g13)
  ((CallsP Try.prog 76 #[(.slice la ll lc), (.func (.func 77) #[] ⟨[(.pointer (some ⟨g2.w.heap.size, 0, none⟩))]⟩)] g12 fun v g14 =>
  ∃ x_1 : Bool, v = (.bool x_1) ∧ ifB x_1
  (∀ g15 : G, Ex g14 g15 →
  R (.tuple ⟨[(.agg ⟨[(.slice none 0 0), (.int .i64 (0 : Int)), (.int .i64 (0 : Int))]⟩), (.agg ⟨[(.bool false), (.int .i64 (0 : Int))]⟩), (.int .i64 (2 : Int))]⟩) g15)
  (J none 0 0 (0 : Int) (0 : Int) false (0 : Int) g14))))))
theorem F30_eq (h0a : Option Addr) (h0l : Nat) (h0c : Nat) (h1 : Int) (h2 : Int) (kind : Int) (n : Int) (la : Option Addr) (ll : Nat) (lc : Nat) (g : G) (R : Value → G → Prop) : fnG cfg30 51 [.cell 8 24, .cell 9 41, .tmp 10] c30 an30 [(.agg ⟨[(.slice h0a h0l h0c), (.int .i64 h1), (.int .i64 h2)]⟩), (.int .i64 kind), (.int .i64 n), (.slice la ll lc)] g nobody R = F30 h0a h0l h0c h1 h2 kind n la ll lc g R := by kernel_rfl
theorem call30 (h0a : Option Addr) (h0l : Nat) (h0c : Nat) (h1 : Int) (h2 : Int) (kind : Int) (n : Int) (la : Option Addr) (ll : Nat) (lc : Nat) (g : G) (R : Value → G → Prop) (hF : F30 h0a h0l h0c h1 h2 kind n la ll lc g R) : CallsG Try.prog 30 #[(.agg ⟨[(.slice h0a h0l h0c), (.int .i64 h1), (.int .i64 h2)]⟩), (.int .i64 kind), (.int .i64 n), (.slice la ll lc)] g nobody R :=
  fn_soundG (c := cfg30) TTok FNSok mixed Try.func30 (show Try.f30.body = some c30 by kernel_rfl) (show Try.f30.ntmps = 51 by kernel_rfl) (show Try.f30.results.toList = [.cell 8 24, .cell 9 41, .tmp 10] by kernel_rfl) rfl ((F30_eq h0a h0l h0c h1 h2 kind n la ll lc g R).mpr hF)

/- 31 pilaster/pilasterref49.Alloc -/
noncomputable def c31 : Code := match Try.f31.body with
  | some c => c
  | none => .skip
noncomputable def cfg31 : Cfg := ⟨Try.prog, TT, FNS, [4, 8, 9, 13, 14], [(4, 4), (8, 8), (9, 9), (13, 13), (14, 14)], [], TCH, false, false⟩
def an31 : AnnG := (.seq .leaf (.seq (.seq .leaf (.cond (.seq .leaf .leaf) .leaf)) (.seq .leaf (.seq (.seq .leaf (.blk (.loop ⟨[(12, .int .i64)], [(8, 8, 0), (9, 9, 0)], [(8, [(.sl), (.int .i64), (.int .i64)]), (9, [(.bool), (.int .i64)])]⟩ (.seq (.seq .leaf (.cond .leaf .leaf)) (.seq (.blk (.seq .leaf (.cond (.seq .leaf .leaf) .leaf))) .leaf))))) (.seq .leaf (.seq (.seq .leaf (.cond (.seq (.treeP false [8, 9] 3 (.quiet 0 (.quiet 1 (.eff 2 .fin .fin)))) .leaf) .leaf)) (.seq (.treeP false [8, 9] 3 (.quiet 0 (.quiet 1 (.eff 2 .fin .fin)))) .leaf)))))))
def F31 (h0a : Option Addr) (h0l : Nat) (h0c : Nat) (h1 : Int) (h2 : Int) (kind : Int) (n : Int) (la : Option Addr) (ll : Nat) (lc : Nat) (g : G) (R : Value → G → Prop) : Prop :=
  ∀ g1 : G, Ex g g1 →
  (CallsP Try.prog 79 #[(.int .i64 kind), (.int .i64 n), (.slice la ll lc)] g1 fun v g2 =>
  ∃ x : Bool, v = (.bool x) ∧ ifB (!x)
  (∀ g3 : G, Ex g2 g3 →
  R (.tuple ⟨[(.agg ⟨[(.slice none 0 0), (.int .i64 (0 : Int)), (.int .i64 (0 : Int))]⟩), (.agg ⟨[(.bool false), (.int .i64 (0 : Int))]⟩), (.int .i64 (2 : Int))]⟩) g3)
  ((CallsP Try.prog 36 #[(.agg ⟨[(.slice h0a h0l h0c), (.int .i64 h1), (.int .i64 h2)]⟩)] g2 fun v g4 =>
  ∃ alla : Option Addr, ∃ alll : Nat, ∃ allc : Nat, v = (.slice alla alll allc) ∧ ∃ Inv : Nat → Int → Option Addr → Nat → Nat → Int → Int → Bool → Int → G → Prop, ((∃ m0 : Nat, Inv m0 (0 : Int) none 0 0 (0 : Int) (0 : Int) false (0 : Int) g4)) ∧
  ∀ m : Nat, ∀ i : Int, ∀ x0a : Option Addr, ∀ x0l : Nat, ∀ x0c : Nat, ∀ x1 : Int, ∀ x2 : Int, ∀ x0 : Bool, ∀ x1_1 : Int, ∀ g5 : G, Le g4 g5 → Inv m i x0a x0l x0c x1 x2 x0 x1_1 g5 →
  ifB (ltI i ((ll : Nat) : Int))
  ((0 ≤ i ∧ i < ((ll : Nat) : Int)) ∧ derefP la fun ad => ∃ x0_1 : Bool, ∃ x1_2 : Int, g5.w.cell? (Addr.add ad (Int.toNat i * 2)) = some (.bool x0_1) ∧ g5.w.cell? (Addr.add (Addr.add ad (Int.toNat i * 2)) 1) = some (.int .i64 x1_2) ∧ (CallsP Try.prog 63 #[(.slice alla alll allc), (.agg ⟨[(.bool x0_1), (.int .i64 x1_2)]⟩)] g5 fun v g6 =>
  ∃ x_1 : Bool, v = (.bool x_1) ∧ ifB (!x_1)
  (∀ g7 : G, Ex g6 g7 →
  R (.tuple ⟨[(.agg ⟨[(.slice none 0 0), (.int .i64 (0 : Int)), (.int .i64 (0 : Int))]⟩), (.agg ⟨[(.bool false), (.int .i64 (0 : Int))]⟩), (.int .i64 (2 : Int))]⟩) g7)
  (InI64 (i + (1 : Int)) ∧ (∃ m_1 : Nat, m_1 < m ∧ Inv m_1 (i + (1 : Int)) x0a x0l x0c x1 x2 x0 x1_1 g6))))
  ((CallsP Try.prog 70 #[(.agg ⟨[(.slice h0a h0l h0c), (.int .i64 h1), (.int .i64 h2)]⟩), (.int .i64 kind), (.int .i64 n), (.slice la ll lc)] g5 fun v g8 =>
  ∃ x00a : Option Addr, ∃ x00l : Nat, ∃ x00c : Nat, ∃ x01 : Int, ∃ x02 : Int, ∃ x10 : Bool, ∃ x11 : Int, ∃ x2_1 : Bool, v = (.tuple ⟨[(.agg ⟨[(.slice x00a x00l x00c), (.int .i64 x01), (.int .i64 x02)]⟩), (.agg ⟨[(.bool x10), (.int .i64 x11)]⟩), (.bool x2_1)]⟩) ∧ ifB (!x2_1)
  (∀ g9 : G, Ex g8 g9 →
  ∀ g10 : G, Ex g9 g10 →
  R (.tuple ⟨[(.agg ⟨[(.slice x00a x00l x00c), (.int .i64 x01), (.int .i64 x02)]⟩), (.agg ⟨[(.bool x10), (.int .i64 x11)]⟩), (.int .i64 (25 : Int))]⟩) g10)
  (∀ g11 : G, Ex g8 g11 →
  ∀ g12 : G, Ex g11 g12 →
  R (.tuple ⟨[(.agg ⟨[(.slice x00a x00l x00c), (.int .i64 x01), (.int .i64 x02)]⟩), (.agg ⟨[(.bool x10), (.int .i64 x11)]⟩), (.int .i64 (0 : Int))]⟩) g12))))))
theorem F31_eq (h0a : Option Addr) (h0l : Nat) (h0c : Nat) (h1 : Int) (h2 : Int) (kind : Int) (n : Int) (la : Option Addr) (ll : Nat) (lc : Nat) (g : G) (R : Value → G → Prop) : fnG cfg31 55 [.cell 8 24, .cell 9 41, .tmp 10] c31 an31 [(.agg ⟨[(.slice h0a h0l h0c), (.int .i64 h1), (.int .i64 h2)]⟩), (.int .i64 kind), (.int .i64 n), (.slice la ll lc)] g nobody R = F31 h0a h0l h0c h1 h2 kind n la ll lc g R := by kernel_rfl
theorem call31 (h0a : Option Addr) (h0l : Nat) (h0c : Nat) (h1 : Int) (h2 : Int) (kind : Int) (n : Int) (la : Option Addr) (ll : Nat) (lc : Nat) (g : G) (R : Value → G → Prop) (hF : F31 h0a h0l h0c h1 h2 kind n la ll lc g R) : CallsG Try.prog 31 #[(.agg ⟨[(.slice h0a h0l h0c), (.int .i64 h1), (.int .i64 h2)]⟩), (.int .i64 kind), (.int .i64 n), (.slice la ll lc)] g nobody R :=
  fn_soundG (c := cfg31) TTok FNSok mixed Try.func31 (show Try.f31.body = some c31 by kernel_rfl) (show Try.f31.ntmps = 55 by kernel_rfl) (show Try.f31.results.toList = [.cell 8 24, .cell 9 41, .tmp 10] by kernel_rfl) rfl ((F31_eq h0a h0l h0c h1 h2 kind n la ll lc g R).mpr hF)

/- 32 pilaster/heap.Block -/
noncomputable def c32 : Code := match Try.f32.body with
  | some c => c
  | none => .skip
noncomputable def cfg32 : Cfg := ⟨Try.prog, TT, FNS, [2, 3], [(2, 2), (3, 3), (17, 3), (26, 2), (28, 3), (33, 2), (35, 3), (42, 3)], [], TCH, false, false⟩
def an32 : AnnG := (.seq .leaf (.seq .leaf (.seq (.seq .leaf (.cond (.seq .leaf .leaf) .leaf)) (.join ⟨[], [], []⟩ (.seq .leaf (.cond (.seq .leaf .leaf) .leaf)) (.seq (.tree 21 (.quiet 0 (.quiet 1 (.quiet 2 (.quiet 3 (.quiet 4 (.quiet 5 (.quiet 6 (.quiet 7 (.quiet 8 (.quiet 9 (.quiet 10 (.quiet 11 (.quiet 12 (.quiet 13 (.quiet 14 (.quiet 15 (.quiet 16 (.quiet 17 (.eff 18 (.eff 19 (.quiet 20 .fin) .fin) .fin)))))))))))))))))))) .leaf)))))
def F32 (h0a : Option Addr) (h0l : Nat) (h0c : Nat) (h1 : Int) (h2 : Int) (w0 : Bool) (w1 : Int) (g : G) (R : Value → G → Prop) : Prop :=
  ∀ g1 : G, Ex g g1 →
  (CallsP Try.prog 60 #[(.agg ⟨[(.slice h0a h0l h0c), (.int .i64 h1), (.int .i64 h2)]⟩)] g1 fun v g2 =>
  ∃ x0a : Option Addr, ∃ x0l : Nat, ∃ x0c : Nat, ∃ x1 : Bool, v = (.tuple ⟨[(.slice x0a x0l x0c), (.bool x1)]⟩) ∧ ifB (!x1)
  (∀ g3 : G, Ex g2 g3 →
  R (.tuple ⟨[(.int .i64 (0 : Int)), (.int .i64 (0 : Int)), (.slice none 0 0), (.int .i64 (1 : Int))]⟩) g3)
  (∀ J : G → Prop,
  (∀ g4 : G, (∀ g5 : G, Ex g4 g5 →
  (0 ≤ w1 ∧ w1 < ((h0l : Nat) : Int)) ∧ derefP h0a fun ad => ∃ kind : Int, g5.w.cell? (Addr.add (Addr.add ad (Int.toNat w1 * 2)) 1) = some (.int .i64 kind) ∧ InI64 (w1 + (1 : Int)) ∧ (0 ≤ (w1 + (1 : Int)) ∧ (w1 + (1 : Int)) < ((h0l : Nat) : Int)) ∧ derefP h0a fun ad_1 => ∃ n : Int, g5.w.cell? (Addr.add (Addr.add ad_1 (Int.toNat (w1 + (1 : Int)) * 2)) 1) = some (.int .i64 n) ∧ (CallsP Try.prog 80 #[(.agg ⟨[(.slice h0a h0l h0c), (.int .i64 h1), (.int .i64 h2)]⟩), (.int .i64 w1)] g5 fun v g6 =>
  ∃ xa : Option Addr, ∃ xl : Nat, ∃ xc : Nat, v = (.slice xa xl xc) ∧ (CallsP Try.prog 68 #[(.slice xa xl xc)] g6 fun v g7 =>
  ∃ la : Option Addr, ∃ ll : Nat, ∃ lc : Nat, v = (.slice la ll lc) ∧ ∀ g8 : G, Ex g7 g8 →
  R (.tuple ⟨[(.int .i64 kind), (.int .i64 n), (.slice la ll lc), (.int .i64 (0 : Int))]⟩) g8))) → J g4) →
  ifB (!w0)
  (∀ g9 : G, Ex g2 g9 →
  R (.tuple ⟨[(.int .i64 (0 : Int)), (.int .i64 (0 : Int)), (.slice none 0 0), (.int .i64 (2 : Int))]⟩) g9)
  ((CallsP Try.prog 78 #[(.slice x0a x0l x0c), (.agg ⟨[(.bool w0), (.int .i64 w1)]⟩)] g2 fun v g10 =>
  ∃ x : Bool, v = (.bool x) ∧ ifB (!x)
  (∀ g11 : G, Ex g10 g11 →
  R (.tuple ⟨[(.int .i64 (0 : Int)), (.int .i64 (0 : Int)), (.slice none 0 0), (.int .i64 (2 : Int))]⟩) g11)
  (J g10)))))
theorem F32_eq (h0a : Option Addr) (h0l : Nat) (h0c : Nat) (h1 : Int) (h2 : Int) (w0 : Bool) (w1 : Int) (g : G) (R : Value → G → Prop) : fnG cfg32 46 [.tmp 4, .tmp 5, .tmp 6, .tmp 7] c32 an32 [(.agg ⟨[(.slice h0a h0l h0c), (.int .i64 h1), (.int .i64 h2)]⟩), (.agg ⟨[(.bool w0), (.int .i64 w1)]⟩)] g nobody R = F32 h0a h0l h0c h1 h2 w0 w1 g R := by kernel_rfl
theorem call32 (h0a : Option Addr) (h0l : Nat) (h0c : Nat) (h1 : Int) (h2 : Int) (w0 : Bool) (w1 : Int) (g : G) (R : Value → G → Prop) (hF : F32 h0a h0l h0c h1 h2 w0 w1 g R) : CallsG Try.prog 32 #[(.agg ⟨[(.slice h0a h0l h0c), (.int .i64 h1), (.int .i64 h2)]⟩), (.agg ⟨[(.bool w0), (.int .i64 w1)]⟩)] g nobody R :=
  fn_soundG (c := cfg32) TTok FNSok mixed Try.func32 (show Try.f32.body = some c32 by kernel_rfl) (show Try.f32.ntmps = 46 by kernel_rfl) (show Try.f32.results.toList = [.tmp 4, .tmp 5, .tmp 6, .tmp 7] by kernel_rfl) rfl ((F32_eq h0a h0l h0c h1 h2 w0 w1 g R).mpr hF)

/- 33 pilaster/heap.String -/
noncomputable def c33 : Code := match Try.f33.body with
  | some c => c
  | none => .skip
noncomputable def cfg33 : Cfg := ⟨Try.prog, TT, FNS, [2, 3, 12], [(2, 2), (3, 3), (12, 12), (35, 12)], [], TCH, false, false⟩
def an33 : AnnG := (.seq .leaf (.seq .leaf (.seq (.blk (.seq .leaf (.cond (.seq .leaf .leaf) (.seq .leaf (.cond (.seq .leaf .leaf) .leaf))))) (.seq .leaf (.seq (.seq .leaf (.blk (.loop ⟨[(10, .sl), (30, .int .i64)], [], []⟩ (.seq .leaf (.seq (.cond .leaf .leaf) (.seq (.blk (.seq .leaf .leaf)) .leaf)))))) (.seq .leaf .leaf))))))
def F33 (h0a : Option Addr) (h0l : Nat) (h0c : Nat) (h1 : Int) (h2 : Int) (w0 : Bool) (w1 : Int) (g : G) (R : Value → G → Prop) : Prop :=
  ∀ g1 : G, Ex g g1 →
  (CallsP Try.prog 32 #[(.agg ⟨[(.slice h0a h0l h0c), (.int .i64 h1), (.int .i64 h2)]⟩), (.agg ⟨[(.bool w0), (.int .i64 w1)]⟩)] g1 fun v g2 =>
  ∃ x0 : Int, ∃ x1 : Int, ∃ x2a : Option Addr, ∃ x2l : Nat, ∃ x2c : Nat, ∃ x3 : Int, v = (.tuple ⟨[(.int .i64 x0), (.int .i64 x1), (.slice x2a x2l x2c), (.int .i64 x3)]⟩) ∧ ifB (!eqI x3 (0 : Int))
  (∀ g3 : G, Ex g2 g3 →
  R (.tuple ⟨[(.string (bs [])), (.int .i64 x3)]⟩) g3)
  (ifB (!eqI x0 (4 : Int))
  (∀ g4 : G, Ex g2 g4 →
  R (.tuple ⟨[(.string (bs [])), (.int .i64 (12 : Int))]⟩) g4)
  (∃ Inv : Nat → Option Addr → Nat → Nat → Int → G → Prop, ((∃ m0 : Nat, Inv m0 none 0 0 (0 : Int) g2)) ∧
  ∀ m : Nat, ∀ outa : Option Addr, ∀ outl : Nat, ∀ outc : Nat, ∀ v_1 : Int, ∀ g5 : G, Le g2 g5 → Inv m outa outl outc v_1 g5 →
  ifB (ltI v_1 ((x2l : Nat) : Int))
  ((0 ≤ v_1 ∧ v_1 < ((x2l : Nat) : Int)) ∧ derefP x2a fun ad => ∃ x0_1 : Bool, ∃ x1_1 : Int, g5.w.cell? (Addr.add ad (Int.toNat v_1 * 2)) = some (.bool x0_1) ∧ g5.w.cell? (Addr.add (Addr.add ad (Int.toNat v_1 * 2)) 1) = some (.int .i64 x1_1) ∧ ∀ g6 : G, Ex g5 g6 →
  ∀ g7 : G, NewL g6 g7 5 [(.int .u8 (IntKind.u8.wrap x1_1))] →
  ∃ outa_1 : Option Addr, ∃ outl_1 : Nat, ∃ outc_1 : Nat, ∃ wo1 : World, Sem.run Try.prog (Builtin.append_ #[66, 66] 66 #[(.slice outa outl outc), (.slice (some ⟨g6.w.heap.size, 0, none⟩) 1 1)]) g7.w = .ok (.slice outa_1 outl_1 outc_1) wo1 ∧ ∃ g8 : G, g8.w = wo1 ∧ Stp g.w.heap.size nobody g7 g8 ∧ InI64 (v_1 + (1 : Int)) ∧ (∃ m_1 : Nat, m_1 < m ∧ Inv m_1 outa_1 outl_1 outc_1 (v_1 + (1 : Int)) g8))
  (∃ x : ByteArray, ∃ wo2 : World, Sem.run Try.prog (convert 66 9 (.slice outa outl outc)) g5.w = .ok (.string x) wo2 ∧ ∃ g9 : G, g9.w = wo2 ∧ Stp g.w.heap.size nobody g5 g9 ∧ ∀ g10 : G, Ex g9 g10 →
  R (.tuple ⟨[(.string x), (.int .i64 (0 : Int))]⟩) g10))))
theorem F33_eq (h0a : Option Addr) (h0l : Nat) (h0c : Nat) (h1 : Int) (h2 : Int) (w0 : Bool) (w1 : Int) (g : G) (R : Value → G → Prop) : fnG cfg33 43 [.tmp 4, .tmp 5] c33 an33 [(.agg ⟨[(.slice h0a h0l h0c), (.int .i64 h1), (.int .i64 h2)]⟩), (.agg ⟨[(.bool w0), (.int .i64 w1)]⟩)] g nobody R = F33 h0a h0l h0c h1 h2 w0 w1 g R := by kernel_rfl
theorem call33 (h0a : Option Addr) (h0l : Nat) (h0c : Nat) (h1 : Int) (h2 : Int) (w0 : Bool) (w1 : Int) (g : G) (R : Value → G → Prop) (hF : F33 h0a h0l h0c h1 h2 w0 w1 g R) : CallsG Try.prog 33 #[(.agg ⟨[(.slice h0a h0l h0c), (.int .i64 h1), (.int .i64 h2)]⟩), (.agg ⟨[(.bool w0), (.int .i64 w1)]⟩)] g nobody R :=
  fn_soundG (c := cfg33) TTok FNSok mixed Try.func33 (show Try.f33.body = some c33 by kernel_rfl) (show Try.f33.ntmps = 43 by kernel_rfl) (show Try.f33.results.toList = [.tmp 4, .tmp 5] by kernel_rfl) rfl ((F33_eq h0a h0l h0c h1 h2 w0 w1 g R).mpr hF)

/- 34 pilaster/heap.Blocks -/
noncomputable def c34 : Code := match Try.f34.body with
  | some c => c
  | none => .skip
noncomputable def cfg34 : Cfg := ⟨Try.prog, TT, FNS, [1], [(1, 1)], [], TCH, false, false⟩
def an34 : AnnG := (.seq .leaf (.seq .leaf (.seq (.seq .leaf (.cond (.seq .leaf .leaf) .leaf)) (.seq .leaf .leaf))))
def F34 (h0a : Option Addr) (h0l : Nat) (h0c : Nat) (h1 : Int) (h2 : Int) (g : G) (R : Value → G → Prop) : Prop :=
  ∀ g1 : G, Ex g g1 →
  (CallsP Try.prog 60 #[(.agg ⟨[(.slice h0a h0l h0c), (.int .i64 h1), (.int .i64 h2)]⟩)] g1 fun v g2 =>
  ∃ x0a : Option Addr, ∃ x0l : Nat, ∃ x0c : Nat, ∃ x1 : Bool, v = (.tuple ⟨[(.slice x0a x0l x0c), (.bool x1)]⟩) ∧ ifB (!x1)
  (∀ g3 : G, Ex g2 g3 →
  R (.tuple ⟨[(.slice none 0 0), (.int .i64 (1 : Int))]⟩) g3)
  (∀ g4 : G, Ex g2 g4 →
  R (.tuple ⟨[(.slice x0a x0l x0c), (.int .i64 (0 : Int))]⟩) g4))
theorem F34_eq (h0a : Option Addr) (h0l : Nat) (h0c : Nat) (h1 : Int) (h2 : Int) (g : G) (R : Value → G → Prop) : fnG cfg34 14 [.tmp 2, .tmp 3] c34 an34 [(.agg ⟨[(.slice h0a h0l h0c), (.int .i64 h1), (.int .i64 h2)]⟩)] g nobody R = F34 h0a h0l h0c h1 h2 g R := by kernel_rfl
theorem call34 (h0a : Option Addr) (h0l : Nat) (h0c : Nat) (h1 : Int) (h2 : Int) (g : G) (R : Value → G → Prop) (hF : F34 h0a h0l h0c h1 h2 g R) : CallsG Try.prog 34 #[(.agg ⟨[(.slice h0a h0l h0c), (.int .i64 h1), (.int .i64 h2)]⟩)] g nobody R :=
  fn_soundG (c := cfg34) TTok FNSok mixed Try.func34 (show Try.f34.body = some c34 by kernel_rfl) (show Try.f34.ntmps = 14 by kernel_rfl) (show Try.f34.results.toList = [.tmp 2, .tmp 3] by kernel_rfl) rfl ((F34_eq h0a h0l h0c h1 h2 g R).mpr hF)

/- 35 slices.Equal[[]int,int] -/
noncomputable def c35 : Code := match Try.f35.body with
  | some c => c
  | none => .skip
noncomputable def cfg35 : Cfg := ⟨Try.prog, TT, FNS, [], [], [], TCH, false, false⟩
def an35 : AnnG := (.seq .leaf (.seq (.seq .leaf (.cond (.seq .leaf .leaf) .leaf)) (.seq (.seq .leaf (.blk (.loop ⟨[(13, .int .i64)], [], []⟩ (.seq .leaf (.seq (.cond .leaf .leaf) (.seq (.blk (.seq .leaf (.seq (.tree 8 (.quiet 0 (.quiet 1 (.quiet 2 (.quiet 3 (.quiet 4 (.quiet 5 (.quiet 6 (.quiet 7 .fin))))))))) (.cond (.seq .leaf .leaf) .leaf)))) .leaf)))))) (.seq .leaf .leaf))))
def F35 (s1a : Option Addr) (s1l : Nat) (s1c : Nat) (s2a : Option Addr) (s2l : Nat) (s2c : Nat) (g : G) (R : Value → G → Prop) : Prop :=
  ifB (!eqI ((s1l : Nat) : Int) ((s2l : Nat) : Int))
  (∀ g1 : G, Ex g g1 →
  R (.bool false) g1)
  (∃ Inv : Nat → Int → G → Prop, ((∃ m0 : Nat, Inv m0 (0 : Int) g)) ∧
  ∀ m : Nat, ∀ v_1 : Int, ∀ g2 : G, Le g g2 → Inv m v_1 g2 →
  ifB (ltI v_1 ((s1l : Nat) : Int))
  (∀ g3 : G, Ex g2 g3 →
  (0 ≤ v_1 ∧ v_1 < ((s1l : Nat) : Int)) ∧ derefP s1a fun ad => ∃ x : Int, g3.w.cell? (Addr.add ad (Int.toNat v_1 * 1)) = some (.int .i64 x) ∧ (0 ≤ v_1 ∧ v_1 < ((s2l : Nat) : Int)) ∧ derefP s2a fun ad_1 => ∃ x_1 : Int, g3.w.cell? (Addr.add ad_1 (Int.toNat v_1 * 1)) = some (.int .i64 x_1) ∧ ifB (!eqI x x_1)
  (∀ g4 : G, Ex g3 g4 →
  R (.bool false) g4)
  (InI64 (v_1 + (1 : Int)) ∧ (∃ m_1 : Nat, m_1 < m ∧ Inv m_1 (v_1 + (1 : Int)) g3)))
  (∀ g5 : G, Ex g2 g5 →
  R (.bool true) g5))
theorem F35_eq (s1a : Option Addr) (s1l : Nat) (s1c : Nat) (s2a : Option Addr) (s2l : Nat) (s2c : Nat) (g : G) (R : Value → G → Prop) : fnG cfg35 26 [.tmp 4] c35 an35 [(.slice s1a s1l s1c), (.slice s2a s2l s2c)] g nobody R = F35 s1a s1l s1c s2a s2l s2c g R := by kernel_rfl
theorem call35 (s1a : Option Addr) (s1l : Nat) (s1c : Nat) (s2a : Option Addr) (s2l : Nat) (s2c : Nat) (g : G) (R : Value → G → Prop) (hF : F35 s1a s1l s1c s2a s2l s2c g R) : CallsG Try.prog 35 #[(.slice s1a s1l s1c), (.slice s2a s2l s2c)] g nobody R :=
  fn_soundG (c := cfg35) TTok FNSok mixed Try.func35 (show Try.f35.body = some c35 by kernel_rfl) (show Try.f35.ntmps = 26 by kernel_rfl) (show Try.f35.results.toList = [.tmp 4] by kernel_rfl) rfl ((F35_eq s1a s1l s1c s2a s2l s2c g R).mpr hF)

/- 36 pilaster/pilasterref49.Blocks -/
noncomputable def c36 : Code := match Try.f36.body with
  | some c => c
  | none => .skip
noncomputable def cfg36 : Cfg := ⟨Try.prog, TT, FNS, [1], [(1, 1), (6, 1)], [], TCH, false, false⟩
def an36 : AnnG := (.seq .leaf (.seq .leaf (.seq .leaf .leaf)))
def F36 (h0a : Option Addr) (h0l : Nat) (h0c : Nat) (h1 : Int) (h2 : Int) (g : G) (R : Value → G → Prop) : Prop :=
  ∀ g1 : G, Ex g g1 →
  (CallsP Try.prog 62 #[(.slice h0a h0l h0c)] g1 fun v g2 =>
  ∃ x0a : Option Addr, ∃ x0l : Nat, ∃ x0c : Nat, ∃ x1 : Bool, v = (.tuple ⟨[(.slice x0a x0l x0c), (.bool x1)]⟩) ∧ ∀ g3 : G, Ex g2 g3 →
  R (.slice x0a x0l x0c) g3)
theorem F36_eq (h0a : Option Addr) (h0l : Nat) (h0c : Nat) (h1 : Int) (h2 : Int) (g : G) (R : Value → G → Prop) : fnG cfg36 12 [.tmp 2] c36 an36 [(.agg ⟨[(.slice h0a h0l h0c), (.int .i64 h1), (.int .i64 h2)]⟩)] g nobody R = F36 h0a h0l h0c h1 h2 g R := by kernel_rfl
theorem call36 (h0a : Option Addr) (h0l : Nat) (h0c : Nat) (h1 : Int) (h2 : Int) (g : G) (R : Value → G → Prop) (hF : F36 h0a h0l h0c h1 h2 g R) : CallsG Try.prog 36 #[(.agg ⟨[(.slice h0a h0l h0c), (.int .i64 h1), (.int .i64 h2)]⟩)] g nobody R :=
  fn_soundG (c := cfg36) TTok FNSok mixed Try.func36 (show Try.f36.body = some c36 by kernel_rfl) (show Try.f36.ntmps = 12 by kernel_rfl) (show Try.f36.results.toList = [.tmp 2] by kernel_rfl) rfl ((F36_eq h0a h0l h0c h1 h2 g R).mpr hF)

/- 37 pilaster/pilasterref49.Refers -/
noncomputable def c37 : Code := match Try.f37.body with
  | some c => c
  | none => .skip
noncomputable def cfg37 : Cfg := ⟨Try.prog, TT, FNS, [2, 3], [(2, 2), (3, 3), (5, 3), (10, 3)], [], TCH, false, false⟩
def an37 : AnnG := (.seq .leaf (.seq (.tree 7 (.quiet 0 (.quiet 1 (.quiet 2 (.quiet 3 (.quiet 5 (.quiet 6 (.eff 4 .fin .fin)))))))) .leaf))
def F37 (h0a : Option Addr) (h0l : Nat) (h0c : Nat) (h1 : Int) (h2 : Int) (w0 : Bool) (w1 : Int) (g : G) (R : Value → G → Prop) : Prop :=
  ∀ g1 : G, Ex g g1 →
  ifB w0
  ((CallsP Try.prog 36 #[(.agg ⟨[(.slice h0a h0l h0c), (.int .i64 h1), (.int .i64 h2)]⟩)] g1 fun v g2 =>
  ∃ xa : Option Addr, ∃ xl : Nat, ∃ xc : Nat, v = (.slice xa xl xc) ∧ (CallsP Try.prog 81 #[(.slice xa xl xc), (.int .i64 w1)] g2 fun v g3 =>
  ∃ x : Bool, v = (.bool x) ∧ ∀ g4 : G, Ex g3 g4 →
  R (.bool x) g4)))
  (∀ g5 : G, Ex g1 g5 →
  R (.bool false) g5)
theorem F37_eq (h0a : Option Addr) (h0l : Nat) (h0c : Nat) (h1 : Int) (h2 : Int) (w0 : Bool) (w1 : Int) (g : G) (R : Value → G → Prop) : fnG cfg37 14 [.tmp 4] c37 an37 [(.agg ⟨[(.slice h0a h0l h0c), (.int .i64 h1), (.int .i64 h2)]⟩), (.agg ⟨[(.bool w0), (.int .i64 w1)]⟩)] g nobody R = F37 h0a h0l h0c h1 h2 w0 w1 g R := by kernel_rfl
theorem call37 (h0a : Option Addr) (h0l : Nat) (h0c : Nat) (h1 : Int) (h2 : Int) (w0 : Bool) (w1 : Int) (g : G) (R : Value → G → Prop) (hF : F37 h0a h0l h0c h1 h2 w0 w1 g R) : CallsG Try.prog 37 #[(.agg ⟨[(.slice h0a h0l h0c), (.int .i64 h1), (.int .i64 h2)]⟩), (.agg ⟨[(.bool w0), (.int .i64 w1)]⟩)] g nobody R :=
  fn_soundG (c := cfg37) TTok FNSok mixed Try.func37 (show Try.f37.body = some c37 by kernel_rfl) (show Try.f37.ntmps = 14 by kernel_rfl) (show Try.f37.results.toList = [.tmp 4] by kernel_rfl) rfl ((F37_eq h0a h0l h0c h1 h2 w0 w1 g R).mpr hF)

/- 38 pilaster/pilasterref49.Block -/
noncomputable def c38 : Code := match Try.f38.body with
  | some c => c
  | none => .skip
noncomputable def cfg38 : Cfg := ⟨Try.prog, TT, FNS, [2], [(2, 2), (8, 2), (15, 2), (21, 2), (29, 2)], [], TCH, false, false⟩
def an38 : AnnG := (.seq .leaf (.seq .leaf (.seq (.treeB 25 (.quiet 0 (.quiet 1 (.quiet 2 (.quiet 3 (.quiet 4 (.quiet 5 (.quiet 6 (.quiet 7 (.quiet 8 (.quiet 9 (.quiet 10 (.quiet 11 (.quiet 12 (.quiet 14 (.quiet 15 (.quiet 16 (.quiet 17 (.quiet 18 (.quiet 19 (.quiet 20 (.quiet 21 (.quiet 22 (.eff 13 (.eff 23 (.quiet 24 .fin) .fin) .fin)))))))))))))))))))))))) .leaf)))
def F38 (h0a : Option Addr) (h0l : Nat) (h0c : Nat) (h1 : Int) (h2 : Int) (at0 : Int) (g : G) (R : Value → G → Prop) : Prop :=
  InI64 (at0 + (2 : Int)) ∧ (0 ≤ (at0 + (2 : Int)) ∧ (at0 + (2 : Int)) < ((h0l : Nat) : Int)) ∧ derefP h0a fun ad => ∀ g1 : G, Ex g g1 →
  ∃ n : Int, g1.w.cell? (Addr.add (Addr.add ad (Int.toNat (at0 + (2 : Int)) * 2)) 1) = some (.int .i64 n) ∧ ∀ g2 : G, Ex g1 g2 →
  ∃ MR1 : Nat → Prop, (∀ b, MR1 b → ¬ g2.X b) ∧ (0 ≤ at0 ∧ at0 < ((h0l : Nat) : Int)) ∧ derefP h0a fun ad_1 => ¬ MR1 (Addr.block (Addr.add (Addr.add ad_1 (Int.toNat at0 * 2)) 1)) ∧ ∃ x : Int, g2.w.cell? (Addr.add (Addr.add ad_1 (Int.toNat at0 * 2)) 1) = some (.int .i64 x) ∧ InI64 (at0 + (1 : Int)) ∧ (0 ≤ (at0 + (1 : Int)) ∧ (at0 + (1 : Int)) < ((h0l : Nat) : Int)) ∧ derefP h0a fun ad_2 => ¬ MR1 (Addr.block (Addr.add (Addr.add ad_2 (Int.toNat (at0 + (1 : Int)) * 2)) 1)) ∧ ∃ x_1 : Int, g2.w.cell? (Addr.add (Addr.add ad_2 (Int.toNat (at0 + (1 : Int)) * 2)) 1) = some (.int .i64 x_1) ∧ InI64 (at0 + (3 : Int)) ∧ InI64 (at0 + (3 : Int)) ∧ InI64 ((at0 + (3 : Int)) + n) ∧ (0 ≤ ((at0 + (3 : Int)) + n) ∧ ((at0 + (3 : Int)) + n) ≤ ((h0c : Nat) : Int)) ∧ (0 ≤ (at0 + (3 : Int)) ∧ (at0 + (3 : Int)) ≤ (((Int.toNat ((at0 + (3 : Int)) + n)) : Nat) : Int)) ∧ ∀ g3 : G, NewL g2 g3 41 [] →
  ∃ xa : Option Addr, ∃ xl : Nat, ∃ xc : Nat, ∃ wo1 : World, Sem.run Try.prog (Builtin.append_ #[22, 22] 22 #[(.slice (some ⟨g2.w.heap.size, 0, none⟩) 0 0), (.slice (slAddr h0a h0c (Int.toNat (at0 + (3 : Int))) 2) ((Int.toNat ((at0 + (3 : Int)) + n)) - (Int.toNat (at0 + (3 : Int)))) (h0c - (Int.toNat (at0 + (3 : Int)))))]) g3.w = .ok (.slice xa xl xc) wo1 ∧ ∃ g4 : G, g4.w = wo1 ∧ Stp g.w.heap.size nobody g3 g4 ∧ SameBut MR1 g2 g4 ∧ ∀ g5 : G, Ex g4 g5 →
  R (.tuple ⟨[(.int .i64 x), (.int .i64 x_1), (.slice xa xl xc)]⟩) g5
theorem F38_eq (h0a : Option Addr) (h0l : Nat) (h0c : Nat) (h1 : Int) (h2 : Int) (at0 : Int) (g : G) (R : Value → G → Prop) : fnG cfg38 39 [.tmp 4, .tmp 5, .tmp 6] c38 an38 [(.agg ⟨[(.slice h0a h0l h0c), (.int .i64 h1), (.int .i64 h2)]⟩), (.int .i64 at0)] g nobody R = F38 h0a h0l h0c h1 h2 at0 g R := by kernel_rfl
theorem call38 (h0a : Option Addr) (h0l : Nat) (h0c : Nat) (h1 : Int) (h2 : Int) (at0 : Int) (g : G) (R : Value → G → Prop) (hF : F38 h0a h0l h0c h1 h2 at0 g R) : CallsG Try.prog 38 #[(.agg ⟨[(.slice h0a h0l h0c), (.int .i64 h1), (.int .i64 h2)]⟩), (.int .i64 at0)] g nobody R :=
  fn_soundG (c := cfg38) TTok FNSok mixed Try.func38 (show Try.f38.body = some c38 by kernel_rfl) (show Try.f38.ntmps = 39 by kernel_rfl) (show Try.f38.results.toList = [.tmp 4, .tmp 5, .tmp 6] by kernel_rfl) rfl ((F38_eq h0a h0l h0c h1 h2 at0 g R).mpr hF)

/- 39 pilaster/pilasterref49.SameWords -/
noncomputable def c39 : Code := match Try.f39.body with
  | some c => c
  | none => .skip
noncomputable def cfg39 : Cfg := ⟨Try.prog, TT, FNS, [], [], [], TCH, false, false⟩
def an39 : AnnG := (.seq .leaf (.seq (.seq .leaf (.cond (.seq .leaf .leaf) .leaf)) (.seq (.seq .leaf (.blk (.loop ⟨[(5, .int .i64)], [], []⟩ (.seq (.seq .leaf (.cond .leaf .leaf)) (.seq (.blk (.seq (.tree 8 (.quiet 0 (.quiet 1 (.quiet 2 (.quiet 3 (.quiet 4 (.quiet 5 (.quiet 6 (.quiet 7 .fin))))))))) (.cond (.seq .leaf .leaf) .leaf))) .leaf))))) (.seq .leaf .leaf))))
def F39 (aa : Option Addr) (al : Nat) (ac : Nat) (ba : Option Addr) (bl : Nat) (bc : Nat) (g : G) (R : Value → G → Prop) : Prop :=
  ifB (!eqI ((al : Nat) : Int) ((bl : Nat) : Int))
  (∀ g1 : G, Ex g g1 →
  R (.bool false) g1)
  (∃ Inv : Nat → Int → G → Prop, ((∃ m0 : Nat, Inv m0 (0 : Int) g)) ∧
  ∀ m : Nat, ∀ i : Int, ∀ g2 : G, Le g g2 → Inv m i g2 →
  ifB (ltI i ((al : Nat) : Int))
  (∀ g3 : G, Ex g2 g3 →
  (0 ≤ i ∧ i < ((al : Nat) : Int)) ∧ derefP aa fun ad => ∃ x0 : Bool, ∃ x1 : Int, g3.w.cell? (Addr.add ad (Int.toNat i * 2)) = some (.bool x0) ∧ g3.w.cell? (Addr.add (Addr.add ad (Int.toNat i * 2)) 1) = some (.int .i64 x1) ∧ (0 ≤ i ∧ i < ((bl : Nat) : Int)) ∧ derefP ba fun ad_1 => ∃ x0_1 : Bool, ∃ x1_1 : Int, g3.w.cell? (Addr.add ad_1 (Int.toNat i * 2)) = some (.bool x0_1) ∧ g3.w.cell? (Addr.add (Addr.add ad_1 (Int.toNat i * 2)) 1) = some (.int .i64 x1_1) ∧ ifB (!((x0 == x0_1) && ((eqI x1 x1_1) && true)))
  (∀ g4 : G, Ex g3 g4 →
  R (.bool false) g4)
  (InI64 (i + (1 : Int)) ∧ (∃ m_1 : Nat, m_1 < m ∧ Inv m_1 (i + (1 : Int)) g3)))
  (∀ g5 : G, Ex g2 g5 →
  R (.bool true) g5))
theorem F39_eq (aa : Option Addr) (al : Nat) (ac : Nat) (ba : Option Addr) (bl : Nat) (bc : Nat) (g : G) (R : Value → G → Prop) : fnG cfg39 26 [.tmp 4] c39 an39 [(.slice aa al ac), (.slice ba bl bc)] g nobody R = F39 aa al ac ba bl bc g R := by kernel_rfl
theorem call39 (aa : Option Addr) (al : Nat) (ac : Nat) (ba : Option Addr) (bl : Nat) (bc : Nat) (g : G) (R : Value → G → Prop) (hF : F39 aa al ac ba bl bc g R) : CallsG Try.prog 39 #[(.slice aa al ac), (.slice ba bl bc)] g nobody R :=
  fn_soundG (c := cfg39) TTok FNSok mixed Try.func39 (show Try.f39.body = some c39 by kernel_rfl) (show Try.f39.ntmps = 26 by kernel_rfl) (show Try.f39.results.toList = [.tmp 4] by kernel_rfl) rfl ((F39_eq aa al ac ba bl bc g R).mpr hF)

/- 40 pilaster/pilasterref49.String -/
noncomputable def c40 : Code := match Try.f40.body with
  | some c => c
  | none => .skip
noncomputable def cfg40 : Cfg := ⟨Try.prog, TT, FNS, [], [], [], TCH, false, false⟩
def an40 : AnnG := (.seq .leaf (.seq .leaf (.seq (.seq .leaf (.blk (.loop ⟨[(3, .sl), (4, .int .i64)], [], []⟩ (.seq (.seq .leaf (.cond .leaf .leaf)) (.seq (.blk .leaf) .leaf))))) (.seq .leaf .leaf))))
def F40 (la : Option Addr) (ll : Nat) (lc : Nat) (g : G) (R : Value → G → Prop) : Prop :=
  ∃ Inv : Nat → Option Addr → Nat → Nat → Int → G → Prop, ((∃ m0 : Nat, Inv m0 none 0 0 (0 : Int) g)) ∧
  ∀ m : Nat, ∀ ba : Option Addr, ∀ bl : Nat, ∀ bc : Nat, ∀ i : Int, ∀ g1 : G, Le g g1 → Inv m ba bl bc i g1 →
  ifB (ltI i ((ll : Nat) : Int))
  ((0 ≤ i ∧ i < ((ll : Nat) : Int)) ∧ derefP la fun ad => ∃ x : Int, g1.w.cell? (Addr.add (Addr.add ad (Int.toNat i * 2)) 1) = some (.int .i64 x) ∧ ∀ g2 : G, NewL g1 g2 5 [(.int .u8 (IntKind.u8.wrap x))] →
  ∃ ba_1 : Option Addr, ∃ bl_1 : Nat, ∃ bc_1 : Nat, ∃ wo1 : World, Sem.run Try.prog (Builtin.append_ #[66, 66] 66 #[(.slice ba bl bc), (.slice (some ⟨g1.w.heap.size, 0, none⟩) 1 1)]) g2.w = .ok (.slice ba_1 bl_1 bc_1) wo1 ∧ ∃ g3 : G, g3.w = wo1 ∧ Stp g.w.heap.size nobody g2 g3 ∧ InI64 (i + (1 : Int)) ∧ (∃ m_1 : Nat, m_1 < m ∧ Inv m_1 ba_1 bl_1 bc_1 (i + (1 : Int)) g3))
  (∃ x_1 : ByteArray, ∃ wo2 : World, Sem.run Try.prog (convert 66 9 (.slice ba bl bc)) g1.w = .ok (.string x_1) wo2 ∧ ∃ g4 : G, g4.w = wo2 ∧ Stp g.w.heap.size nobody g1 g4 ∧ ∀ g5 : G, Ex g4 g5 →
  R (.string x_1) g5)
theorem F40_eq (la : Option Addr) (ll : Nat) (lc : Nat) (g : G) (R : Value → G → Prop) : fnG cfg40 22 [.tmp 2] c40 an40 [(.slice la ll lc)] g nobody R = F40 la ll lc g R := by kernel_rfl
theorem call40 (la : Option Addr) (ll : Nat) (lc : Nat) (g : G) (R : Value → G → Prop) (hF : F40 la ll lc g R) : CallsG Try.prog 40 #[(.slice la ll lc)] g nobody R :=
  fn_soundG (c := cfg40) TTok FNSok mixed Try.func40 (show Try.f40.body = some c40 by kernel_rfl) (show Try.f40.ntmps = 22 by kernel_rfl) (show Try.f40.results.toList = [.tmp 2] by kernel_rfl) rfl ((F40_eq la ll lc g R).mpr hF)

/- 41 pilaster/pilasterlaw50.awake -/
noncomputable def c41 : Code := match Try.f41.body with
  | some c => c
  | none => .skip
noncomputable def cfg41 : Cfg := ⟨Try.prog, TT, FNS, [1, 2, 3], [(1, 1), (2, 2), (3, 3), (30, 3)], [], TCH, false, false⟩
def an41 : AnnG := (.seq .leaf (.seq .leaf (.seq .leaf (.seq .leaf (.seq .leaf .leaf)))))
def F41 (g : G) (R : Value → G → Prop) : Prop :=
  (CallsP Try.prog 82 #[] g fun v g1 =>
  ∃ x00a : Option Addr, ∃ x00l : Nat, ∃ x00c : Nat, ∃ x01 : Int, ∃ x02 : Int, ∃ x10 : Bool, ∃ x11 : Int, v = (.tuple ⟨[(.agg ⟨[(.slice x00a x00l x00c), (.int .i64 x01), (.int .i64 x02)]⟩), (.agg ⟨[(.bool x10), (.int .i64 x11)]⟩)]⟩) ∧ ∀ g2 : G, Ex g1 g2 →
  ∀ g3 : G, NewL g2 g3 41 [(.bool x10), (.int .i64 x11)] →
  (CallsP Try.prog 43 #[(.agg ⟨[(.slice x00a x00l x00c), (.int .i64 x01), (.int .i64 x02)]⟩), (.slice (some ⟨g2.w.heap.size, 0, none⟩) 1 1)] g3 fun v g4 =>
  ∃ x00a_1 : Option Addr, ∃ x00l_1 : Nat, ∃ x00c_1 : Nat, ∃ x01_1 : Int, ∃ x02_1 : Int, ∃ x1a : Option Addr, ∃ x1l : Nat, ∃ x1c : Nat, ∃ x2 : Int, v = (.tuple ⟨[(.agg ⟨[(.slice x00a_1 x00l_1 x00c_1), (.int .i64 x01_1), (.int .i64 x02_1)]⟩), (.slice x1a x1l x1c), (.int .i64 x2)]⟩) ∧ ∀ g5 : G, Ex g4 g5 →
  ∀ g6 : G, NewL g5 g6 41 [(.bool x10), (.int .i64 x11)] →
  (CallsP Try.prog 56 #[(.agg ⟨[(.slice x00a x00l x00c), (.int .i64 x01), (.int .i64 x02)]⟩), (.slice (some ⟨g5.w.heap.size, 0, none⟩) 1 1)] g6 fun v g7 =>
  ∃ x0 : Int, ∃ x1 : Int, v = (.tuple ⟨[(.int .i64 x0), (.int .i64 x1)]⟩) ∧ ifB (eqI x2 (0 : Int))
  (ifB (eqI x01_1 (9 : Int))
  (ifB (eqI ((x1l : Nat) : Int) (1 : Int))
  ((0 ≤ (0 : Int) ∧ (0 : Int) < ((x1l : Nat) : Int)) ∧ derefP x1a fun ad => ∃ x0_1 : Bool, ∃ x1_1 : Int, g7.w.cell? (Addr.add ad (Int.toNat (0 : Int) * 2)) = some (.bool x0_1) ∧ g7.w.cell? (Addr.add (Addr.add ad (Int.toNat (0 : Int) * 2)) 1) = some (.int .i64 x1_1) ∧ ifB ((x0_1 == true) && ((eqI x1_1 (0 : Int)) && true))
  (ifB (eqI x1 (0 : Int))
  (∀ g8 : G, Ex g7 g8 →
  R (.bool (eqI x0 (9 : Int))) g8)
  (∀ g9 : G, Ex g7 g9 →
  R (.bool false) g9))
  (∀ g10 : G, Ex g7 g10 →
  R (.bool false) g10))
  (∀ g11 : G, Ex g7 g11 →
  R (.bool false) g11))
  (∀ g12 : G, Ex g7 g12 →
  R (.bool false) g12))
  (∀ g13 : G, Ex g7 g13 →
  R (.bool false) g13))))
theorem F41_eq (g : G) (R : Value → G → Prop) : fnG cfg41 54 [.tmp 0] c41 an41 [] g nobody R = F41 g R := by kernel_rfl
theorem call41 (g : G) (R : Value → G → Prop) (hF : F41 g R) : CallsG Try.prog 41 #[] g nobody R :=
  fn_soundG (c := cfg41) TTok FNSok mixed Try.func41 (show Try.f41.body = some c41 by kernel_rfl) (show Try.f41.ntmps = 54 by kernel_rfl) (show Try.f41.results.toList = [.tmp 0] by kernel_rfl) rfl ((F41_eq g R).mpr hF)

/- 42 pilaster/pilasterlaw50.great -/
noncomputable def c42 : Code := match Try.f42.body with
  | some c => c
  | none => .skip
noncomputable def cfg42 : Cfg := ⟨Try.prog, TT, FNS, [2], [(2, 2), (5, 2)], [], TCH, false, false⟩
def an42 : AnnG := (.seq .leaf (.seq .leaf .leaf))
def F42 (h0a : Option Addr) (h0l : Nat) (h0c : Nat) (h1 : Int) (h2 : Int) (la : Option Addr) (ll : Nat) (lc : Nat) (g : G) (R : Value → G → Prop) : Prop :=
  ifB (ltI (600 : Int) ((h0l : Nat) : Int))
  (∀ g1 : G, Ex g g1 →
  R (.bool true) g1)
  (ifB (ltI (100 : Int) ((ll : Nat) : Int))
  (ifB (leI ((ll : Nat) : Int) (65536 : Int))
  (∀ g2 : G, Ex g g2 →
  R (.bool true) g2)
  (∀ g3 : G, Ex g g3 →
  R (.bool (ltI (70000 : Int) ((ll : Nat) : Int))) g3))
  (∀ g4 : G, Ex g g4 →
  R (.bool (ltI (70000 : Int) ((ll : Nat) : Int))) g4))
theorem F42_eq (h0a : Option Addr) (h0l : Nat) (h0c : Nat) (h1 : Int) (h2 : Int) (la : Option Addr) (ll : Nat) (lc : Nat) (g : G) (R : Value → G → Prop) : fnG cfg42 24 [.tmp 4] c42 an42 [(.agg ⟨[(.slice h0a h0l h0c), (.int .i64 h1), (.int .i64 h2)]⟩), (.slice la ll lc)] g nobody R = F42 h0a h0l h0c h1 h2 la ll lc g R := by kernel_rfl
theorem call42 (h0a : Option Addr) (h0l : Nat) (h0c : Nat) (h1 : Int) (h2 : Int) (la : Option Addr) (ll : Nat) (lc : Nat) (g : G) (R : Value → G → Prop) (hF : F42 h0a h0l h0c h1 h2 la ll lc g R) : CallsG Try.prog 42 #[(.agg ⟨[(.slice h0a h0l h0c), (.int .i64 h1), (.int .i64 h2)]⟩), (.slice la ll lc)] g nobody R :=
  fn_soundG (c := cfg42) TTok FNSok mixed Try.func42 (show Try.f42.body = some c42 by kernel_rfl) (show Try.f42.ntmps = 24 by kernel_rfl) (show Try.f42.results.toList = [.tmp 4] by kernel_rfl) rfl ((F42_eq h0a h0l h0c h1 h2 la ll lc g R).mpr hF)

/- 43 pilaster/collect.Collect -/
noncomputable def c43 : Code := match Try.f43.body with
  | some c => c
  | none => .skip
noncomputable def cfg43 : Cfg := ⟨Try.prog, TT, FNS, [2, 4], [(2, 2), (4, 4)], [], TCH, false, false⟩
def an43 : AnnG := (.seq .leaf (.seq (.seq .leaf (.seq .leaf (.cond (.seq .leaf .leaf) .leaf))) (.seq .leaf (.seq .leaf .leaf))))
def F43 (h0a : Option Addr) (h0l : Nat) (h0c : Nat) (h1 : Int) (h2 : Int) (rootsa : Option Addr) (rootsl : Nat) (rootsc : Nat) (g : G) (R : Value → G → Prop) : Prop :=
  ∀ g1 : G, Ex g g1 →
  (CallsP Try.prog 83 #[(.agg ⟨[(.slice h0a h0l h0c), (.int .i64 h1), (.int .i64 h2)]⟩), (.slice rootsa rootsl rootsc)] g1 fun v g2 =>
  ∃ x0 : Option Nat, ∃ x1 : Int, v = (.tuple ⟨[(.map x0), (.int .i64 x1)]⟩) ∧ ifB (!eqI x1 (0 : Int))
  (∀ g3 : G, Ex g2 g3 →
  R (.tuple ⟨[(.agg ⟨[(.slice none 0 0), (.int .i64 (0 : Int)), (.int .i64 (0 : Int))]⟩), (.slice none 0 0), (.int .i64 x1)]⟩) g3)
  ((CallsP Try.prog 84 #[(.agg ⟨[(.slice h0a h0l h0c), (.int .i64 h1), (.int .i64 h2)]⟩), (.slice rootsa rootsl rootsc)] g2 fun v g4 =>
  ∃ x0_1 : Option Addr, ∃ x1a : Option Addr, ∃ x1l : Nat, ∃ x1c : Nat, v = (.tuple ⟨[(.pointer x0_1), (.slice x1a x1l x1c)]⟩) ∧ derefP x0_1 fun ad => ∃ x0a : Option Addr, ∃ x0l : Nat, ∃ x0c : Nat, ∃ x1_1 : Int, ∃ x2 : Int, g4.w.cell? (Addr.add ad 3) = some (.slice x0a x0l x0c) ∧ g4.w.cell? (Addr.add (Addr.add ad 3) 1) = some (.int .i64 x1_1) ∧ g4.w.cell? (Addr.add (Addr.add ad 3) 2) = some (.int .i64 x2) ∧ ∀ g5 : G, Ex g4 g5 →
  R (.tuple ⟨[(.agg ⟨[(.slice x0a x0l x0c), (.int .i64 x1_1), (.int .i64 x2)]⟩), (.slice x1a x1l x1c), (.int .i64 (0 : Int))]⟩) g5)))
theorem F43_eq (h0a : Option Addr) (h0l : Nat) (h0c : Nat) (h1 : Int) (h2 : Int) (rootsa : Option Addr) (rootsl : Nat) (rootsc : Nat) (g : G) (R : Value → G → Prop) : fnG cfg43 32 [.cell 4 24, .tmp 5, .tmp 6] c43 an43 [(.agg ⟨[(.slice h0a h0l h0c), (.int .i64 h1), (.int .i64 h2)]⟩), (.slice rootsa rootsl rootsc)] g nobody R = F43 h0a h0l h0c h1 h2 rootsa rootsl rootsc g R := by kernel_rfl
theorem call43 (h0a : Option Addr) (h0l : Nat) (h0c : Nat) (h1 : Int) (h2 : Int) (rootsa : Option Addr) (rootsl : Nat) (rootsc : Nat) (g : G) (R : Value → G → Prop) (hF : F43 h0a h0l h0c h1 h2 rootsa rootsl rootsc g R) : CallsG Try.prog 43 #[(.agg ⟨[(.slice h0a h0l h0c), (.int .i64 h1), (.int .i64 h2)]⟩), (.slice rootsa rootsl rootsc)] g nobody R :=
  fn_soundG (c := cfg43) TTok FNSok mixed Try.func43 (show Try.f43.body = some c43 by kernel_rfl) (show Try.f43.ntmps = 32 by kernel_rfl) (show Try.f43.results.toList = [.cell 4 24, .tmp 5, .tmp 6] by kernel_rfl) rfl ((F43_eq h0a h0l h0c h1 h2 rootsa rootsl rootsc g R).mpr hF)

/- 44 pilaster/pilasterlaw50.none -/
noncomputable def c44 : Code := match Try.f44.body with
  | some c => c
  | none => .skip
noncomputable def cfg44 : Cfg := ⟨Try.prog, TT, FNS, [1], [(1, 1)], [], TCH, false, false⟩
def an44 : AnnG := (.seq .leaf (.seq .leaf .leaf))
def F44 (h0a : Option Addr) (h0l : Nat) (h0c : Nat) (h1 : Int) (h2 : Int) (g : G) (R : Value → G → Prop) : Prop :=
  ∀ g1 : G, Ex g g1 →
  (CallsP Try.prog 20 #[(.agg ⟨[(.slice h0a h0l h0c), (.int .i64 h1), (.int .i64 h2)]⟩), (.agg ⟨[(.slice none 0 0), (.int .i64 (0 : Int)), (.int .i64 (0 : Int))]⟩)] g1 fun v g2 =>
  ∃ x : Bool, v = (.bool x) ∧ ∀ g3 : G, Ex g2 g3 →
  R (.bool x) g3)
theorem F44_eq (h0a : Option Addr) (h0l : Nat) (h0c : Nat) (h1 : Int) (h2 : Int) (g : G) (R : Value → G → Prop) : fnG cfg44 6 [.tmp 2] c44 an44 [(.agg ⟨[(.slice h0a h0l h0c), (.int .i64 h1), (.int .i64 h2)]⟩)] g nobody R = F44 h0a h0l h0c h1 h2 g R := by kernel_rfl
theorem call44 (h0a : Option Addr) (h0l : Nat) (h0c : Nat) (h1 : Int) (h2 : Int) (g : G) (R : Value → G → Prop) (hF : F44 h0a h0l h0c h1 h2 g R) : CallsG Try.prog 44 #[(.agg ⟨[(.slice h0a h0l h0c), (.int .i64 h1), (.int .i64 h2)]⟩)] g nobody R :=
  fn_soundG (c := cfg44) TTok FNSok mixed Try.func44 (show Try.f44.body = some c44 by kernel_rfl) (show Try.f44.ntmps = 6 by kernel_rfl) (show Try.f44.results.toList = [.tmp 2] by kernel_rfl) rfl ((F44_eq h0a h0l h0c h1 h2 g R).mpr hF)

/- 45 pilaster/pilasterlaw50.walk -/
noncomputable def c45 : Code := match Try.f45.body with
  | some c => c
  | none => .skip
noncomputable def cfg45 : Cfg := ⟨Try.prog, TT, FNS, [5, 6, 7, 8], [(5, 5), (6, 6), (7, 7), (8, 8), (20, 7), (24, 8)], [], TCH, false, false⟩
def an45 : AnnG := (.seq .leaf (.join ⟨[], [], []⟩ (.seq .leaf (.cond (.seq .leaf .leaf) .leaf)) (.seq .leaf (.seq .leaf (.join ⟨[], [], []⟩ (.seq .leaf (.cond (.seq .leaf .leaf) .leaf)) (.seq (.seq .leaf (.blk (.loop ⟨[(72, .int .i64)], [], []⟩ (.seq .leaf (.seq (.cond .leaf .leaf) (.seq (.blk (.seq .leaf (.seq (.tree 15 (.quiet 0 (.quiet 1 (.quiet 2 (.quiet 3 (.quiet 4 (.quiet 5 (.quiet 6 (.quiet 7 (.quiet 8 (.quiet 9 (.quiet 10 (.quiet 11 (.quiet 12 (.quiet 13 (.quiet 14 .fin)))))))))))))))) (.cond (.seq .leaf .leaf) .leaf)))) .leaf)))))) (.seq .leaf .leaf)))))))
def F45 (a0a : Option Addr) (a0l : Nat) (a0c : Nat) (a1 : Int) (a2 : Int) (b0a : Option Addr) (b0l : Nat) (b0c : Nat) (b1 : Int) (b2 : Int) (x0 : Bool) (x1 : Int) (y0 : Bool) (y1 : Int) (depth : Int) (g : G) (R : Value → G → Prop) : Prop :=
  ∀ J : G → Prop,
  (∀ g1 : G, ((CallsP Try.prog 32 #[(.agg ⟨[(.slice a0a a0l a0c), (.int .i64 a1), (.int .i64 a2)]⟩), (.agg ⟨[(.bool x0), (.int .i64 x1)]⟩)] g1 fun v g2 =>
  ∃ x0_1 : Int, ∃ x1_1 : Int, ∃ x2a : Option Addr, ∃ x2l : Nat, ∃ x2c : Nat, ∃ x3 : Int, v = (.tuple ⟨[(.int .i64 x0_1), (.int .i64 x1_1), (.slice x2a x2l x2c), (.int .i64 x3)]⟩) ∧ (CallsP Try.prog 32 #[(.agg ⟨[(.slice b0a b0l b0c), (.int .i64 b1), (.int .i64 b2)]⟩), (.agg ⟨[(.bool y0), (.int .i64 y1)]⟩)] g2 fun v g3 =>
  ∃ x0_2 : Int, ∃ x1_2 : Int, ∃ x2a_1 : Option Addr, ∃ x2l_1 : Nat, ∃ x2c_1 : Nat, ∃ x3_1 : Int, v = (.tuple ⟨[(.int .i64 x0_2), (.int .i64 x1_2), (.slice x2a_1 x2l_1 x2c_1), (.int .i64 x3_1)]⟩) ∧ ∀ J_1 : G → Prop,
  (∀ g4 : G, (∃ Inv : Nat → Int → G → Prop, ((∃ m0 : Nat, Inv m0 (0 : Int) g4)) ∧
  ∀ m : Nat, ∀ v_1 : Int, ∀ g5 : G, Le g4 g5 → Inv m v_1 g5 →
  ifB (ltI v_1 ((x2l : Nat) : Int))
  (∀ g6 : G, Ex g5 g6 →
  ifB (ltI (0 : Int) depth)
  ((0 ≤ v_1 ∧ v_1 < ((x2l : Nat) : Int)) ∧ derefP x2a fun ad => ∃ x0_3 : Bool, ∃ x1_3 : Int, g6.w.cell? (Addr.add ad (Int.toNat v_1 * 2)) = some (.bool x0_3) ∧ g6.w.cell? (Addr.add (Addr.add ad (Int.toNat v_1 * 2)) 1) = some (.int .i64 x1_3) ∧ (0 ≤ v_1 ∧ v_1 < ((x2l_1 : Nat) : Int)) ∧ derefP x2a_1 fun ad_1 => ∃ x0_4 : Bool, ∃ x1_4 : Int, g6.w.cell? (Addr.add ad_1 (Int.toNat v_1 * 2)) = some (.bool x0_4) ∧ g6.w.cell? (Addr.add (Addr.add ad_1 (Int.toNat v_1 * 2)) 1) = some (.int .i64 x1_4) ∧ InI64 (depth - (1 : Int)) ∧ (CallsP Try.prog 45 #[(.agg ⟨[(.slice a0a a0l a0c), (.int .i64 a1), (.int .i64 a2)]⟩), (.agg ⟨[(.slice b0a b0l b0c), (.int .i64 b1), (.int .i64 b2)]⟩), (.agg ⟨[(.bool x0_3), (.int .i64 x1_3)]⟩), (.agg ⟨[(.bool x0_4), (.int .i64 x1_4)]⟩), (.int .i64 (depth - (1 : Int)))] g6 fun v g7 =>
  ∃ x : Bool, v = (.bool x) ∧ ifB (!x)
  (∀ g8 : G, Ex g7 g8 →
  R (.bool false) g8)
  (InI64 (v_1 + (1 : Int)) ∧ (∃ m_1 : Nat, m_1 < m ∧ Inv m_1 (v_1 + (1 : Int)) g7))))
  (InI64 (v_1 + (1 : Int)) ∧ (∃ m_1 : Nat, m_1 < m ∧ Inv m_1 (v_1 + (1 : Int)) g6)))
  (∀ g9 : G, Ex g5 g9 →
  R (.bool true) g9)) → J_1 g4) →
  ifB (!eqI x3 (0 : Int))
  (∀ g10 : G, Ex g3 g10 →
  R (.bool false) g10)
  (ifB (!eqI x3_1 (0 : Int))
  (∀ g11 : G, Ex g3 g11 →
  R (.bool false) g11)
  (ifB (!eqI x0_1 x0_2)
  (∀ g12 : G, Ex g3 g12 →
  R (.bool false) g12)
  (ifB (!eqI x1_1 x1_2)
  (∀ g13 : G, Ex g3 g13 →
  R (.bool false) g13)
  (ifB (!eqI ((x2l : Nat) : Int) ((x2l_1 : Nat) : Int))
  (∀ g14 : G, Ex g3 g14 →
  R (.bool false) g14)
  (J_1 g3)))))))) → J g1) →
  ifB (!x0)
  (∀ g15 : G, Ex g g15 →
  R (.bool ((x0 == y0) && ((eqI x1 y1) && true))) g15)
  (ifB (!y0)
  (∀ g16 : G, Ex g g16 →
  R (.bool ((x0 == y0) && ((eqI x1 y1) && true))) g16)
  (∀ g17 : G, Ex g g17 →
  J g17))
theorem F45_eq (a0a : Option Addr) (a0l : Nat) (a0c : Nat) (a1 : Int) (a2 : Int) (b0a : Option Addr) (b0l : Nat) (b0c : Nat) (b1 : Int) (b2 : Int) (x0 : Bool) (x1 : Int) (y0 : Bool) (y1 : Int) (depth : Int) (g : G) (R : Value → G → Prop) : fnG cfg45 94 [.tmp 10] c45 an45 [(.agg ⟨[(.slice a0a a0l a0c), (.int .i64 a1), (.int .i64 a2)]⟩), (.agg ⟨[(.slice b0a b0l b0c), (.int .i64 b1), (.int .i64 b2)]⟩), (.agg ⟨[(.bool x0), (.int .i64 x1)]⟩), (.agg ⟨[(.bool y0), (.int .i64 y1)]⟩), (.int .i64 depth)] g nobody R = F45 a0a a0l a0c a1 a2 b0a b0l b0c b1 b2 x0 x1 y0 y1 depth g R := by kernel_rfl
theorem call45 (a0a : Option Addr) (a0l : Nat) (a0c : Nat) (a1 : Int) (a2 : Int) (b0a : Option Addr) (b0l : Nat) (b0c : Nat) (b1 : Int) (b2 : Int) (x0 : Bool) (x1 : Int) (y0 : Bool) (y1 : Int) (depth : Int) (g : G) (R : Value → G → Prop) (hF : F45 a0a a0l a0c a1 a2 b0a b0l b0c b1 b2 x0 x1 y0 y1 depth g R) : CallsG Try.prog 45 #[(.agg ⟨[(.slice a0a a0l a0c), (.int .i64 a1), (.int .i64 a2)]⟩), (.agg ⟨[(.slice b0a b0l b0c), (.int .i64 b1), (.int .i64 b2)]⟩), (.agg ⟨[(.bool x0), (.int .i64 x1)]⟩), (.agg ⟨[(.bool y0), (.int .i64 y1)]⟩), (.int .i64 depth)] g nobody R :=
  fn_soundG (c := cfg45) TTok FNSok mixed Try.func45 (show Try.f45.body = some c45 by kernel_rfl) (show Try.f45.ntmps = 94 by kernel_rfl) (show Try.f45.results.toList = [.tmp 10] by kernel_rfl) rfl ((F45_eq a0a a0l a0c a1 a2 b0a b0l b0c b1 b2 x0 x1 y0 y1 depth g R).mpr hF)

/- 46 pilaster/collect.Room -/
noncomputable def c46 : Code := match Try.f46.body with
  | some c => c
  | none => .skip
noncomputable def cfg46 : Cfg := ⟨Try.prog, TT, FNS, [3, 6], [(3, 3), (6, 6), (30, 3), (32, 3), (37, 3), (40, 3)], [], TCH, false, false⟩
def an46 : AnnG := (.seq .leaf (.seq (.seq .leaf (.seq .leaf (.cond (.seq .leaf .leaf) .leaf))) (.join ⟨[], [(6, 6, 0)], [(6, [(.sl), (.int .i64), (.int .i64)])]⟩ (.seq .leaf (.cond (.seq .leaf .leaf) .leaf)) (.seq (.seq .leaf (.cond (.seq .leaf (.seq (.treeP false [6] 3 (.quiet 0 (.quiet 1 (.eff 2 .fin .fin)))) .leaf)) .leaf)) (.seq .leaf (.seq (.seq (.tree 12 (.quiet 0 (.quiet 1 (.quiet 2 (.quiet 3 (.quiet 4 (.quiet 5 (.quiet 6 (.quiet 7 (.quiet 8 (.quiet 9 (.quiet 10 (.quiet 11 .fin))))))))))))) (.cond (.seq .leaf .leaf) .leaf)) (.seq .leaf .leaf)))))))
def F46 (h0a : Option Addr) (h0l : Nat) (h0c : Nat) (h1 : Int) (h2 : Int) (rootsa : Option Addr) (rootsl : Nat) (rootsc : Nat) (need : Int) (g : G) (R : Value → G → Prop) : Prop :=
  ∀ g1 : G, Ex g g1 →
  (CallsP Try.prog 83 #[(.agg ⟨[(.slice h0a h0l h0c), (.int .i64 h1), (.int .i64 h2)]⟩), (.slice rootsa rootsl rootsc)] g1 fun v g2 =>
  ∃ x0 : Option Nat, ∃ x1 : Int, v = (.tuple ⟨[(.map x0), (.int .i64 x1)]⟩) ∧ ifB (!eqI x1 (0 : Int))
  (∀ g3 : G, Ex g2 g3 →
  R (.tuple ⟨[(.agg ⟨[(.slice none 0 0), (.int .i64 (0 : Int)), (.int .i64 (0 : Int))]⟩), (.slice none 0 0), (.int .i64 x1)]⟩) g3)
  (∀ J : Option Addr → Nat → Nat → Int → Int → G → Prop,
  (∀ x0a : Option Addr, ∀ x0l : Nat, ∀ x0c : Nat, ∀ x1_1 : Int, ∀ x2 : Int, ∀ g4 : G, (InI64 (h2 - h1) ∧ ifB (leI need (h2 - h1))
  ((CallsP Try.prog 68 #[(.slice h0a h0l h0c)] g4 fun v g5 =>
  ∃ xa : Option Addr, ∃ xl : Nat, ∃ xc : Nat, v = (.slice xa xl xc) ∧ ∀ g6 : G, Ex g5 g6 →
  ∀ g7 : G, Ex g6 g7 →
  (CallsP Try.prog 68 #[(.slice rootsa rootsl rootsc)] g7 fun v g8 =>
  ∃ xa_1 : Option Addr, ∃ xl_1 : Nat, ∃ xc_1 : Nat, v = (.slice xa_1 xl_1 xc_1) ∧ ∀ g9 : G, Ex g8 g9 →
  R (.tuple ⟨[(.agg ⟨[(.slice xa xl xc), (.int .i64 h1), (.int .i64 h2)]⟩), (.slice xa_1 xl_1 xc_1), (.int .i64 (0 : Int))]⟩) g9)))
  ((CallsP Try.prog 84 #[(.agg ⟨[(.slice h0a h0l h0c), (.int .i64 h1), (.int .i64 h2)]⟩), (.slice rootsa rootsl rootsc)] g4 fun v g10 =>
  ∃ x0_1 : Option Addr, ∃ x1a : Option Addr, ∃ x1l : Nat, ∃ x1c : Nat, v = (.tuple ⟨[(.pointer x0_1), (.slice x1a x1l x1c)]⟩) ∧ ∀ g11 : G, Ex g10 g11 →
  derefP x0_1 fun ad => ∃ x : Int, g11.w.cell? (Addr.add (Addr.add ad 3) 2) = some (.int .i64 x) ∧ derefP x0_1 fun ad_1 => ∃ x_1 : Int, g11.w.cell? (Addr.add (Addr.add ad_1 3) 1) = some (.int .i64 x_1) ∧ InI64 (x - x_1) ∧ ifB (ltI (x - x_1) need)
  (∀ g12 : G, Ex g11 g12 →
  R (.tuple ⟨[(.agg ⟨[(.slice none 0 0), (.int .i64 (0 : Int)), (.int .i64 (0 : Int))]⟩), (.slice none 0 0), (.int .i64 (25 : Int))]⟩) g12)
  (derefP x0_1 fun ad_2 => ∃ x0a_1 : Option Addr, ∃ x0l_1 : Nat, ∃ x0c_1 : Nat, ∃ x1_2 : Int, ∃ x2_1 : Int, g11.w.cell? (Addr.add ad_2 3) = some (.slice x0a_1 x0l_1 x0c_1) ∧ g11.w.cell? (Addr.add (Addr.add ad_2 3) 1) = some (.int .i64 x1_2) ∧ g11.w.cell? (Addr.add (Addr.add ad_2 3) 2) = some (.int .i64 x2_1) ∧ ∀ g13 : G, Ex g11 g13 →
  R (.tuple ⟨[(.agg ⟨[(.slice x0a_1 x0l_1 x0c_1), (.int .i64 x1_2), (.int .i64 x2_1)]⟩), (.slice x1a x1l x1c), (.int .i64 (0 : Int))]⟩) g13)))) → J x0a x0l x0c x1_1 x2 g4) →
  ifB (ltI need (0 : Int))
  (∀ g14 : G, Ex g2 g14 →
  R (.tuple ⟨[(.agg ⟨[(.slice none 0 0), (.int .i64 (0 : Int)), (.int .i64 (0 : Int))]⟩), (.slice none 0 0), (.int .i64 (2 : Int))]⟩) g14)
  (ifB (ltI (65536 : Int) need)
  (∀ g15 : G, Ex g2 g15 →
  R (.tuple ⟨[(.agg ⟨[(.slice none 0 0), (.int .i64 (0 : Int)), (.int .i64 (0 : Int))]⟩), (.slice none 0 0), (.int .i64 (2 : Int))]⟩) g15)
  (J none 0 0 (0 : Int) (0 : Int) g2))))
theorem F46_eq (h0a : Option Addr) (h0l : Nat) (h0c : Nat) (h1 : Int) (h2 : Int) (rootsa : Option Addr) (rootsl : Nat) (rootsc : Nat) (need : Int) (g : G) (R : Value → G → Prop) : fnG cfg46 69 [.cell 6 24, .tmp 7, .tmp 8] c46 an46 [(.agg ⟨[(.slice h0a h0l h0c), (.int .i64 h1), (.int .i64 h2)]⟩), (.slice rootsa rootsl rootsc), (.int .i64 need)] g nobody R = F46 h0a h0l h0c h1 h2 rootsa rootsl rootsc need g R := by kernel_rfl
theorem call46 (h0a : Option Addr) (h0l : Nat) (h0c : Nat) (h1 : Int) (h2 : Int) (rootsa : Option Addr) (rootsl : Nat) (rootsc : Nat) (need : Int) (g : G) (R : Value → G → Prop) (hF : F46 h0a h0l h0c h1 h2 rootsa rootsl rootsc need g R) : CallsG Try.prog 46 #[(.agg ⟨[(.slice h0a h0l h0c), (.int .i64 h1), (.int .i64 h2)]⟩), (.slice rootsa rootsl rootsc), (.int .i64 need)] g nobody R :=
  fn_soundG (c := cfg46) TTok FNSok mixed Try.func46 (show Try.f46.body = some c46 by kernel_rfl) (show Try.f46.ntmps = 69 by kernel_rfl) (show Try.f46.results.toList = [.cell 6 24, .tmp 7, .tmp 8] by kernel_rfl) rfl ((F46_eq h0a h0l h0c h1 h2 rootsa rootsl rootsc need g R).mpr hF)

/- 47 pilaster/pilasterref50.Fault -/
noncomputable def c47 : Code := match Try.f47.body with
  | some c => c
  | none => .skip
noncomputable def cfg47 : Cfg := ⟨Try.prog, TT, FNS, [2, 7], [(2, 2), (7, 7), (26, 7), (30, 7), (36, 7), (40, 7), (44, 7)], [], TCH, false, false⟩
def an47 : AnnG := (.seq .leaf (.seq (.seq .leaf (.cond (.seq .leaf .leaf) .leaf)) (.seq (.seq .leaf (.cond (.seq .leaf .leaf) .leaf)) (.seq .leaf (.seq (.seq .leaf (.blk (.loop ⟨[(6, .int .i64)], [], []⟩ (.seq (.seq .leaf (.cond .leaf .leaf)) (.join ⟨[], [], []⟩ (.blk (.seq .leaf (.seq .leaf (.cond (.seq .leaf .leaf) .leaf)))) .leaf))))) (.seq .leaf .leaf))))))
def F47 (h0a : Option Addr) (h0l : Nat) (h0c : Nat) (h1 : Int) (h2 : Int) (la : Option Addr) (ll : Nat) (lc : Nat) (g : G) (R : Value → G → Prop) : Prop :=
  ∀ g1 : G, Ex g g1 →
  (CallsP Try.prog 23 #[(.agg ⟨[(.slice h0a h0l h0c), (.int .i64 h1), (.int .i64 h2)]⟩)] g1 fun v g2 =>
  ∃ x : Bool, v = (.bool x) ∧ ifB (!x)
  (∀ g3 : G, Ex g2 g3 →
  R (.int .i64 (1 : Int)) g3)
  (ifB (ltI (65536 : Int) ((ll : Nat) : Int))
  (∀ g4 : G, Ex g2 g4 →
  R (.int .i64 (5 : Int)) g4)
  ((CallsP Try.prog 36 #[(.agg ⟨[(.slice h0a h0l h0c), (.int .i64 h1), (.int .i64 h2)]⟩)] g2 fun v g5 =>
  ∃ blocksa : Option Addr, ∃ blocksl : Nat, ∃ blocksc : Nat, v = (.slice blocksa blocksl blocksc) ∧ ∃ Inv : Nat → Int → G → Prop, ((∃ m0 : Nat, Inv m0 (0 : Int) g5)) ∧
  ∀ m : Nat, ∀ i : Int, ∀ g6 : G, Le g5 g6 → Inv m i g6 →
  ifB (ltI i ((ll : Nat) : Int))
  (∀ J : G → Prop,
  (∀ g7 : G, (InI64 (i + (1 : Int)) ∧ (∃ m_1 : Nat, m_1 < m ∧ Inv m_1 (i + (1 : Int)) g7)) → J g7) →
  (0 ≤ i ∧ i < ((ll : Nat) : Int)) ∧ derefP la fun ad => ∃ x0 : Bool, ∃ x1 : Int, g6.w.cell? (Addr.add ad (Int.toNat i * 2)) = some (.bool x0) ∧ g6.w.cell? (Addr.add (Addr.add ad (Int.toNat i * 2)) 1) = some (.int .i64 x1) ∧ ifB x0
  (∀ g8 : G, Ex g6 g8 →
  (CallsP Try.prog 81 #[(.slice blocksa blocksl blocksc), (.int .i64 x1)] g8 fun v g9 =>
  ∃ x_1 : Bool, v = (.bool x_1) ∧ ifB (!x_1)
  (∀ g10 : G, Ex g9 g10 →
  R (.int .i64 (2 : Int)) g10)
  (ifB (!x0)
  (ifB (ltI (4503599627370496 : Int) x1)
  (∀ g11 : G, Ex g9 g11 →
  R (.int .i64 (2 : Int)) g11)
  (ifB (ltI x1 (-4503599627370496 : Int))
  (∀ g12 : G, Ex g9 g12 →
  R (.int .i64 (2 : Int)) g12)
  (J g9)))
  (J g9))))
  (ifB (!x0)
  (ifB (ltI (4503599627370496 : Int) x1)
  (∀ g13 : G, Ex g6 g13 →
  R (.int .i64 (2 : Int)) g13)
  (ifB (ltI x1 (-4503599627370496 : Int))
  (∀ g14 : G, Ex g6 g14 →
  R (.int .i64 (2 : Int)) g14)
  (∀ g15 : G, Ex g6 g15 →
  J g15)))
  (∀ g16 : G, Ex g6 g16 →
  J g16)))
  (∀ g17 : G, Ex g6 g17 →
  R (.int .i64 (0 : Int)) g17)))))
theorem F47_eq (h0a : Option Addr) (h0l : Nat) (h0c : Nat) (h1 : Int) (h2 : Int) (la : Option Addr) (ll : Nat) (lc : Nat) (g : G) (R : Value → G → Prop) : fnG cfg47 50 [.tmp 4] c47 an47 [(.agg ⟨[(.slice h0a h0l h0c), (.int .i64 h1), (.int .i64 h2)]⟩), (.slice la ll lc)] g nobody R = F47 h0a h0l h0c h1 h2 la ll lc g R := by kernel_rfl
theorem call47 (h0a : Option Addr) (h0l : Nat) (h0c : Nat) (h1 : Int) (h2 : Int) (la : Option Addr) (ll : Nat) (lc : Nat) (g : G) (R : Value → G → Prop) (hF : F47 h0a h0l h0c h1 h2 la ll lc g R) : CallsG Try.prog 47 #[(.agg ⟨[(.slice h0a h0l h0c), (.int .i64 h1), (.int .i64 h2)]⟩), (.slice la ll lc)] g nobody R :=
  fn_soundG (c := cfg47) TTok FNSok mixed Try.func47 (show Try.f47.body = some c47 by kernel_rfl) (show Try.f47.ntmps = 50 by kernel_rfl) (show Try.f47.results.toList = [.tmp 4] by kernel_rfl) rfl ((F47_eq h0a h0l h0c h1 h2 la ll lc g R).mpr hF)

/- 48 pilaster/pilasterref50.Live -/
noncomputable def c48 : Code := match Try.f48.body with
  | some c => c
  | none => .skip
noncomputable def cfg48 : Cfg := ⟨Try.prog, TT, FNS, [2], [(2, 2)], [], TCH, false, false⟩
def an48 : AnnG := (.seq .leaf (.seq .leaf (.seq .leaf (.seq (.seq .leaf (.blk (.loop ⟨[(6, .int .i64), (7, .int .i64)], [], []⟩ (.seq (.seq .leaf (.cond .leaf .leaf)) (.seq (.blk (.seq (.tree 12 (.quiet 0 (.quiet 1 (.quiet 2 (.quiet 3 (.quiet 4 (.eff 5 (.quiet 6 (.quiet 7 (.quiet 8 (.quiet 9 (.quiet 10 (.quiet 11 .fin)))))) .fin))))))) .leaf)) .leaf))))) (.seq .leaf .leaf)))))
def F48 (h0a : Option Addr) (h0l : Nat) (h0c : Nat) (h1 : Int) (h2 : Int) (rootsa : Option Addr) (rootsl : Nat) (rootsc : Nat) (g : G) (R : Value → G → Prop) : Prop :=
  ∀ g1 : G, Ex g g1 →
  (CallsP Try.prog 85 #[(.agg ⟨[(.slice h0a h0l h0c), (.int .i64 h1), (.int .i64 h2)]⟩), (.slice rootsa rootsl rootsc)] g1 fun v g2 =>
  ∃ la : Option Addr, ∃ ll : Nat, ∃ lc : Nat, v = (.slice la ll lc) ∧ ∃ Inv : Nat → Int → Int → G → Prop, ((∃ m0 : Nat, Inv m0 (0 : Int) (0 : Int) g2)) ∧
  ∀ m : Nat, ∀ n : Int, ∀ i : Int, ∀ g3 : G, Le g2 g3 → Inv m n i g3 →
  ifB (ltI i ((ll : Nat) : Int))
  (∀ g4 : G, Ex g3 g4 →
  (0 ≤ i ∧ i < ((ll : Nat) : Int)) ∧ derefP la fun ad => ∃ x : Int, g4.w.cell? (Addr.add ad (Int.toNat i * 1)) = some (.int .i64 x) ∧ (CallsP Try.prog 38 #[(.agg ⟨[(.slice h0a h0l h0c), (.int .i64 h1), (.int .i64 h2)]⟩), (.int .i64 x)] g4 fun v g5 =>
  ∃ x0 : Int, ∃ x1 : Int, ∃ x2a : Option Addr, ∃ x2l : Nat, ∃ x2c : Nat, v = (.tuple ⟨[(.int .i64 x0), (.int .i64 x1), (.slice x2a x2l x2c)]⟩) ∧ InI64 (n + (3 : Int)) ∧ InI64 ((n + (3 : Int)) + ((x2l : Nat) : Int)) ∧ InI64 (i + (1 : Int)) ∧ (∃ m_1 : Nat, m_1 < m ∧ Inv m_1 ((n + (3 : Int)) + ((x2l : Nat) : Int)) (i + (1 : Int)) g5)))
  (∀ g6 : G, Ex g3 g6 →
  R (.int .i64 n) g6))
theorem F48_eq (h0a : Option Addr) (h0l : Nat) (h0c : Nat) (h1 : Int) (h2 : Int) (rootsa : Option Addr) (rootsl : Nat) (rootsc : Nat) (g : G) (R : Value → G → Prop) : fnG cfg48 36 [.tmp 4] c48 an48 [(.agg ⟨[(.slice h0a h0l h0c), (.int .i64 h1), (.int .i64 h2)]⟩), (.slice rootsa rootsl rootsc)] g nobody R = F48 h0a h0l h0c h1 h2 rootsa rootsl rootsc g R := by kernel_rfl
theorem call48 (h0a : Option Addr) (h0l : Nat) (h0c : Nat) (h1 : Int) (h2 : Int) (rootsa : Option Addr) (rootsl : Nat) (rootsc : Nat) (g : G) (R : Value → G → Prop) (hF : F48 h0a h0l h0c h1 h2 rootsa rootsl rootsc g R) : CallsG Try.prog 48 #[(.agg ⟨[(.slice h0a h0l h0c), (.int .i64 h1), (.int .i64 h2)]⟩), (.slice rootsa rootsl rootsc)] g nobody R :=
  fn_soundG (c := cfg48) TTok FNSok mixed Try.func48 (show Try.f48.body = some c48 by kernel_rfl) (show Try.f48.ntmps = 36 by kernel_rfl) (show Try.f48.results.toList = [.tmp 4] by kernel_rfl) rfl ((F48_eq h0a h0l h0c h1 h2 rootsa rootsl rootsc g R).mpr hF)

/- 49 pilaster/pilasterref50.Collect -/
noncomputable def c49 : Code := match Try.f49.body with
  | some c => c
  | none => .skip
noncomputable def cfg49 : Cfg := ⟨Try.prog, TT, FNS, [2, 4, 13, 14], [(2, 2), (4, 4), (13, 13), (14, 14), (50, 2), (70, 14), (81, 14), (82, 14), (88, 14)], [], TCH, false, false⟩
def an49 : AnnG := (.seq .leaf (.seq .leaf (.seq .leaf (.seq .leaf (.seq (.seq .leaf (.blk (.loop ⟨[(7, .sl), (8, .int .i64), (9, .int .i64)], [], []⟩ (.seq (.seq .leaf (.cond .leaf .leaf)) (.seq (.blk (.seq (.tree 12 (.quiet 0 (.quiet 1 (.quiet 2 (.quiet 3 (.quiet 4 (.eff 5 (.quiet 6 (.quiet 7 (.quiet 8 (.quiet 9 (.quiet 10 (.quiet 11 .fin)))))) .fin))))))) (.seq .leaf .leaf))) .leaf))))) (.seq .leaf (.seq .leaf (.seq (.seq .leaf (.blk (.loop ⟨[(15, .int .i64)], [(14, 14, 0)], [(14, [(.sl), (.int .i64), (.int .i64)])]⟩ (.seq (.seq .leaf (.cond .leaf .leaf)) (.seq (.blk (.seq (.tree 12 (.quiet 0 (.quiet 1 (.quiet 2 (.quiet 3 (.quiet 4 (.eff 5 (.quiet 6 (.quiet 7 (.quiet 8 (.quiet 9 (.quiet 10 (.quiet 11 .fin)))))) .fin))))))) (.seq .leaf (.treeP false [14] 5 (.quiet 0 (.quiet 2 (.quiet 3 (.eff 1 (.eff 4 .fin .fin) (.eff 4 (.eff 1 .fin .fin) .fin))))))))) .leaf))))) (.seq (.treeP false [4] 4 (.quiet 0 (.quiet 1 (.quiet 2 (.eff 3 .fin .fin))))) .leaf)))))))))
def F49 (h0a : Option Addr) (h0l : Nat) (h0c : Nat) (h1 : Int) (h2 : Int) (rootsa : Option Addr) (rootsl : Nat) (rootsc : Nat) (g : G) (R : Value → G → Prop) : Prop :=
  ∀ g1 : G, Ex g g1 →
  (CallsP Try.prog 85 #[(.agg ⟨[(.slice h0a h0l h0c), (.int .i64 h1), (.int .i64 h2)]⟩), (.slice rootsa rootsl rootsc)] g1 fun v g2 =>
  ∃ la : Option Addr, ∃ ll : Nat, ∃ lc : Nat, v = (.slice la ll lc) ∧ ∃ Inv : Nat → Option Addr → Nat → Nat → Int → Int → G → Prop, ((∃ m0 : Nat, Inv m0 none 0 0 (0 : Int) (0 : Int) g2)) ∧
  ∀ m : Nat, ∀ ata : Option Addr, ∀ atl : Nat, ∀ atc : Nat, ∀ n : Int, ∀ i : Int, ∀ g3 : G, Le g2 g3 → Inv m ata atl atc n i g3 →
  ifB (ltI i ((ll : Nat) : Int))
  (∀ g4 : G, Ex g3 g4 →
  (0 ≤ i ∧ i < ((ll : Nat) : Int)) ∧ derefP la fun ad => ∃ x : Int, g4.w.cell? (Addr.add ad (Int.toNat i * 1)) = some (.int .i64 x) ∧ (CallsP Try.prog 38 #[(.agg ⟨[(.slice h0a h0l h0c), (.int .i64 h1), (.int .i64 h2)]⟩), (.int .i64 x)] g4 fun v g5 =>
  ∃ x0 : Int, ∃ x1 : Int, ∃ x2a : Option Addr, ∃ x2l : Nat, ∃ x2c : Nat, v = (.tuple ⟨[(.int .i64 x0), (.int .i64 x1), (.slice x2a x2l x2c)]⟩) ∧ ∀ g6 : G, NewL g5 g6 3 [(.int .i64 n)] →
  ∃ ata_1 : Option Addr, ∃ atl_1 : Nat, ∃ atc_1 : Nat, ∃ wo1 : World, Sem.run Try.prog (Builtin.append_ #[55, 55] 55 #[(.slice ata atl atc), (.slice (some ⟨g5.w.heap.size, 0, none⟩) 1 1)]) g6.w = .ok (.slice ata_1 atl_1 atc_1) wo1 ∧ ∃ g7 : G, g7.w = wo1 ∧ Stp g.w.heap.size nobody g6 g7 ∧ InI64 (n + (3 : Int)) ∧ InI64 ((n + (3 : Int)) + ((x2l : Nat) : Int)) ∧ InI64 (i + (1 : Int)) ∧ (∃ m_1 : Nat, m_1 < m ∧ Inv m_1 ata_1 atl_1 atc_1 ((n + (3 : Int)) + ((x2l : Nat) : Int)) (i + (1 : Int)) g7)))
  (∀ g8 : G, Ex g3 g8 →
  ∃ Inv_1 : Nat → Int → Option Addr → Nat → Nat → Int → Int → G → Prop, (∀ g9 : G, Ex g8 g9 →
  (∃ m0 : Nat, Inv_1 m0 (0 : Int) none 0 0 n h2 g9)) ∧
  ∀ m_2 : Nat, ∀ i_1 : Int, ∀ out0a : Option Addr, ∀ out0l : Nat, ∀ out0c : Nat, ∀ out1 : Int, ∀ out2 : Int, ∀ g10 : G, Le g8 g10 → Inv_1 m_2 i_1 out0a out0l out0c out1 out2 g10 →
  ifB (ltI i_1 ((ll : Nat) : Int))
  (∀ g11 : G, Ex g10 g11 →
  (0 ≤ i_1 ∧ i_1 < ((ll : Nat) : Int)) ∧ derefP la fun ad_1 => ∃ x_1 : Int, g11.w.cell? (Addr.add ad_1 (Int.toNat i_1 * 1)) = some (.int .i64 x_1) ∧ (CallsP Try.prog 38 #[(.agg ⟨[(.slice h0a h0l h0c), (.int .i64 h1), (.int .i64 h2)]⟩), (.int .i64 x_1)] g11 fun v g12 =>
  ∃ x0_1 : Int, ∃ x1_1 : Int, ∃ x2a_1 : Option Addr, ∃ x2l_1 : Nat, ∃ x2c_1 : Nat, v = (.tuple ⟨[(.int .i64 x0_1), (.int .i64 x1_1), (.slice x2a_1 x2l_1 x2c_1)]⟩) ∧ ∀ g13 : G, NewL g12 g13 41 [(.bool false), (.int .i64 x0_1), (.bool false), (.int .i64 x1_1), (.bool false), (.int .i64 ((x2l_1 : Nat) : Int))] →
  ∃ xa : Option Addr, ∃ xl : Nat, ∃ xc : Nat, ∃ wo2 : World, Sem.run Try.prog (Builtin.append_ #[22, 22] 22 #[(.slice out0a out0l out0c), (.slice (some ⟨g12.w.heap.size, 0, none⟩) 3 3)]) g13.w = .ok (.slice xa xl xc) wo2 ∧ ∃ g14 : G, g14.w = wo2 ∧ Stp g.w.heap.size nobody g13 g14 ∧ ∀ g15 : G, Ex g14 g15 →
  Rep 1 (∀ g16 : G, Ex g15 g16 →
  (CallsP Try.prog 86 #[(.agg ⟨[(.slice la ll lc), (.slice ata atl atc)]⟩), (.slice x2a_1 x2l_1 x2c_1)] g16 fun v g17 =>
  ∃ xa_1 : Option Addr, ∃ xl_1 : Nat, ∃ xc_1 : Nat, v = (.slice xa_1 xl_1 xc_1) ∧ ∃ xa_2 : Option Addr, ∃ xl_2 : Nat, ∃ xc_2 : Nat, ∃ wo3 : World, Sem.run Try.prog (Builtin.append_ #[22, 22] 22 #[(.slice xa xl xc), (.slice xa_1 xl_1 xc_1)]) g17.w = .ok (.slice xa_2 xl_2 xc_2) wo3 ∧ ∃ g18 : G, g18.w = wo3 ∧ Stp g.w.heap.size nobody g17 g18 ∧ InI64 (i_1 + (1 : Int)) ∧ ∀ g19 : G, Ex g18 g19 →
  (∃ m_3 : Nat, m_3 < m_2 ∧ Inv_1 m_3 (i_1 + (1 : Int)) xa_2 xl_2 xc_2 out1 out2 g19)))))
  (∀ g24 : G, Ex g10 g24 →
  ∀ g25 : G, Ex g24 g25 →
  (CallsP Try.prog 86 #[(.agg ⟨[(.slice la ll lc), (.slice ata atl atc)]⟩), (.slice rootsa rootsl rootsc)] g25 fun v g26 =>
  ∃ xa_5 : Option Addr, ∃ xl_5 : Nat, ∃ xc_5 : Nat, v = (.slice xa_5 xl_5 xc_5) ∧ ∀ g27 : G, Ex g26 g27 →
  R (.tuple ⟨[(.agg ⟨[(.slice out0a out0l out0c), (.int .i64 out1), (.int .i64 out2)]⟩), (.slice xa_5 xl_5 xc_5)]⟩) g27))))
theorem F49_eq (h0a : Option Addr) (h0l : Nat) (h0c : Nat) (h1 : Int) (h2 : Int) (rootsa : Option Addr) (rootsl : Nat) (rootsc : Nat) (g : G) (R : Value → G → Prop) : fnG cfg49 93 [.cell 4 24, .tmp 5] c49 an49 [(.agg ⟨[(.slice h0a h0l h0c), (.int .i64 h1), (.int .i64 h2)]⟩), (.slice rootsa rootsl rootsc)] g nobody R = F49 h0a h0l h0c h1 h2 rootsa rootsl rootsc g R := by kernel_rfl
theorem call49 (h0a : Option Addr) (h0l : Nat) (h0c : Nat) (h1 : Int) (h2 : Int) (rootsa : Option Addr) (rootsl : Nat) (rootsc : Nat) (g : G) (R : Value → G → Prop) (hF : F49 h0a h0l h0c h1 h2 rootsa rootsl rootsc g R) : CallsG Try.prog 49 #[(.agg ⟨[(.slice h0a h0l h0c), (.int .i64 h1), (.int .i64 h2)]⟩), (.slice rootsa rootsl rootsc)] g nobody R :=
  fn_soundG (c := cfg49) TTok FNSok mixed Try.func49 (show Try.f49.body = some c49 by kernel_rfl) (show Try.f49.ntmps = 93 by kernel_rfl) (show Try.f49.results.toList = [.cell 4 24, .tmp 5] by kernel_rfl) rfl ((F49_eq h0a h0l h0c h1 h2 rootsa rootsl rootsc g R).mpr hF)

/- 50 pilaster/pilasterlaw49.nodes -/
noncomputable def c50 : Code := match Try.f50.body with
  | some c => c
  | none => .skip
noncomputable def cfg50 : Cfg := ⟨Try.prog, TT, FNS, [3, 9], [(3, 3), (9, 9), (13, 3), (19, 3), (24, 3), (31, 3), (37, 3)], [], TCH, false, false⟩
def an50 : AnnG := (.seq .leaf (.seq (.join ⟨[(35, .bool)], [], []⟩ .leaf (.cond (.seq .leaf .leaf) .leaf)) (.seq .leaf (.seq (.seq .leaf (.blk (.loop ⟨[(7, .int .i64), (40, .int .i64)], [], []⟩ (.seq .leaf (.seq (.cond .leaf .leaf) (.seq (.blk (.seq .leaf (.seq (.seq .leaf (.cond (.seq .leaf .leaf) .leaf)) .leaf))) .leaf)))))) (.seq .leaf .leaf)))))
def F50 (v0 : Int) (v1 : Int) (v2 : ByteArray) (v3a : Option Addr) (v3l : Nat) (v3c : Nat) (v4a : Option Addr) (v4l : Nat) (v4c : Nat) (most : Int) (depth : Int) (g : G) (R : Value → G → Prop) : Prop :=
  ∀ J : Bool → G → Prop,
  (∀ v_1 : Bool, ∀ g1 : G, (ifB v_1
  (∀ g2 : G, Ex g1 g2 →
  R (.int .i64 most) g2)
  (∃ Inv : Nat → Int → Int → G → Prop, ((∃ m0 : Nat, Inv m0 (1 : Int) (0 : Int) g1)) ∧
  ∀ m : Nat, ∀ n : Int, ∀ v_2 : Int, ∀ g3 : G, Le g1 g3 → Inv m n v_2 g3 →
  ifB (ltI v_2 ((v4l : Nat) : Int))
  ((0 ≤ v_2 ∧ v_2 < ((v4l : Nat) : Int)) ∧ derefP v4a fun ad => ∃ x0 : Int, ∃ x1 : Int, ∃ x2 : ByteArray, ∃ x3a : Option Addr, ∃ x3l : Nat, ∃ x3c : Nat, ∃ x4a : Option Addr, ∃ x4l : Nat, ∃ x4c : Nat, g3.w.cell? (Addr.add ad (Int.toNat v_2 * 5)) = some (.int .i64 x0) ∧ g3.w.cell? (Addr.add (Addr.add ad (Int.toNat v_2 * 5)) 1) = some (.int .i64 x1) ∧ g3.w.cell? (Addr.add (Addr.add ad (Int.toNat v_2 * 5)) 2) = some (.string x2) ∧ g3.w.cell? (Addr.add (Addr.add ad (Int.toNat v_2 * 5)) 3) = some (.slice x3a x3l x3c) ∧ g3.w.cell? (Addr.add (Addr.add ad (Int.toNat v_2 * 5)) 4) = some (.slice x4a x4l x4c) ∧ ifB (leI most n)
  (∀ g4 : G, Ex g3 g4 →
  R (.int .i64 most) g4)
  (InI64 (most - n) ∧ InI64 (depth + (1 : Int)) ∧ ∀ g5 : G, Ex g3 g5 →
  (CallsP Try.prog 50 #[(.agg ⟨[(.int .i64 x0), (.int .i64 x1), (.string x2), (.slice x3a x3l x3c), (.slice x4a x4l x4c)]⟩), (.int .i64 (most - n)), (.int .i64 (depth + (1 : Int)))] g5 fun v g6 =>
  ∃ x : Int, v = (.int .i64 x) ∧ InI64 (n + x) ∧ InI64 (v_2 + (1 : Int)) ∧ (∃ m_1 : Nat, m_1 < m ∧ Inv m_1 (n + x) (v_2 + (1 : Int)) g6))))
  (∀ g7 : G, Ex g3 g7 →
  R (.int .i64 (minI n most)) g7))) → J v_1 g1) →
  ifB (ltI (250 : Int) depth)
  (∀ g8 : G, Ex g g8 →
  J true g8)
  (ifB (ltI (100 : Int) ((v3l : Nat) : Int))
  (∀ g9 : G, Ex g g9 →
  J true g9)
  (ifB (ltI (300 : Int) ((v2.size : Nat) : Int))
  (ifB (leI ((v2.size : Nat) : Int) (16384 : Int))
  (∀ g10 : G, Ex g g10 →
  J true g10)
  (∀ g11 : G, Ex g g11 →
  J (ltI (16484 : Int) ((v2.size : Nat) : Int)) g11))
  (∀ g12 : G, Ex g g12 →
  J (ltI (16484 : Int) ((v2.size : Nat) : Int)) g12)))
theorem F50_eq (v0 : Int) (v1 : Int) (v2 : ByteArray) (v3a : Option Addr) (v3l : Nat) (v3c : Nat) (v4a : Option Addr) (v4l : Nat) (v4c : Nat) (most : Int) (depth : Int) (g : G) (R : Value → G → Prop) : fnG cfg50 61 [.tmp 6] c50 an50 [(.agg ⟨[(.int .i64 v0), (.int .i64 v1), (.string v2), (.slice v3a v3l v3c), (.slice v4a v4l v4c)]⟩), (.int .i64 most), (.int .i64 depth)] g nobody R = F50 v0 v1 v2 v3a v3l v3c v4a v4l v4c most depth g R := by kernel_rfl
theorem call50 (v0 : Int) (v1 : Int) (v2 : ByteArray) (v3a : Option Addr) (v3l : Nat) (v3c : Nat) (v4a : Option Addr) (v4l : Nat) (v4c : Nat) (most : Int) (depth : Int) (g : G) (R : Value → G → Prop) (hF : F50 v0 v1 v2 v3a v3l v3c v4a v4l v4c most depth g R) : CallsG Try.prog 50 #[(.agg ⟨[(.int .i64 v0), (.int .i64 v1), (.string v2), (.slice v3a v3l v3c), (.slice v4a v4l v4c)]⟩), (.int .i64 most), (.int .i64 depth)] g nobody R :=
  fn_soundG (c := cfg50) TTok FNSok mixed Try.func50 (show Try.f50.body = some c50 by kernel_rfl) (show Try.f50.ntmps = 61 by kernel_rfl) (show Try.f50.results.toList = [.tmp 6] by kernel_rfl) rfl ((F50_eq v0 v1 v2 v3a v3l v3c v4a v4l v4c most depth g R).mpr hF)

/- 51 pilaster/pilasterlaw49.read -/
noncomputable def c51 : Code := match Try.f51.body with
  | some c => c
  | none => .skip
noncomputable def cfg51 : Cfg := ⟨Try.prog, TT, FNS, [3, 4, 6, 12, 16, 17], [(3, 3), (4, 4), (6, 6), (12, 12), (16, 16), (17, 17), (19, 4), (22, 4), (78, 12), (83, 12)], [], TCH, false, false⟩
def an51 : AnnG := (.seq .leaf (.seq (.seq .leaf (.cond (.seq .leaf .leaf) .leaf)) (.seq .leaf (.join ⟨[], [(6, 6, 0)], [(6, [(.int .i64), (.int .i64), (.str), (.sl), (.sl)])]⟩ (.seq .leaf (.cond (.seq .leaf .leaf) .leaf)) (.seq .leaf (.join ⟨[], [(6, 6, 0), (12, 12, 0)], [(6, [(.int .i64), (.int .i64), (.str), (.sl), (.sl)]), (12, [(.int .i64), (.int .i64), (.str), (.sl), (.sl)])]⟩ (.seq .leaf (.blk (.seq .leaf (.cond (.seq .leaf (.seq .leaf .leaf)) (.seq .leaf (.cond .leaf (.seq .leaf (.cond (.seq .leaf .leaf) .leaf)))))))) (.seq (.seq .leaf (.blk (.loop ⟨[(63, .int .i64)], [(6, 6, 0), (12, 12, 0)], [(6, [(.int .i64), (.int .i64), (.str), (.sl), (.sl)]), (12, [(.int .i64), (.int .i64), (.str), (.sl), (.sl)])]⟩ (.seq .leaf (.seq (.cond .leaf .leaf) (.seq (.blk (.seq .leaf (.seq .leaf (.seq (.seq .leaf (.cond (.seq .leaf .leaf) .leaf)) .leaf)))) .leaf)))))) (.seq .leaf .leaf))))))))
def F51 (h0a : Option Addr) (h0l : Nat) (h0c : Nat) (h1 : Int) (h2 : Int) (w0 : Bool) (w1 : Int) (depth : Int) (g : G) (R : Value → G → Prop) : Prop :=
  ifB (!w0)
  (∀ g1 : G, Ex g g1 →
  ∀ g2 : G, Ex g1 g2 →
  R (.tuple ⟨[(.agg ⟨[(.int .i64 (1 : Int)), (.int .i64 w1), (.string (bs [])), (.slice none 0 0), (.slice none 0 0)]⟩), (.bool true)]⟩) g2)
  (∀ g3 : G, Ex g g3 →
  (CallsP Try.prog 32 #[(.agg ⟨[(.slice h0a h0l h0c), (.int .i64 h1), (.int .i64 h2)]⟩), (.agg ⟨[(.bool w0), (.int .i64 w1)]⟩)] g3 fun v g4 =>
  ∃ x0 : Int, ∃ x1 : Int, ∃ x2a : Option Addr, ∃ x2l : Nat, ∃ x2c : Nat, ∃ x3 : Int, v = (.tuple ⟨[(.int .i64 x0), (.int .i64 x1), (.slice x2a x2l x2c), (.int .i64 x3)]⟩) ∧ ∀ J : Int → Int → ByteArray → Option Addr → Nat → Nat → Option Addr → Nat → Nat → G → Prop,
  (∀ x0_1 : Int, ∀ x1_1 : Int, ∀ x2 : ByteArray, ∀ x3a : Option Addr, ∀ x3l : Nat, ∀ x3c : Nat, ∀ x4a : Option Addr, ∀ x4l : Nat, ∀ x4c : Nat, ∀ g5 : G, (∀ J_1 : Int → Int → ByteArray → Option Addr → Nat → Nat → Option Addr → Nat → Nat → Int → Int → ByteArray → Option Addr → Nat → Nat → Option Addr → Nat → Nat → G → Prop,
  (∀ x0_2 : Int, ∀ x1_2 : Int, ∀ x2_1 : ByteArray, ∀ x3a_1 : Option Addr, ∀ x3l_1 : Nat, ∀ x3c_1 : Nat, ∀ x4a_1 : Option Addr, ∀ x4l_1 : Nat, ∀ x4c_1 : Nat, ∀ v0 : Int, ∀ v1 : Int, ∀ v2 : ByteArray, ∀ v3a : Option Addr, ∀ v3l : Nat, ∀ v3c : Nat, ∀ v4a : Option Addr, ∀ v4l : Nat, ∀ v4c : Nat, ∀ g6 : G, (∃ Inv : Nat → Int → Int → Int → ByteArray → Option Addr → Nat → Nat → Option Addr → Nat → Nat → Int → Int → ByteArray → Option Addr → Nat → Nat → Option Addr → Nat → Nat → G → Prop, ((∃ m0 : Nat, Inv m0 (0 : Int) x0_2 x1_2 x2_1 x3a_1 x3l_1 x3c_1 x4a_1 x4l_1 x4c_1 v0 v1 v2 v3a v3l v3c v4a v4l v4c g6)) ∧
  ∀ m : Nat, ∀ v_1 : Int, ∀ x0_3 : Int, ∀ x1_3 : Int, ∀ x2_2 : ByteArray, ∀ x3a_2 : Option Addr, ∀ x3l_2 : Nat, ∀ x3c_2 : Nat, ∀ x4a_2 : Option Addr, ∀ x4l_2 : Nat, ∀ x4c_2 : Nat, ∀ v0_1 : Int, ∀ v1_1 : Int, ∀ v2_1 : ByteArray, ∀ v3a_1 : Option Addr, ∀ v3l_1 : Nat, ∀ v3c_1 : Nat, ∀ v4a_1 : Option Addr, ∀ v4l_1 : Nat, ∀ v4c_1 : Nat, ∀ g7 : G, Le g6 g7 → Inv m v_1 x0_3 x1_3 x2_2 x3a_2 x3l_2 x3c_2 x4a_2 x4l_2 x4c_2 v0_1 v1_1 v2_1 v3a_1 v3l_1 v3c_1 v4a_1 v4l_1 v4c_1 g7 →
  ifB (ltI v_1 ((x2l : Nat) : Int))
  ((0 ≤ v_1 ∧ v_1 < ((x2l : Nat) : Int)) ∧ derefP x2a fun ad => ∃ x0_4 : Bool, ∃ x1_4 : Int, g7.w.cell? (Addr.add ad (Int.toNat v_1 * 2)) = some (.bool x0_4) ∧ g7.w.cell? (Addr.add (Addr.add ad (Int.toNat v_1 * 2)) 1) = some (.int .i64 x1_4) ∧ InI64 (depth + (1 : Int)) ∧ ∀ g8 : G, Ex g7 g8 →
  (CallsP Try.prog 51 #[(.agg ⟨[(.slice h0a h0l h0c), (.int .i64 h1), (.int .i64 h2)]⟩), (.agg ⟨[(.bool x0_4), (.int .i64 x1_4)]⟩), (.int .i64 (depth + (1 : Int)))] g8 fun v g9 =>
  ∃ x00 : Int, ∃ x01 : Int, ∃ x02 : ByteArray, ∃ x03a : Option Addr, ∃ x03l : Nat, ∃ x03c : Nat, ∃ x04a : Option Addr, ∃ x04l : Nat, ∃ x04c : Nat, ∃ x1_5 : Bool, v = (.tuple ⟨[(.agg ⟨[(.int .i64 x00), (.int .i64 x01), (.string x02), (.slice x03a x03l x03c), (.slice x04a x04l x04c)]⟩), (.bool x1_5)]⟩) ∧ ifB (!x1_5)
  (∀ g10 : G, Ex g9 g10 →
  ∀ g11 : G, Ex g10 g11 →
  R (.tuple ⟨[(.agg ⟨[(.int .i64 (0 : Int)), (.int .i64 (0 : Int)), (.string (bs [])), (.slice none 0 0), (.slice none 0 0)]⟩), (.bool false)]⟩) g11)
  (∀ g12 : G, Ex g9 g12 →
  ∀ g13 : G, NewL g12 g13 38 [(.int .i64 x00), (.int .i64 x01), (.string x02), (.slice x03a x03l x03c), (.slice x04a x04l x04c)] →
  ∃ xa : Option Addr, ∃ xl : Nat, ∃ xc : Nat, ∃ wo1 : World, Sem.run Try.prog (Builtin.append_ #[36, 36] 36 #[(.slice v4a_1 v4l_1 v4c_1), (.slice (some ⟨g12.w.heap.size, 0, none⟩) 1 1)]) g13.w = .ok (.slice xa xl xc) wo1 ∧ ∃ g14 : G, g14.w = wo1 ∧ Stp g.w.heap.size nobody g13 g14 ∧ InI64 (v_1 + (1 : Int)) ∧ ∀ g15 : G, Ex g14 g15 →
  (∃ m_1 : Nat, m_1 < m ∧ Inv m_1 (v_1 + (1 : Int)) x0_3 x1_3 x2_2 x3a_2 x3l_2 x3c_2 x4a_2 x4l_2 x4c_2 v0_1 v1_1 v2_1 v3a_1 v3l_1 v3c_1 xa xl xc g15))))
  (∀ g16 : G, Ex g7 g16 →
  R (.tuple ⟨[(.agg ⟨[(.int .i64 v0_1), (.int .i64 v1_1), (.string v2_1), (.slice v3a_1 v3l_1 v3c_1), (.slice v4a_1 v4l_1 v4c_1)]⟩), (.bool true)]⟩) g16)) → J_1 x0_2 x1_2 x2_1 x3a_1 x3l_1 x3c_1 x4a_1 x4l_1 x4c_1 v0 v1 v2 v3a v3l v3c v4a v4l v4c g6) →
  ifB (eqI x0 (4 : Int))
  (∀ g17 : G, Ex g5 g17 →
  (CallsP Try.prog 33 #[(.agg ⟨[(.slice h0a h0l h0c), (.int .i64 h1), (.int .i64 h2)]⟩), (.agg ⟨[(.bool w0), (.int .i64 w1)]⟩)] g17 fun v g18 =>
  ∃ x0_5 : ByteArray, ∃ x1_6 : Int, v = (.tuple ⟨[(.string x0_5), (.int .i64 x1_6)]⟩) ∧ ∀ g19 : G, Ex g18 g19 →
  R (.tuple ⟨[(.agg ⟨[(.int .i64 (2 : Int)), (.int .i64 (0 : Int)), (.string x0_5), (.slice none 0 0), (.slice none 0 0)]⟩), (.bool (eqI x1_6 (0 : Int)))]⟩) g19))
  (ifB (eqI x0 (2 : Int))
  (∀ g20 : G, Ex g5 g20 →
  ∀ g21 : G, Ex g20 g21 →
  J_1 x0_1 x1_1 x2 x3a x3l x3c x4a x4l x4c (4 : Int) x1 (bs []) none 0 0 none 0 0 g21)
  (ifB (eqI x0 (3 : Int))
  (∀ g22 : G, Ex g5 g22 →
  ∀ g23 : G, Ex g22 g23 →
  R (.tuple ⟨[(.agg ⟨[(.int .i64 (0 : Int)), (.int .i64 (0 : Int)), (.string (bs [])), (.slice none 0 0), (.slice none 0 0)]⟩), (.bool false)]⟩) g23)
  (∀ g24 : G, Ex g5 g24 →
  J_1 x0_1 x1_1 x2 x3a x3l x3c x4a x4l x4c (3 : Int) (0 : Int) (bs []) none 0 0 none 0 0 g24)))) → J x0_1 x1_1 x2 x3a x3l x3c x4a x4l x4c g5) →
  ifB (!eqI x3 (0 : Int))
  (∀ g25 : G, Ex g4 g25 →
  R (.tuple ⟨[(.agg ⟨[(.int .i64 (0 : Int)), (.int .i64 (0 : Int)), (.string (bs [])), (.slice none 0 0), (.slice none 0 0)]⟩), (.bool false)]⟩) g25)
  (ifB (ltI (250 : Int) depth)
  (∀ g26 : G, Ex g4 g26 →
  R (.tuple ⟨[(.agg ⟨[(.int .i64 (0 : Int)), (.int .i64 (0 : Int)), (.string (bs [])), (.slice none 0 0), (.slice none 0 0)]⟩), (.bool false)]⟩) g26)
  (J (0 : Int) (0 : Int) (bs []) none 0 0 none 0 0 g4))))
theorem F51_eq (h0a : Option Addr) (h0l : Nat) (h0c : Nat) (h1 : Int) (h2 : Int) (w0 : Bool) (w1 : Int) (depth : Int) (g : G) (R : Value → G → Prop) : fnG cfg51 86 [.cell 6 38, .tmp 7] c51 an51 [(.agg ⟨[(.slice h0a h0l h0c), (.int .i64 h1), (.int .i64 h2)]⟩), (.agg ⟨[(.bool w0), (.int .i64 w1)]⟩), (.int .i64 depth)] g nobody R = F51 h0a h0l h0c h1 h2 w0 w1 depth g R := by kernel_rfl
theorem call51 (h0a : Option Addr) (h0l : Nat) (h0c : Nat) (h1 : Int) (h2 : Int) (w0 : Bool) (w1 : Int) (depth : Int) (g : G) (R : Value → G → Prop) (hF : F51 h0a h0l h0c h1 h2 w0 w1 depth g R) : CallsG Try.prog 51 #[(.agg ⟨[(.slice h0a h0l h0c), (.int .i64 h1), (.int .i64 h2)]⟩), (.agg ⟨[(.bool w0), (.int .i64 w1)]⟩), (.int .i64 depth)] g nobody R :=
  fn_soundG (c := cfg51) TTok FNSok mixed Try.func51 (show Try.f51.body = some c51 by kernel_rfl) (show Try.f51.ntmps = 86 by kernel_rfl) (show Try.f51.results.toList = [.cell 6 38, .tmp 7] by kernel_rfl) rfl ((F51_eq h0a h0l h0c h1 h2 w0 w1 depth g R).mpr hF)

/- 52 pilaster/pilasterlaw49.same -/
noncomputable def c52 : Code := match Try.f52.body with
  | some c => c
  | none => .skip
noncomputable def cfg52 : Cfg := ⟨Try.prog, TT, FNS, [2, 3], [(2, 2), (3, 3), (5, 2), (7, 3), (11, 2), (13, 3), (18, 2), (20, 3), (25, 2), (27, 3), (32, 2), (34, 3)], [], TCH, false, false⟩
def an52 : AnnG := (.seq .leaf (.seq .leaf .leaf))
def F52 (a0 : Int) (a1 : Int) (a2 : ByteArray) (a3a : Option Addr) (a3l : Nat) (a3c : Nat) (a4a : Option Addr) (a4l : Nat) (a4c : Nat) (b0 : Int) (b1 : Int) (b2 : ByteArray) (b3a : Option Addr) (b3l : Nat) (b3c : Nat) (b4a : Option Addr) (b4l : Nat) (b4c : Nat) (g : G) (R : Value → G → Prop) : Prop :=
  ifB (eqI a0 b0)
  (ifB (eqI a1 b1)
  (ifB (strEq a2 b2)
  (∀ g1 : G, Ex g g1 →
  (CallsP Try.prog 87 #[(.slice a3a a3l a3c), (.slice b3a b3l b3c)] g1 fun v g2 =>
  ∃ x : Bool, v = (.bool x) ∧ ifB x
  ((CallsP Try.prog 88 #[(.slice a4a a4l a4c), (.slice b4a b4l b4c), (.func (.func 52) #[] #[])] g2 fun v g3 =>
  ∃ x_1 : Bool, v = (.bool x_1) ∧ ∀ g4 : G, Ex g3 g4 →
  R (.bool x_1) g4))
  (∀ g5 : G, Ex g2 g5 →
  R (.bool false) g5)))
  (∀ g6 : G, Ex g g6 →
  R (.bool false) g6))
  (∀ g7 : G, Ex g g7 →
  R (.bool false) g7))
  (∀ g8 : G, Ex g g8 →
  R (.bool false) g8)
theorem F52_eq (a0 : Int) (a1 : Int) (a2 : ByteArray) (a3a : Option Addr) (a3l : Nat) (a3c : Nat) (a4a : Option Addr) (a4l : Nat) (a4c : Nat) (b0 : Int) (b1 : Int) (b2 : ByteArray) (b3a : Option Addr) (b3l : Nat) (b3c : Nat) (b4a : Option Addr) (b4l : Nat) (b4c : Nat) (g : G) (R : Value → G → Prop) : fnG cfg52 38 [.tmp 4] c52 an52 [(.agg ⟨[(.int .i64 a0), (.int .i64 a1), (.string a2), (.slice a3a a3l a3c), (.slice a4a a4l a4c)]⟩), (.agg ⟨[(.int .i64 b0), (.int .i64 b1), (.string b2), (.slice b3a b3l b3c), (.slice b4a b4l b4c)]⟩)] g nobody R = F52 a0 a1 a2 a3a a3l a3c a4a a4l a4c b0 b1 b2 b3a b3l b3c b4a b4l b4c g R := by kernel_rfl
theorem call52 (a0 : Int) (a1 : Int) (a2 : ByteArray) (a3a : Option Addr) (a3l : Nat) (a3c : Nat) (a4a : Option Addr) (a4l : Nat) (a4c : Nat) (b0 : Int) (b1 : Int) (b2 : ByteArray) (b3a : Option Addr) (b3l : Nat) (b3c : Nat) (b4a : Option Addr) (b4l : Nat) (b4c : Nat) (g : G) (R : Value → G → Prop) (hF : F52 a0 a1 a2 a3a a3l a3c a4a a4l a4c b0 b1 b2 b3a b3l b3c b4a b4l b4c g R) : CallsG Try.prog 52 #[(.agg ⟨[(.int .i64 a0), (.int .i64 a1), (.string a2), (.slice a3a a3l a3c), (.slice a4a a4l a4c)]⟩), (.agg ⟨[(.int .i64 b0), (.int .i64 b1), (.string b2), (.slice b3a b3l b3c), (.slice b4a b4l b4c)]⟩)] g nobody R :=
  fn_soundG (c := cfg52) TTok FNSok mixed Try.func52 (show Try.f52.body = some c52 by kernel_rfl) (show Try.f52.ntmps = 38 by kernel_rfl) (show Try.f52.results.toList = [.tmp 4] by kernel_rfl) rfl ((F52_eq a0 a1 a2 a3a a3l a3c a4a a4l a4c b0 b1 b2 b3a b3l b3c b4a b4l b4c g R).mpr hF)

/- 53 pilaster/collect.Same -/
noncomputable def c53 : Code := match Try.f53.body with
  | some c => c
  | none => .skip
noncomputable def cfg53 : Cfg := ⟨Try.prog, TT, FNS, [4, 6, 18], [(4, 4), (6, 6), (18, 18), (69, 18), (70, 18), (72, 18), (73, 18), (76, 18), (77, 18), (80, 18), (81, 18), (83, 18), (84, 18), (89, 18), (90, 18), (97, 18), (98, 18), (115, 18), (116, 18), (122, 18), (123, 18), (128, 18), (129, 18), (132, 18), (133, 18), (135, 18), (136, 18), (138, 18), (139, 18), (141, 4), (143, 18), (144, 18), (148, 18), (149, 18), (153, 6), (155, 18), (156, 18), (160, 18), (161, 18)], [], TCH, false, false⟩
def an53 : AnnG := (.seq .leaf (.seq (.seq .leaf (.seq .leaf (.cond (.seq .leaf .leaf) .leaf))) (.seq (.seq .leaf (.seq .leaf (.cond (.seq .leaf .leaf) .leaf))) (.seq (.seq .leaf (.cond (.seq .leaf .leaf) .leaf)) (.seq .leaf (.seq .leaf (.seq .leaf (.seq .leaf (.seq (.blk (.loop ⟨[], [], []⟩ (.seq (.seq .leaf (.cond .leaf .leaf)) (.blk (.seq .leaf (.seq .leaf (.seq (.seq .leaf (.cond (.seq .leaf .leaf) .leaf)) (.seq (.seq .leaf (.cond (.seq (.seq .leaf (.cond (.seq .leaf .leaf) .leaf)) .leaf) .leaf)) (.seq .leaf (.seq .leaf (.seq (.join ⟨[(106, .bool)], [], []⟩ .leaf (.cond (.seq (.seq .leaf (.cond (.seq .leaf .leaf) .leaf)) .leaf) .leaf)) (.seq (.treeB 15 (.quiet 0 (.quiet 1 (.quiet 2 (.quiet 3 (.quiet 4 (.quiet 5 (.quiet 6 (.quiet 7 (.quiet 8 (.quiet 9 (.quiet 10 (.quiet 11 (.quiet 12 (.quiet 13 (.eff 14 .fin .fin)))))))))))))))) (.seq (.treeB 25 (.quiet 0 (.quiet 1 (.quiet 2 (.quiet 3 (.quiet 4 (.quiet 5 (.quiet 6 (.quiet 7 (.quiet 8 (.quiet 9 (.quiet 12 (.quiet 13 (.quiet 14 (.quiet 15 (.quiet 16 (.quiet 17 (.quiet 18 (.quiet 19 (.quiet 20 (.quiet 21 (.eff 10 (.quiet 11 (.eff 22 (.quiet 23 (.quiet 24 .fin)) .fin)) .fin)))))))))))))))))))))) (.seq (.seq (.treeB 4 (.quiet 0 (.quiet 1 (.quiet 2 (.quiet 3 .fin))))) (.cond (.seq .leaf .leaf) .leaf)) (.treeB 5 (.quiet 0 (.quiet 1 (.quiet 2 (.quiet 3 (.quiet 4 .fin)))))))))))))))))))) (.seq .leaf .leaf))))))))))
def F53 (a0a : Option Addr) (a0l : Nat) (a0c : Nat) (a1 : Int) (a2 : Int) (xa : Option Addr) (xl : Nat) (xc : Nat) (b0a : Option Addr) (b0l : Nat) (b0c : Nat) (b1 : Int) (b2 : Int) (ya : Option Addr) (yl : Nat) (yc : Nat) (g : G) (R : Value → G → Prop) : Prop :=
  ∀ g1 : G, Ex g g1 →
  (CallsP Try.prog 83 #[(.agg ⟨[(.slice a0a a0l a0c), (.int .i64 a1), (.int .i64 a2)]⟩), (.slice xa xl xc)] g1 fun v g2 =>
  ∃ x0 : Option Nat, ∃ x1 : Int, v = (.tuple ⟨[(.map x0), (.int .i64 x1)]⟩) ∧ ifB (!eqI x1 (0 : Int))
  (∀ g3 : G, Ex g2 g3 →
  R (.tuple ⟨[(.bool false), (.int .i64 x1)]⟩) g3)
  ((CallsP Try.prog 83 #[(.agg ⟨[(.slice b0a b0l b0c), (.int .i64 b1), (.int .i64 b2)]⟩), (.slice ya yl yc)] g2 fun v g4 =>
  ∃ x0_1 : Option Nat, ∃ x1_1 : Int, v = (.tuple ⟨[(.map x0_1), (.int .i64 x1_1)]⟩) ∧ ifB (!eqI x1_1 (0 : Int))
  (∀ g5 : G, Ex g4 g5 →
  R (.tuple ⟨[(.bool false), (.int .i64 x1_1)]⟩) g5)
  (ifB (!eqI ((xl : Nat) : Int) ((yl : Nat) : Int))
  (∀ g6 : G, Ex g4 g6 →
  R (.tuple ⟨[(.bool false), (.int .i64 (0 : Int))]⟩) g6)
  (∀ g7 : G, NewD g4 g7 122 [(.slice none 0 0)] →
  ∀ g8 : G, NewM g7 g8 →
  ∀ g9 : G, NewM g8 g9 →
  Enters Try.prog 89 ∧ (CallsP Try.prog 89 ((⟨[(.slice xa xl xc), (.slice ya yl yc)]⟩ : Array Value) ++ ⟨[(.pointer (some ⟨g4.w.heap.size, 0, none⟩))]⟩) g9 fun v g10 =>
  v = (.tuple ⟨[]⟩) ∧ ∃ Inv : Nat → G → Prop, ((∃ m0 : Nat, Inv m0 g10)) ∧
  ∀ m : Nat, ∀ g11 : G, Le g10 g11 → Inv m g11 →
  ∃ worka : Option Addr, ∃ workl : Nat, ∃ workc : Nat, g11.w.cell? ⟨g4.w.heap.size, 0, none⟩ = some (.slice worka workl workc) ∧ ifB (ltI (0 : Int) ((workl : Nat) : Int))
  (∃ worka_1 : Option Addr, ∃ workl_1 : Nat, ∃ workc_1 : Nat, g11.w.cell? ⟨g4.w.heap.size, 0, none⟩ = some (.slice worka_1 workl_1 workc_1) ∧ ∃ worka_2 : Option Addr, ∃ workl_2 : Nat, ∃ workc_2 : Nat, g11.w.cell? ⟨g4.w.heap.size, 0, none⟩ = some (.slice worka_2 workl_2 workc_2) ∧ InI64 (((workl_2 : Nat) : Int) - (1 : Int)) ∧ (0 ≤ (((workl_2 : Nat) : Int) - (1 : Int)) ∧ (((workl_2 : Nat) : Int) - (1 : Int)) < ((workl_1 : Nat) : Int)) ∧ derefP worka_1 fun ad => ∃ x0_2 : Bool, ∃ x1_2 : Int, ∃ x2 : Bool, ∃ x3 : Int, g11.w.cell? (Addr.add ad (Int.toNat (((workl_2 : Nat) : Int) - (1 : Int)) * 4)) = some (.bool x0_2) ∧ g11.w.cell? (Addr.add (Addr.add ad (Int.toNat (((workl_2 : Nat) : Int) - (1 : Int)) * 4)) 1) = some (.int .i64 x1_2) ∧ g11.w.cell? (Addr.add (Addr.add ad (Int.toNat (((workl_2 : Nat) : Int) - (1 : Int)) * 4)) 2) = some (.bool x2) ∧ g11.w.cell? (Addr.add (Addr.add ad (Int.toNat (((workl_2 : Nat) : Int) - (1 : Int)) * 4)) 3) = some (.int .i64 x3) ∧ ∀ g12 : G, Ex g11 g12 →
  ∃ worka_3 : Option Addr, ∃ workl_3 : Nat, ∃ workc_3 : Nat, g12.w.cell? ⟨g4.w.heap.size, 0, none⟩ = some (.slice worka_3 workl_3 workc_3) ∧ ∃ worka_4 : Option Addr, ∃ workl_4 : Nat, ∃ workc_4 : Nat, g12.w.cell? ⟨g4.w.heap.size, 0, none⟩ = some (.slice worka_4 workl_4 workc_4) ∧ InI64 (((workl_4 : Nat) : Int) - (1 : Int)) ∧ (0 ≤ (((workl_4 : Nat) : Int) - (1 : Int)) ∧ (((workl_4 : Nat) : Int) - (1 : Int)) ≤ ((workc_3 : Nat) : Int)) ∧ stOk g12.w ⟨g4.w.heap.size, 0, none⟩ 1 ∧ ¬ g12.X (Addr.block ⟨g4.w.heap.size, 0, none⟩) ∧ mutAt g12 ⟨g4.w.heap.size, 0, none⟩ 1 ∧ ((Addr.block ⟨g4.w.heap.size, 0, none⟩) < g.w.heap.size → nobody (Addr.block ⟨g4.w.heap.size, 0, none⟩)) ∧ ∀ g13 : G, StG false g12 ⟨g4.w.heap.size, 0, none⟩ [(.slice (slAddr worka_3 workc_3 0 4) ((Int.toNat (((workl_4 : Nat) : Int) - (1 : Int))) - 0) (workc_3 - 0))] g13 →
  ifB (!(x0_2 == x2))
  (∀ g14 : G, Ex g13 g14 →
  R (.tuple ⟨[(.bool false), (.int .i64 (0 : Int))]⟩) g14)
  (ifB (!x0_2)
  (ifB (!eqI x1_2 x3)
  (∀ g15 : G, Ex g13 g15 →
  R (.tuple ⟨[(.bool false), (.int .i64 (0 : Int))]⟩) g15)
  ((∃ m_1 : Nat, m_1 < m ∧ Inv m_1 g13)))
  (∃ x0_3 : Int, ∃ x1_3 : Bool, ∃ wo1 : World, Sem.run Try.prog (Instr.lookup 115 (.map (some g7.w.heap.size)) (.int .i64 x1_2) true) g13.w = .ok (.tuple ⟨[(.int .i64 x0_3), (.bool x1_3)]⟩) wo1 ∧ ∃ g16 : G, g16.w = wo1 ∧ Stp g.w.heap.size nobody g13 g16 ∧ ∃ x0_4 : Int, ∃ x1_4 : Bool, ∃ wo2 : World, Sem.run Try.prog (Instr.lookup 115 (.map (some g8.w.heap.size)) (.int .i64 x3) true) g16.w = .ok (.tuple ⟨[(.int .i64 x0_4), (.bool x1_4)]⟩) wo2 ∧ ∃ g17 : G, g17.w = wo2 ∧ Stp g.w.heap.size nobody g16 g17 ∧ ∀ J : Bool → G → Prop,
  (∀ v_1 : Bool, ∀ g18 : G, (ifB v_1
  (ifB (!x1_3)
  (∀ g19 : G, Ex g18 g19 →
  R (.tuple ⟨[(.bool false), (.int .i64 (0 : Int))]⟩) g19)
  (ifB (!x1_4)
  (∀ g20 : G, Ex g18 g20 →
  R (.tuple ⟨[(.bool false), (.int .i64 (0 : Int))]⟩) g20)
  (ifB (!eqI x0_3 x3)
  (∀ g21 : G, Ex g18 g21 →
  R (.tuple ⟨[(.bool false), (.int .i64 (0 : Int))]⟩) g21)
  (ifB (!eqI x0_4 x1_2)
  (∀ g22 : G, Ex g18 g22 →
  R (.tuple ⟨[(.bool false), (.int .i64 (0 : Int))]⟩) g22)
  ((∃ m_1 : Nat, m_1 < m ∧ Inv m_1 g18))))))
  (∀ g23 : G, Ex g18 g23 →
  ∃ MR1 : Nat → Prop, (∀ b, MR1 b → ¬ g23.X b) ∧ ∃ wo3 : World, Sem.run Try.prog (Instr.mapUpdate 115 (.map (some g7.w.heap.size)) (.int .i64 x1_2) (.int .i64 x3)) g23.w = .ok () wo3 ∧ ∃ g24 : G, g24.w = wo3 ∧ Stp g.w.heap.size nobody g23 g24 ∧ SameBut MR1 g23 g24 ∧ ∃ wo4 : World, Sem.run Try.prog (Instr.mapUpdate 115 (.map (some g8.w.heap.size)) (.int .i64 x3) (.int .i64 x1_2)) g24.w = .ok () wo4 ∧ ∃ g25 : G, g25.w = wo4 ∧ Stp g.w.heap.size nobody g24 g25 ∧ ∀ g26 : G, Ex g25 g26 →
  ∃ MR2 : Nat → Prop, (∀ b, MR2 b → ¬ g26.X b) ∧ (0 ≤ x1_2 ∧ x1_2 ≤ ((a0l : Nat) : Int)) ∧ (0 ≤ x3 ∧ x3 ≤ ((b0l : Nat) : Int)) ∧ (CallsP Try.prog 90 #[(.agg ⟨[(.slice a0a a0l a0c), (.int .i64 a1), (.int .i64 a2)]⟩), (.int .i64 x1_2)] g26 fun v g27 =>
  ∃ x : Int, v = (.int .i64 x) ∧ (0 ≤ x ∧ x ≤ (((a0c - (Int.toNat x1_2)) : Nat) : Int)) ∧ (CallsP Try.prog 90 #[(.agg ⟨[(.slice b0a b0l b0c), (.int .i64 b1), (.int .i64 b2)]⟩), (.int .i64 x3)] g27 fun v g28 =>
  ∃ x_1 : Int, v = (.int .i64 x_1) ∧ (0 ≤ x_1 ∧ x_1 ≤ (((b0c - (Int.toNat x3)) : Nat) : Int)) ∧ ∀ g29 : G, Ex g28 g29 →
  ∃ MR3 : Nat → Prop, (∀ b, MR3 b → ¬ g29.X b) ∧ (0 ≤ (3 : Int) ∧ (3 : Int) ≤ ((((a0c - (Int.toNat x1_2)) - 0) : Nat) : Int)) ∧ (0 ≤ (3 : Int) ∧ (3 : Int) ≤ ((((b0c - (Int.toNat x3)) - 0) : Nat) : Int)) ∧ (CallsP Try.prog 91 #[(.slice (slAddr (slAddr (slAddr a0a a0c (Int.toNat x1_2) 2) (a0c - (Int.toNat x1_2)) 0 2) ((a0c - (Int.toNat x1_2)) - 0) 0 2) ((Int.toNat (3 : Int)) - 0) (((a0c - (Int.toNat x1_2)) - 0) - 0)), (.slice (slAddr (slAddr (slAddr b0a b0c (Int.toNat x3) 2) (b0c - (Int.toNat x3)) 0 2) ((b0c - (Int.toNat x3)) - 0) 0 2) ((Int.toNat (3 : Int)) - 0) (((b0c - (Int.toNat x3)) - 0) - 0))] g29 fun v g30 =>
  ∃ x_2 : Bool, v = (.bool x_2) ∧ ifB (!x_2)
  (∀ g31 : G, Ex g30 g31 →
  R (.tuple ⟨[(.bool false), (.int .i64 (0 : Int))]⟩) g31)
  (∀ g32 : G, Ex g30 g32 →
  ∃ MR4 : Nat → Prop, (∀ b, MR4 b → ¬ g32.X b) ∧ (0 ≤ (3 : Int) ∧ (3 : Int) ≤ ((((Int.toNat x) - 0) : Nat) : Int)) ∧ (0 ≤ (3 : Int) ∧ (3 : Int) ≤ ((((Int.toNat x_1) - 0) : Nat) : Int)) ∧ Enters Try.prog 89 ∧ (CallsP Try.prog 89 ((⟨[(.slice (slAddr (slAddr (slAddr a0a a0c (Int.toNat x1_2) 2) (a0c - (Int.toNat x1_2)) 0 2) ((a0c - (Int.toNat x1_2)) - 0) (Int.toNat (3 : Int)) 2) (((Int.toNat x) - 0) - (Int.toNat (3 : Int))) (((a0c - (Int.toNat x1_2)) - 0) - (Int.toNat (3 : Int)))), (.slice (slAddr (slAddr (slAddr b0a b0c (Int.toNat x3) 2) (b0c - (Int.toNat x3)) 0 2) ((b0c - (Int.toNat x3)) - 0) (Int.toNat (3 : Int)) 2) (((Int.toNat x_1) - 0) - (Int.toNat (3 : Int))) (((b0c - (Int.toNat x3)) - 0) - (Int.toNat (3 : Int))))]⟩ : Array Value) ++ ⟨[(.pointer (some ⟨g4.w.heap.size, 0, none⟩))]⟩) g32 fun v g33 =>
  v = (.tuple ⟨[]⟩) ∧ (∃ m_1 : Nat, m_1 < m ∧ Inv m_1 g33)))))))) → J v_1 g18) →
  ifB x1_3
  (J true g17)
  (J x1_4 g17))))
  (∀ g34 : G, Ex g11 g34 →
  R (.tuple ⟨[(.bool true), (.int .i64 (0 : Int))]⟩) g34)))))))
theorem F53_eq (a0a : Option Addr) (a0l : Nat) (a0c : Nat) (a1 : Int) (a2 : Int) (xa : Option Addr) (xl : Nat) (xc : Nat) (b0a : Option Addr) (b0l : Nat) (b0c : Nat) (b1 : Int) (b2 : Int) (ya : Option Addr) (yl : Nat) (yc : Nat) (g : G) (R : Value → G → Prop) : fnG cfg53 177 [.tmp 8, .tmp 9] c53 an53 [(.agg ⟨[(.slice a0a a0l a0c), (.int .i64 a1), (.int .i64 a2)]⟩), (.slice xa xl xc), (.agg ⟨[(.slice b0a b0l b0c), (.int .i64 b1), (.int .i64 b2)]⟩), (.slice ya yl yc)] g nobody R = F53 a0a a0l a0c a1 a2 xa xl xc b0a b0l b0c b1 b2 ya yl yc g R := by kernel_rfl
theorem call53 (a0a : Option Addr) (a0l : Nat) (a0c : Nat) (a1 : Int) (a2 : Int) (xa : Option Addr) (xl : Nat) (xc : Nat) (b0a : Option Addr) (b0l : Nat) (b0c : Nat) (b1 : Int) (b2 : Int) (ya : Option Addr) (yl : Nat) (yc : Nat) (g : G) (R : Value → G → Prop) (hF : F53 a0a a0l a0c a1 a2 xa xl xc b0a b0l b0c b1 b2 ya yl yc g R) : CallsG Try.prog 53 #[(.agg ⟨[(.slice a0a a0l a0c), (.int .i64 a1), (.int .i64 a2)]⟩), (.slice xa xl xc), (.agg ⟨[(.slice b0a b0l b0c), (.int .i64 b1), (.int .i64 b2)]⟩), (.slice ya yl yc)] g nobody R :=
  fn_soundG (c := cfg53) TTok FNSok mixed Try.func53 (show Try.f53.body = some c53 by kernel_rfl) (show Try.f53.ntmps = 177 by kernel_rfl) (show Try.f53.results.toList = [.tmp 8, .tmp 9] by kernel_rfl) rfl ((F53_eq a0a a0l a0c a1 a2 xa xl xc b0a b0l b0c b1 b2 ya yl yc g R).mpr hF)

/- 54 pilaster/pilasterref50.Same -/
noncomputable def c54 : Code := match Try.f54.body with
  | some c => c
  | none => .skip
noncomputable def cfg54 : Cfg := ⟨Try.prog, TT, FNS, [4, 6, 9, 11], [(4, 4), (6, 6), (9, 9), (11, 11), (30, 9), (31, 11)], [], TCH, false, false⟩
def an54 : AnnG := (.seq .leaf (.seq (.seq .leaf (.cond (.seq .leaf .leaf) .leaf)) (.seq .leaf (.seq .leaf (.seq .leaf (.seq .leaf (.seq .leaf .leaf)))))))
def F54 (a0a : Option Addr) (a0l : Nat) (a0c : Nat) (a1 : Int) (a2 : Int) (xa : Option Addr) (xl : Nat) (xc : Nat) (b0a : Option Addr) (b0l : Nat) (b0c : Nat) (b1 : Int) (b2 : Int) (ya : Option Addr) (yl : Nat) (yc : Nat) (g : G) (R : Value → G → Prop) : Prop :=
  ifB (!eqI ((xl : Nat) : Int) ((yl : Nat) : Int))
  (∀ g1 : G, Ex g g1 →
  R (.bool false) g1)
  (∀ g2 : G, Ex g g2 →
  (CallsP Try.prog 49 #[(.agg ⟨[(.slice a0a a0l a0c), (.int .i64 a1), (.int .i64 a2)]⟩), (.slice xa xl xc)] g2 fun v g3 =>
  ∃ x00a : Option Addr, ∃ x00l : Nat, ∃ x00c : Nat, ∃ x01 : Int, ∃ x02 : Int, ∃ x1a : Option Addr, ∃ x1l : Nat, ∃ x1c : Nat, v = (.tuple ⟨[(.agg ⟨[(.slice x00a x00l x00c), (.int .i64 x01), (.int .i64 x02)]⟩), (.slice x1a x1l x1c)]⟩) ∧ ∀ g4 : G, Ex g3 g4 →
  (CallsP Try.prog 49 #[(.agg ⟨[(.slice b0a b0l b0c), (.int .i64 b1), (.int .i64 b2)]⟩), (.slice ya yl yc)] g4 fun v g5 =>
  ∃ x00a_1 : Option Addr, ∃ x00l_1 : Nat, ∃ x00c_1 : Nat, ∃ x01_1 : Int, ∃ x02_1 : Int, ∃ x1a_1 : Option Addr, ∃ x1l_1 : Nat, ∃ x1c_1 : Nat, v = (.tuple ⟨[(.agg ⟨[(.slice x00a_1 x00l_1 x00c_1), (.int .i64 x01_1), (.int .i64 x02_1)]⟩), (.slice x1a_1 x1l_1 x1c_1)]⟩) ∧ ∀ g6 : G, Ex g5 g6 →
  (CallsP Try.prog 20 #[(.agg ⟨[(.slice x00a x00l x00c), (.int .i64 x01), (.int .i64 (0 : Int))]⟩), (.agg ⟨[(.slice x00a_1 x00l_1 x00c_1), (.int .i64 x01_1), (.int .i64 (0 : Int))]⟩)] g6 fun v g7 =>
  ∃ x : Bool, v = (.bool x) ∧ ifB x
  ((CallsP Try.prog 39 #[(.slice x1a x1l x1c), (.slice x1a_1 x1l_1 x1c_1)] g7 fun v g8 =>
  ∃ x_1 : Bool, v = (.bool x_1) ∧ ∀ g9 : G, Ex g8 g9 →
  R (.bool x_1) g9))
  (∀ g10 : G, Ex g7 g10 →
  R (.bool false) g10)))))
theorem F54_eq (a0a : Option Addr) (a0l : Nat) (a0c : Nat) (a1 : Int) (a2 : Int) (xa : Option Addr) (xl : Nat) (xc : Nat) (b0a : Option Addr) (b0l : Nat) (b0c : Nat) (b1 : Int) (b2 : Int) (ya : Option Addr) (yl : Nat) (yc : Nat) (g : G) (R : Value → G → Prop) : fnG cfg54 40 [.tmp 8] c54 an54 [(.agg ⟨[(.slice a0a a0l a0c), (.int .i64 a1), (.int .i64 a2)]⟩), (.slice xa xl xc), (.agg ⟨[(.slice b0a b0l b0c), (.int .i64 b1), (.int .i64 b2)]⟩), (.slice ya yl yc)] g nobody R = F54 a0a a0l a0c a1 a2 xa xl xc b0a b0l b0c b1 b2 ya yl yc g R := by kernel_rfl
theorem call54 (a0a : Option Addr) (a0l : Nat) (a0c : Nat) (a1 : Int) (a2 : Int) (xa : Option Addr) (xl : Nat) (xc : Nat) (b0a : Option Addr) (b0l : Nat) (b0c : Nat) (b1 : Int) (b2 : Int) (ya : Option Addr) (yl : Nat) (yc : Nat) (g : G) (R : Value → G → Prop) (hF : F54 a0a a0l a0c a1 a2 xa xl xc b0a b0l b0c b1 b2 ya yl yc g R) : CallsG Try.prog 54 #[(.agg ⟨[(.slice a0a a0l a0c), (.int .i64 a1), (.int .i64 a2)]⟩), (.slice xa xl xc), (.agg ⟨[(.slice b0a b0l b0c), (.int .i64 b1), (.int .i64 b2)]⟩), (.slice ya yl yc)] g nobody R :=
  fn_soundG (c := cfg54) TTok FNSok mixed Try.func54 (show Try.f54.body = some c54 by kernel_rfl) (show Try.f54.ntmps = 40 by kernel_rfl) (show Try.f54.results.toList = [.tmp 8] by kernel_rfl) rfl ((F54_eq a0a a0l a0c a1 a2 xa xl xc b0a b0l b0c b1 b2 ya yl yc g R).mpr hF)

/- 55 pilaster/pilasterlaw50.nodes -/
noncomputable def c55 : Code := match Try.f55.body with
  | some c => c
  | none => .skip
noncomputable def cfg55 : Cfg := ⟨Try.prog, TT, FNS, [2, 7], [(2, 2), (7, 7), (8, 2)], [], TCH, false, false⟩
def an55 : AnnG := (.seq .leaf (.seq .leaf (.seq (.seq .leaf (.blk (.loop ⟨[(5, .int .i64), (11, .int .i64)], [], []⟩ (.seq .leaf (.seq (.cond .leaf .leaf) (.seq (.blk (.seq .leaf (.join ⟨[], [], []⟩ (.seq .leaf (.cond (.seq .leaf .leaf) .leaf)) .leaf))) .leaf)))))) (.seq .leaf .leaf))))
def F55 (v0 : Int) (v1 : Int) (v2 : ByteArray) (v3a : Option Addr) (v3l : Nat) (v3c : Nat) (v4a : Option Addr) (v4l : Nat) (v4c : Nat) (depth : Int) (g : G) (R : Value → G → Prop) : Prop :=
  ∃ Inv : Nat → Int → Int → G → Prop, (∀ g1 : G, Ex g g1 →
  (∃ m0 : Nat, Inv m0 (1 : Int) (0 : Int) g1)) ∧
  ∀ m : Nat, ∀ n : Int, ∀ v_1 : Int, ∀ g2 : G, Le g g2 → Inv m n v_1 g2 →
  ifB (ltI v_1 ((v4l : Nat) : Int))
  ((0 ≤ v_1 ∧ v_1 < ((v4l : Nat) : Int)) ∧ derefP v4a fun ad => ∃ x0 : Int, ∃ x1 : Int, ∃ x2 : ByteArray, ∃ x3a : Option Addr, ∃ x3l : Nat, ∃ x3c : Nat, ∃ x4a : Option Addr, ∃ x4l : Nat, ∃ x4c : Nat, g2.w.cell? (Addr.add ad (Int.toNat v_1 * 5)) = some (.int .i64 x0) ∧ g2.w.cell? (Addr.add (Addr.add ad (Int.toNat v_1 * 5)) 1) = some (.int .i64 x1) ∧ g2.w.cell? (Addr.add (Addr.add ad (Int.toNat v_1 * 5)) 2) = some (.string x2) ∧ g2.w.cell? (Addr.add (Addr.add ad (Int.toNat v_1 * 5)) 3) = some (.slice x3a x3l x3c) ∧ g2.w.cell? (Addr.add (Addr.add ad (Int.toNat v_1 * 5)) 4) = some (.slice x4a x4l x4c) ∧ ∀ J : G → Prop,
  (∀ g3 : G, (InI64 (depth - (1 : Int)) ∧ (CallsP Try.prog 55 #[(.agg ⟨[(.int .i64 x0), (.int .i64 x1), (.string x2), (.slice x3a x3l x3c), (.slice x4a x4l x4c)]⟩), (.int .i64 (depth - (1 : Int)))] g3 fun v g4 =>
  ∃ x : Int, v = (.int .i64 x) ∧ InI64 (n + x) ∧ InI64 (v_1 + (1 : Int)) ∧ (∃ m_1 : Nat, m_1 < m ∧ Inv m_1 (n + x) (v_1 + (1 : Int)) g4))) → J g3) →
  ifB (ltI (60 : Int) n)
  (∀ g5 : G, Ex g2 g5 →
  R (.int .i64 (61 : Int)) g5)
  (ifB (eqI depth (0 : Int))
  (∀ g6 : G, Ex g2 g6 →
  R (.int .i64 (61 : Int)) g6)
  (∀ g7 : G, Ex g2 g7 →
  J g7)))
  (∀ g8 : G, Ex g2 g8 →
  R (.int .i64 n) g8)
theorem F55_eq (v0 : Int) (v1 : Int) (v2 : ByteArray) (v3a : Option Addr) (v3l : Nat) (v3c : Nat) (v4a : Option Addr) (v4l : Nat) (v4c : Nat) (depth : Int) (g : G) (R : Value → G → Prop) : fnG cfg55 29 [.tmp 4] c55 an55 [(.agg ⟨[(.int .i64 v0), (.int .i64 v1), (.string v2), (.slice v3a v3l v3c), (.slice v4a v4l v4c)]⟩), (.int .i64 depth)] g nobody R = F55 v0 v1 v2 v3a v3l v3c v4a v4l v4c depth g R := by kernel_rfl
theorem call55 (v0 : Int) (v1 : Int) (v2 : ByteArray) (v3a : Option Addr) (v3l : Nat) (v3c : Nat) (v4a : Option Addr) (v4l : Nat) (v4c : Nat) (depth : Int) (g : G) (R : Value → G → Prop) (hF : F55 v0 v1 v2 v3a v3l v3c v4a v4l v4c depth g R) : CallsG Try.prog 55 #[(.agg ⟨[(.int .i64 v0), (.int .i64 v1), (.string v2), (.slice v3a v3l v3c), (.slice v4a v4l v4c)]⟩), (.int .i64 depth)] g nobody R :=
  fn_soundG (c := cfg55) TTok FNSok mixed Try.func55 (show Try.f55.body = some c55 by kernel_rfl) (show Try.f55.ntmps = 29 by kernel_rfl) (show Try.f55.results.toList = [.tmp 4] by kernel_rfl) rfl ((F55_eq v0 v1 v2 v3a v3l v3c v4a v4l v4c depth g R).mpr hF)

/- 56 pilaster/collect.Live -/
noncomputable def c56 : Code := match Try.f56.body with
  | some c => c
  | none => .skip
noncomputable def cfg56 : Cfg := ⟨Try.prog, TT, FNS, [2], [(2, 2)], [], TCH, false, false⟩
def an56 : AnnG := (.seq .leaf (.seq (.seq .leaf (.seq .leaf (.cond (.seq .leaf .leaf) .leaf))) (.seq .leaf (.seq .leaf .leaf))))
def F56 (h0a : Option Addr) (h0l : Nat) (h0c : Nat) (h1 : Int) (h2 : Int) (rootsa : Option Addr) (rootsl : Nat) (rootsc : Nat) (g : G) (R : Value → G → Prop) : Prop :=
  ∀ g1 : G, Ex g g1 →
  (CallsP Try.prog 83 #[(.agg ⟨[(.slice h0a h0l h0c), (.int .i64 h1), (.int .i64 h2)]⟩), (.slice rootsa rootsl rootsc)] g1 fun v g2 =>
  ∃ x0 : Option Nat, ∃ x1 : Int, v = (.tuple ⟨[(.map x0), (.int .i64 x1)]⟩) ∧ ifB (!eqI x1 (0 : Int))
  (∀ g3 : G, Ex g2 g3 →
  R (.tuple ⟨[(.int .i64 (0 : Int)), (.int .i64 x1)]⟩) g3)
  ((CallsP Try.prog 84 #[(.agg ⟨[(.slice h0a h0l h0c), (.int .i64 h1), (.int .i64 h2)]⟩), (.slice rootsa rootsl rootsc)] g2 fun v g4 =>
  ∃ x0_1 : Option Addr, ∃ x1a : Option Addr, ∃ x1l : Nat, ∃ x1c : Nat, v = (.tuple ⟨[(.pointer x0_1), (.slice x1a x1l x1c)]⟩) ∧ derefP x0_1 fun ad => ∃ xa : Option Addr, ∃ xl : Nat, ∃ xc : Nat, g4.w.cell? (Addr.add ad 3) = some (.slice xa xl xc) ∧ ∀ g5 : G, Ex g4 g5 →
  R (.tuple ⟨[(.int .i64 ((xl : Nat) : Int)), (.int .i64 (0 : Int))]⟩) g5)))
theorem F56_eq (h0a : Option Addr) (h0l : Nat) (h0c : Nat) (h1 : Int) (h2 : Int) (rootsa : Option Addr) (rootsl : Nat) (rootsc : Nat) (g : G) (R : Value → G → Prop) : fnG cfg56 31 [.tmp 4, .tmp 5] c56 an56 [(.agg ⟨[(.slice h0a h0l h0c), (.int .i64 h1), (.int .i64 h2)]⟩), (.slice rootsa rootsl rootsc)] g nobody R = F56 h0a h0l h0c h1 h2 rootsa rootsl rootsc g R := by kernel_rfl
theorem call56 (h0a : Option Addr) (h0l : Nat) (h0c : Nat) (h1 : Int) (h2 : Int) (rootsa : Option Addr) (rootsl : Nat) (rootsc : Nat) (g : G) (R : Value → G → Prop) (hF : F56 h0a h0l h0c h1 h2 rootsa rootsl rootsc g R) : CallsG Try.prog 56 #[(.agg ⟨[(.slice h0a h0l h0c), (.int .i64 h1), (.int .i64 h2)]⟩), (.slice rootsa rootsl rootsc)] g nobody R :=
  fn_soundG (c := cfg56) TTok FNSok mixed Try.func56 (show Try.f56.body = some c56 by kernel_rfl) (show Try.f56.ntmps = 31 by kernel_rfl) (show Try.f56.results.toList = [.tmp 4, .tmp 5] by kernel_rfl) rfl ((F56_eq h0a h0l h0c h1 h2 rootsa rootsl rootsc g R).mpr hF)

/- 58 pilaster/pilasterref50.Reachable -/
noncomputable def c58 : Code := match Try.f58.body with
  | some c => c
  | none => .skip
noncomputable def cfg58 : Cfg := ⟨Try.prog, TT, FNS, [2], [(2, 2)], [], TCH, false, false⟩
def an58 : AnnG := (.seq .leaf (.seq .leaf (.seq .leaf (.seq .leaf (.seq (.seq .leaf (.blk (.loop ⟨[(7, .sl), (8, .int .i64)], [], []⟩ (.seq (.seq .leaf (.cond .leaf .leaf)) (.seq (.blk (.seq .leaf (.cond .leaf .leaf))) .leaf))))) (.seq .leaf .leaf))))))
def F58 (h0a : Option Addr) (h0l : Nat) (h0c : Nat) (h1 : Int) (h2 : Int) (rootsa : Option Addr) (rootsl : Nat) (rootsc : Nat) (g : G) (R : Value → G → Prop) : Prop :=
  ∀ g1 : G, Ex g g1 →
  (CallsP Try.prog 85 #[(.agg ⟨[(.slice h0a h0l h0c), (.int .i64 h1), (.int .i64 h2)]⟩), (.slice rootsa rootsl rootsc)] g1 fun v g2 =>
  ∃ la : Option Addr, ∃ ll : Nat, ∃ lc : Nat, v = (.slice la ll lc) ∧ (CallsP Try.prog 36 #[(.agg ⟨[(.slice h0a h0l h0c), (.int .i64 h1), (.int .i64 h2)]⟩)] g2 fun v g3 =>
  ∃ alla : Option Addr, ∃ alll : Nat, ∃ allc : Nat, v = (.slice alla alll allc) ∧ ∃ Inv : Nat → Option Addr → Nat → Nat → Int → G → Prop, ((∃ m0 : Nat, Inv m0 none 0 0 (0 : Int) g3)) ∧
  ∀ m : Nat, ∀ outa : Option Addr, ∀ outl : Nat, ∀ outc : Nat, ∀ i : Int, ∀ g4 : G, Le g3 g4 → Inv m outa outl outc i g4 →
  ifB (ltI i ((alll : Nat) : Int))
  ((0 ≤ i ∧ i < ((alll : Nat) : Int)) ∧ derefP alla fun ad => ∃ x : Int, g4.w.cell? (Addr.add ad (Int.toNat i * 1)) = some (.int .i64 x) ∧ (CallsP Try.prog 93 #[(.slice la ll lc), (.int .i64 x)] g4 fun v g5 =>
  ∃ x_1 : Int, v = (.int .i64 x_1) ∧ ifB (leI (0 : Int) x_1)
  ((0 ≤ i ∧ i < ((alll : Nat) : Int)) ∧ derefP alla fun ad_1 => ∃ x_2 : Int, g5.w.cell? (Addr.add ad_1 (Int.toNat i * 1)) = some (.int .i64 x_2) ∧ ∀ g6 : G, NewL g5 g6 3 [(.int .i64 x_2)] →
  ∃ outa_1 : Option Addr, ∃ outl_1 : Nat, ∃ outc_1 : Nat, ∃ wo1 : World, Sem.run Try.prog (Builtin.append_ #[55, 55] 55 #[(.slice outa outl outc), (.slice (some ⟨g5.w.heap.size, 0, none⟩) 1 1)]) g6.w = .ok (.slice outa_1 outl_1 outc_1) wo1 ∧ ∃ g7 : G, g7.w = wo1 ∧ Stp g.w.heap.size nobody g6 g7 ∧ InI64 (i + (1 : Int)) ∧ (∃ m_1 : Nat, m_1 < m ∧ Inv m_1 outa_1 outl_1 outc_1 (i + (1 : Int)) g7))
  (InI64 (i + (1 : Int)) ∧ (∃ m_1 : Nat, m_1 < m ∧ Inv m_1 outa outl outc (i + (1 : Int)) g5))))
  (∀ g8 : G, Ex g4 g8 →
  R (.slice outa outl outc) g8)))
theorem F58_eq (h0a : Option Addr) (h0l : Nat) (h0c : Nat) (h1 : Int) (h2 : Int) (rootsa : Option Addr) (rootsl : Nat) (rootsc : Nat) (g : G) (R : Value → G → Prop) : fnG cfg58 35 [.tmp 4] c58 an58 [(.agg ⟨[(.slice h0a h0l h0c), (.int .i64 h1), (.int .i64 h2)]⟩), (.slice rootsa rootsl rootsc)] g nobody R = F58 h0a h0l h0c h1 h2 rootsa rootsl rootsc g R := by kernel_rfl
theorem call58 (h0a : Option Addr) (h0l : Nat) (h0c : Nat) (h1 : Int) (h2 : Int) (rootsa : Option Addr) (rootsl : Nat) (rootsc : Nat) (g : G) (R : Value → G → Prop) (hF : F58 h0a h0l h0c h1 h2 rootsa rootsl rootsc g R) : CallsG Try.prog 58 #[(.agg ⟨[(.slice h0a h0l h0c), (.int .i64 h1), (.int .i64 h2)]⟩), (.slice rootsa rootsl rootsc)] g nobody R :=
  fn_soundG (c := cfg58) TTok FNSok mixed Try.func58 (show Try.f58.body = some c58 by kernel_rfl) (show Try.f58.ntmps = 35 by kernel_rfl) (show Try.f58.results.toList = [.tmp 4] by kernel_rfl) rfl ((F58_eq h0a h0l h0c h1 h2 rootsa rootsl rootsc g R).mpr hF)

/- 59 pilaster/heap.length -/
noncomputable def c59 : Code := match Try.f59.body with
  | some c => c
  | none => .skip
noncomputable def cfg59 : Cfg := ⟨Try.prog, TT, FNS, [], [], [], TCH, false, false⟩
def an59 : AnnG := (.seq .leaf (.seq (.seq .leaf (.blk (.join ⟨[(6, .bool)], [], []⟩ (.seq .leaf (.cond .leaf .leaf)) (.cond (.seq .leaf .leaf) (.seq .leaf (.cond (.seq .leaf .leaf) (.seq .leaf (.cond (.seq .leaf .leaf) .leaf)))))))) (.seq .leaf .leaf)))
def F59 (kind : Int) (n : Int) (g : G) (R : Value → G → Prop) : Prop :=
  ∀ J : Bool → G → Prop,
  (∀ v_1 : Bool, ∀ g1 : G, (ifB v_1
  (ifB (leI (0 : Int) n)
  (∀ g2 : G, Ex g1 g2 →
  R (.bool (leI n (1000 : Int))) g2)
  (∀ g3 : G, Ex g1 g3 →
  R (.bool false) g3))
  (ifB (eqI kind (2 : Int))
  (∀ g4 : G, Ex g1 g4 →
  R (.bool (eqI n (1 : Int))) g4)
  (ifB (eqI kind (4 : Int))
  (ifB (leI (0 : Int) n)
  (∀ g5 : G, Ex g1 g5 →
  R (.bool (leI n (16384 : Int))) g5)
  (∀ g6 : G, Ex g1 g6 →
  R (.bool false) g6))
  (∀ g7 : G, Ex g1 g7 →
  R (.bool false) g7)))) → J v_1 g1) →
  ifB (eqI kind (1 : Int))
  (J true g)
  (J (eqI kind (3 : Int)) g)
theorem F59_eq (kind : Int) (n : Int) (g : G) (R : Value → G → Prop) : fnG cfg59 27 [.tmp 4] c59 an59 [(.int .i64 kind), (.int .i64 n)] g nobody R = F59 kind n g R := by kernel_rfl
theorem call59 (kind : Int) (n : Int) (g : G) (R : Value → G → Prop) (hF : F59 kind n g R) : CallsG Try.prog 59 #[(.int .i64 kind), (.int .i64 n)] g nobody R :=
  fn_soundG (c := cfg59) TTok FNSok mixed Try.func59 (show Try.f59.body = some c59 by kernel_rfl) (show Try.f59.ntmps = 27 by kernel_rfl) (show Try.f59.results.toList = [.tmp 4] by kernel_rfl) rfl ((F59_eq kind n g R).mpr hF)

/- 60 pilaster/heap.checked -/
noncomputable def c60 : Code := match Try.f60.body with
  | some c => c
  | none => .skip
noncomputable def cfg60 : Cfg := ⟨Try.prog, TT, FNS, [1, 9], [(1, 1), (9, 9), (10, 1), (14, 1), (19, 1), (21, 1), (27, 1), (29, 1)], [], TCH, false, false⟩
def an60 : AnnG := (.seq .leaf (.join ⟨[], [], []⟩ (.seq .leaf (.cond (.seq .leaf .leaf) .leaf)) (.seq .leaf (.seq (.seq .leaf (.cond (.seq .leaf .leaf) .leaf)) (.seq (.seq .leaf (.blk (.loop ⟨[(42, .int .i64)], [], []⟩ (.seq .leaf (.seq (.cond .leaf .leaf) (.seq (.blk (.seq .leaf (.seq .leaf (.blk (.loop ⟨[(50, .int .i64)], [], []⟩ (.seq .leaf (.seq (.cond .leaf .leaf) (.seq (.blk (.seq .leaf (.seq .leaf (.cond (.seq .leaf .leaf) .leaf)))) .leaf)))))))) .leaf)))))) (.seq .leaf .leaf))))))
def F60 (h0a : Option Addr) (h0l : Nat) (h0c : Nat) (h1 : Int) (h2 : Int) (g : G) (R : Value → G → Prop) : Prop :=
  ∀ J : G → Prop,
  (∀ g1 : G, ((CallsP Try.prog 94 #[(.agg ⟨[(.slice h0a h0l h0c), (.int .i64 h1), (.int .i64 h2)]⟩)] g1 fun v g2 =>
  ∃ x0a : Option Addr, ∃ x0l : Nat, ∃ x0c : Nat, ∃ x1 : Bool, v = (.tuple ⟨[(.slice x0a x0l x0c), (.bool x1)]⟩) ∧ ifB (!x1)
  (∀ g3 : G, Ex g2 g3 →
  R (.tuple ⟨[(.slice none 0 0), (.bool false)]⟩) g3)
  (∃ Inv : Nat → Int → G → Prop, ((∃ m0 : Nat, Inv m0 (0 : Int) g2)) ∧
  ∀ m : Nat, ∀ v_1 : Int, ∀ g4 : G, Le g2 g4 → Inv m v_1 g4 →
  ifB (ltI v_1 ((x0l : Nat) : Int))
  ((0 ≤ v_1 ∧ v_1 < ((x0l : Nat) : Int)) ∧ derefP x0a fun ad => ∃ at0 : Int, g4.w.cell? (Addr.add ad (Int.toNat v_1 * 1)) = some (.int .i64 at0) ∧ (CallsP Try.prog 80 #[(.agg ⟨[(.slice h0a h0l h0c), (.int .i64 h1), (.int .i64 h2)]⟩), (.int .i64 at0)] g4 fun v g5 =>
  ∃ xa : Option Addr, ∃ xl : Nat, ∃ xc : Nat, v = (.slice xa xl xc) ∧ ∃ Inv_1 : Nat → Int → G → Prop, ((∃ m0 : Nat, Inv_1 m0 (0 : Int) g5)) ∧
  ∀ m_2 : Nat, ∀ v_2 : Int, ∀ g6 : G, Le g5 g6 → Inv_1 m_2 v_2 g6 →
  ifB (ltI v_2 ((xl : Nat) : Int))
  ((0 ≤ v_2 ∧ v_2 < ((xl : Nat) : Int)) ∧ derefP xa fun ad_1 => ∃ x0 : Bool, ∃ x1_1 : Int, g6.w.cell? (Addr.add ad_1 (Int.toNat v_2 * 2)) = some (.bool x0) ∧ g6.w.cell? (Addr.add (Addr.add ad_1 (Int.toNat v_2 * 2)) 1) = some (.int .i64 x1_1) ∧ ∀ g7 : G, Ex g6 g7 →
  (CallsP Try.prog 78 #[(.slice x0a x0l x0c), (.agg ⟨[(.bool x0), (.int .i64 x1_1)]⟩)] g7 fun v g8 =>
  ∃ x : Bool, v = (.bool x) ∧ ifB (!x)
  (∀ g9 : G, Ex g8 g9 →
  R (.tuple ⟨[(.slice none 0 0), (.bool false)]⟩) g9)
  (InI64 (v_2 + (1 : Int)) ∧ (∃ m_3 : Nat, m_3 < m_2 ∧ Inv_1 m_3 (v_2 + (1 : Int)) g8))))
  (InI64 (v_1 + (1 : Int)) ∧ (∃ m_1 : Nat, m_1 < m ∧ Inv m_1 (v_1 + (1 : Int)) g6))))
  (∀ g10 : G, Ex g4 g10 →
  R (.tuple ⟨[(.slice x0a x0l x0c), (.bool true)]⟩) g10)))) → J g1) →
  ifB (ltI h2 (0 : Int))
  (∀ g11 : G, Ex g g11 →
  R (.tuple ⟨[(.slice none 0 0), (.bool false)]⟩) g11)
  (ifB (ltI (65536 : Int) h2)
  (∀ g12 : G, Ex g g12 →
  R (.tuple ⟨[(.slice none 0 0), (.bool false)]⟩) g12)
  (ifB (!eqI h1 ((h0l : Nat) : Int))
  (∀ g13 : G, Ex g g13 →
  R (.tuple ⟨[(.slice none 0 0), (.bool false)]⟩) g13)
  (ifB (ltI h2 h1)
  (∀ g14 : G, Ex g g14 →
  R (.tuple ⟨[(.slice none 0 0), (.bool false)]⟩) g14)
  (∀ g15 : G, Ex g g15 →
  J g15))))
theorem F60_eq (h0a : Option Addr) (h0l : Nat) (h0c : Nat) (h1 : Int) (h2 : Int) (g : G) (R : Value → G → Prop) : fnG cfg60 61 [.tmp 2, .tmp 3] c60 an60 [(.agg ⟨[(.slice h0a h0l h0c), (.int .i64 h1), (.int .i64 h2)]⟩)] g nobody R = F60 h0a h0l h0c h1 h2 g R := by kernel_rfl
theorem call60 (h0a : Option Addr) (h0l : Nat) (h0c : Nat) (h1 : Int) (h2 : Int) (g : G) (R : Value → G → Prop) (hF : F60 h0a h0l h0c h1 h2 g R) : CallsG Try.prog 60 #[(.agg ⟨[(.slice h0a h0l h0c), (.int .i64 h1), (.int .i64 h2)]⟩)] g nobody R :=
  fn_soundG (c := cfg60) TTok FNSok mixed Try.func60 (show Try.f60.body = some c60 by kernel_rfl) (show Try.f60.ntmps = 61 by kernel_rfl) (show Try.f60.results.toList = [.tmp 2, .tmp 3] by kernel_rfl) rfl ((F60_eq h0a h0l h0c h1 h2 g R).mpr hF)

/- 61 pilaster/pilasterref49.in -/
noncomputable def c61 : Code := match Try.f61.body with
  | some c => c
  | none => .skip
noncomputable def cfg61 : Cfg := ⟨Try.prog, TT, FNS, [], [], [], TCH, false, false⟩
def an61 : AnnG := (.seq .leaf (.seq .leaf .leaf))
def F61 (n : Int) (low : Int) (high : Int) (g : G) (R : Value → G → Prop) : Prop :=
  ifB (leI low n)
  (∀ g1 : G, Ex g g1 →
  R (.bool (leI n high)) g1)
  (∀ g2 : G, Ex g g2 →
  R (.bool false) g2)
theorem F61_eq (n : Int) (low : Int) (high : Int) (g : G) (R : Value → G → Prop) : fnG cfg61 15 [.tmp 6] c61 an61 [(.int .i64 n), (.int .i64 low), (.int .i64 high)] g nobody R = F61 n low high g R := by kernel_rfl
theorem call61 (n : Int) (low : Int) (high : Int) (g : G) (R : Value → G → Prop) (hF : F61 n low high g R) : CallsG Try.prog 61 #[(.int .i64 n), (.int .i64 low), (.int .i64 high)] g nobody R :=
  fn_soundG (c := cfg61) TTok FNSok mixed Try.func61 (show Try.f61.body = some c61 by kernel_rfl) (show Try.f61.ntmps = 15 by kernel_rfl) (show Try.f61.results.toList = [.tmp 6] by kernel_rfl) rfl ((F61_eq n low high g R).mpr hF)
end Go.Proofs.Ytcpclpkcanikiaa
