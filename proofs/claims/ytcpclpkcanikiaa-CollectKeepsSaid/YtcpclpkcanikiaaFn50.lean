/- Printed by a program (wip/tools/gen2.py): for each function its condition as a plain formula, and that the formula gives the call. -/
import Derived.Test.YtcpclpkcanikiaaProg
import Derived.Test.YtcpclpkcanikiaaVda
namespace Go.Proofs.Ytcpclpkcanikiaa.P50
open Go Go.Vc Go.RowKit
set_option maxRecDepth 100000
set_option linter.unusedVariables false
def TT : List TI := [
  ⟨0, .tuple #[], 1, 0, some (.tuple ⟨[]⟩), (.tup [])⟩,
  ⟨3, .int .i64, 1, 8, some (.int .i64 (0 : Int)), (.e (.one (.int .i64)))⟩,
  ⟨4, .bool, 1, 1, some (.bool false), (.e (.one (.bool)))⟩,
  ⟨22, .slice 41, 1, 24, some (.slice none 0 0), (.e (.one (.sl)))⟩,
  ⟨24, .struct #[{ name := "Words", type := 22, offset := 0, embedded := false, tag := "", pkgPath := "", byteOffset := 0 }, { name := "Free", type := 3, offset := 1, embedded := false, tag := "", pkgPath := "", byteOffset := 24 }, { name := "Limit", type := 3, offset := 2, embedded := false, tag := "", pkgPath := "", byteOffset := 32 }], 3, 40, some (.agg ⟨[(.slice none 0 0), (.int .i64 (0 : Int)), (.int .i64 (0 : Int))]⟩), (.e (.agg [(.sl), (.int .i64), (.int .i64)]))⟩,
  ⟨27, .int .i64, 1, 8, some (.int .i64 (0 : Int)), (.e (.one (.int .i64)))⟩,
  ⟨30, .tuple #[3, 27], 1, 0, some (.tuple ⟨[(.int .i64 (0 : Int)), (.int .i64 (0 : Int))]⟩), (.tup [(.one (.int .i64)), (.one (.int .i64))])⟩,
  ⟨36, .slice 38, 1, 24, some (.slice none 0 0), (.e (.one (.sl)))⟩,
  ⟨38, .struct #[{ name := "Op", type := 3, offset := 0, embedded := false, tag := "", pkgPath := "", byteOffset := 0 }, { name := "N", type := 3, offset := 1, embedded := false, tag := "", pkgPath := "", byteOffset := 8 }, { name := "S", type := 9, offset := 2, embedded := false, tag := "", pkgPath := "", byteOffset := 16 }, { name := "Names", type := 35, offset := 3, embedded := false, tag := "", pkgPath := "", byteOffset := 32 }, { name := "L", type := 36, offset := 4, embedded := false, tag := "", pkgPath := "", byteOffset := 56 }], 5, 80, some (.agg ⟨[(.int .i64 (0 : Int)), (.int .i64 (0 : Int)), (.string (bs [])), (.slice none 0 0), (.slice none 0 0)]⟩), (.e (.agg [(.int .i64), (.int .i64), (.str), (.sl), (.sl)]))⟩,
  ⟨41, .struct #[{ name := "Ref", type := 4, offset := 0, embedded := false, tag := "", pkgPath := "", byteOffset := 0 }, { name := "N", type := 3, offset := 1, embedded := false, tag := "", pkgPath := "", byteOffset := 8 }], 2, 16, some (.agg ⟨[(.bool false), (.int .i64 (0 : Int))]⟩), (.e (.agg [(.bool), (.int .i64)]))⟩,
  ⟨42, .tuple #[24, 41, 27], 1, 0, some (.tuple ⟨[(.agg ⟨[(.slice none 0 0), (.int .i64 (0 : Int)), (.int .i64 (0 : Int))]⟩), (.agg ⟨[(.bool false), (.int .i64 (0 : Int))]⟩), (.int .i64 (0 : Int))]⟩), (.tup [(.agg [(.sl), (.int .i64), (.int .i64)]), (.agg [(.bool), (.int .i64)]), (.one (.int .i64))])⟩,
  ⟨51, .tuple #[3, 3, 22, 27], 1, 0, some (.tuple ⟨[(.int .i64 (0 : Int)), (.int .i64 (0 : Int)), (.slice none 0 0), (.int .i64 (0 : Int))]⟩), (.tup [(.one (.int .i64)), (.one (.int .i64)), (.one (.sl)), (.one (.int .i64))])⟩,
  ⟨55, .slice 3, 1, 24, some (.slice none 0 0), (.e (.one (.sl)))⟩,
  ⟨56, .tuple #[55, 27], 1, 0, some (.tuple ⟨[(.slice none 0 0), (.int .i64 (0 : Int))]⟩), (.tup [(.one (.sl)), (.one (.int .i64))])⟩,
  ⟨61, .tuple #[3, 3, 22], 1, 0, some (.tuple ⟨[(.int .i64 (0 : Int)), (.int .i64 (0 : Int)), (.slice none 0 0)]⟩), (.tup [(.one (.int .i64)), (.one (.int .i64)), (.one (.sl))])⟩,
  ⟨70, .tuple #[24, 22, 27], 1, 0, some (.tuple ⟨[(.agg ⟨[(.slice none 0 0), (.int .i64 (0 : Int)), (.int .i64 (0 : Int))]⟩), (.slice none 0 0), (.int .i64 (0 : Int))]⟩), (.tup [(.agg [(.sl), (.int .i64), (.int .i64)]), (.one (.sl)), (.one (.int .i64))])⟩,
  ⟨75, .tuple #[24, 22], 1, 0, some (.tuple ⟨[(.agg ⟨[(.slice none 0 0), (.int .i64 (0 : Int)), (.int .i64 (0 : Int))]⟩), (.slice none 0 0)]⟩), (.tup [(.agg [(.sl), (.int .i64), (.int .i64)]), (.one (.sl))])⟩,
  ⟨83, .tuple #[4, 27], 1, 0, some (.tuple ⟨[(.bool false), (.int .i64 (0 : Int))]⟩), (.tup [(.one (.bool)), (.one (.int .i64))])⟩,
  ⟨107, .tuple #[24, 41], 1, 0, some (.tuple ⟨[(.agg ⟨[(.slice none 0 0), (.int .i64 (0 : Int)), (.int .i64 (0 : Int))]⟩), (.agg ⟨[(.bool false), (.int .i64 (0 : Int))]⟩)]⟩), (.tup [(.agg [(.sl), (.int .i64), (.int .i64)]), (.agg [(.bool), (.int .i64)])])⟩,
  ⟨109, .map 3 4, 1, 8, some (.map none), (.e (.one (.map)))⟩,
  ⟨110, .tuple #[109, 27], 1, 0, some (.tuple ⟨[(.map none), (.int .i64 (0 : Int))]⟩), (.tup [(.one (.map)), (.one (.int .i64))])⟩,
  ⟨112, .pointer 117, 1, 8, some (.pointer none), (.e (.one (.ptr)))⟩,
  ⟨113, .tuple #[112, 22], 1, 0, some (.tuple ⟨[(.pointer none), (.slice none 0 0)]⟩), (.tup [(.one (.ptr)), (.one (.sl))])⟩,
  ⟨115, .map 3 3, 1, 8, some (.map none), (.e (.one (.map)))⟩,
  ⟨117, .struct #[{ name := "from", type := 24, offset := 0, embedded := false, tag := "", pkgPath := "pilaster/collect", byteOffset := 0 }, { name := "to", type := 24, offset := 3, embedded := false, tag := "", pkgPath := "pilaster/collect", byteOffset := 40 }, { name := "copies", type := 115, offset := 6, embedded := false, tag := "", pkgPath := "pilaster/collect", byteOffset := 80 }], 7, 88, some (.agg ⟨[(.slice none 0 0), (.int .i64 (0 : Int)), (.int .i64 (0 : Int)), (.slice none 0 0), (.int .i64 (0 : Int)), (.int .i64 (0 : Int)), (.map none)]⟩), (.e (.agg [(.sl), (.int .i64), (.int .i64), (.sl), (.int .i64), (.int .i64), (.map)]))⟩,
  ⟨119, .struct #[{ name := "from", type := 55, offset := 0, embedded := false, tag := "", pkgPath := "pilaster/pilasterref50", byteOffset := 0 }, { name := "to", type := 55, offset := 1, embedded := false, tag := "", pkgPath := "pilaster/pilasterref50", byteOffset := 24 }], 2, 48, some (.agg ⟨[(.slice none 0 0), (.slice none 0 0)]⟩), (.e (.agg [(.sl), (.sl)]))⟩,
  ⟨122, .slice 124, 1, 24, some (.slice none 0 0), (.e (.one (.sl)))⟩,
  ⟨124, .struct #[{ name := "v", type := 41, offset := 0, embedded := false, tag := "", pkgPath := "pilaster/collect", byteOffset := 0 }, { name := "w", type := 41, offset := 2, embedded := false, tag := "", pkgPath := "pilaster/collect", byteOffset := 16 }], 4, 32, some (.agg ⟨[(.bool false), (.int .i64 (0 : Int)), (.bool false), (.int .i64 (0 : Int))]⟩), (.e (.agg [(.bool), (.int .i64), (.bool), (.int .i64)]))⟩,
  ⟨126, .tuple #[3, 4], 1, 0, some (.tuple ⟨[(.int .i64 (0 : Int)), (.bool false)]⟩), (.tup [(.one (.int .i64)), (.one (.bool))])⟩]
theorem TTok : TOk Try.prog TT := tok_of (by kernel_rfl)
def FNS : List Nat := [20, 21, 23, 25, 26, 30, 32, 34, 35, 36, 38, 39, 41, 42, 43, 44, 45, 46, 47, 48, 49, 53, 54, 55, 56, 57, 58, 68, 76, 81, 82, 83, 84, 85, 86, 90, 91, 93, 106, 107]
theorem FNSok : FOk Try.prog FNS := fok_of (by kernel_rfl)
theorem mixed : Try.prog.follows .mixedOrders = true := by kernel_rfl
def TCH : List Nat := [89, 106, 107]

/- 8 pilaster/pilasterlaw50.CollectData -/
noncomputable def c8 : Code := match Try.f8.body with
  | some c => c
  | none => .skip
noncomputable def cfg8 : Cfg := ⟨Try.prog, TT, FNS, [2, 5], [(2, 2), (5, 5)], [], TCH, false, false⟩
def an8 : AnnG := (.seq .leaf (.seq (.seq .leaf (.cond (.seq .leaf .leaf) .leaf)) (.join ⟨[], [], []⟩ (.seq .leaf (.cond (.seq .leaf .leaf) .leaf)) (.seq .leaf (.seq (.seq .leaf (.cond (.seq .leaf .leaf) .leaf)) (.seq (.seq .leaf (.cond (.seq .leaf .leaf) .leaf)) (.seq (.seq .leaf (.blk (.loop ⟨[(38, .int .i64)], [], []⟩ (.seq .leaf (.seq (.cond .leaf .leaf) (.seq (.blk (.seq .leaf (.seq (.seq (.tree 10 (.quiet 0 (.quiet 1 (.quiet 2 (.quiet 3 (.quiet 4 (.quiet 5 (.quiet 6 (.quiet 7 (.quiet 8 (.quiet 9 .fin))))))))))) (.cond (.seq .leaf .leaf) .leaf)) (.seq .leaf (.blk (.loop ⟨[(54, .int .i64)], [], []⟩ (.seq .leaf (.seq (.cond .leaf .leaf) (.seq (.blk (.seq .leaf (.seq (.tree 18 (.quiet 0 (.quiet 1 (.quiet 2 (.quiet 3 (.quiet 4 (.quiet 5 (.quiet 6 (.quiet 7 (.quiet 8 (.quiet 9 (.quiet 10 (.quiet 11 (.quiet 12 (.quiet 13 (.quiet 14 (.quiet 15 (.quiet 16 (.quiet 17 .fin))))))))))))))))))) (.cond (.seq .leaf .leaf) .leaf)))) .leaf))))))))) .leaf)))))) (.seq .leaf .leaf))))))))
def F8 (h0a : Option Addr) (h0l : Nat) (h0c : Nat) (h1 : Int) (h2 : Int) (rootsa : Option Addr) (rootsl : Nat) (rootsc : Nat) (g : G) (R : Value → G → Prop) : Prop :=
  ∀ g1 : G, Ex g g1 →
  (CallsP Try.prog 41 #[] g1 fun v g2 =>
  ∃ x : Bool, v = (.bool x) ∧ ifB (!x)
  (∀ g3 : G, Ex g2 g3 →
  R (.bool false) g3)
  (∀ J : G → Prop,
  (∀ g4 : G, ((CallsP Try.prog 43 #[(.agg ⟨[(.slice h0a h0l h0c), (.int .i64 h1), (.int .i64 h2)]⟩), (.slice rootsa rootsl rootsc)] g4 fun v g5 =>
  ∃ x00a : Option Addr, ∃ x00l : Nat, ∃ x00c : Nat, ∃ x01 : Int, ∃ x02 : Int, ∃ x1a : Option Addr, ∃ x1l : Nat, ∃ x1c : Nat, ∃ x2 : Int, v = (.tuple ⟨[(.agg ⟨[(.slice x00a x00l x00c), (.int .i64 x01), (.int .i64 x02)]⟩), (.slice x1a x1l x1c), (.int .i64 x2)]⟩) ∧ ifB (!eqI x2 (0 : Int))
  (∀ g6 : G, Ex g5 g6 →
  (CallsP Try.prog 44 #[(.agg ⟨[(.slice x00a x00l x00c), (.int .i64 x01), (.int .i64 x02)]⟩)] g6 fun v g7 =>
  ∃ x_1 : Bool, v = (.bool x_1) ∧ ∀ g8 : G, Ex g7 g8 →
  R (.bool x_1) g8))
  (ifB (!eqI ((x1l : Nat) : Int) ((rootsl : Nat) : Int))
  (∀ g9 : G, Ex g5 g9 →
  R (.bool false) g9)
  (∃ Inv : Nat → Int → G → Prop, (∀ g10 : G, Ex g5 g10 →
  (∃ m0 : Nat, Inv m0 (0 : Int) g10)) ∧
  ∀ m : Nat, ∀ v_1 : Int, ∀ g11 : G, Le g5 g11 → Inv m v_1 g11 →
  ifB (ltI v_1 ((rootsl : Nat) : Int))
  (∀ g12 : G, Ex g11 g12 →
  (0 ≤ v_1 ∧ v_1 < ((rootsl : Nat) : Int)) ∧ derefP rootsa fun ad => ∃ x0 : Bool, ∃ x1 : Int, g12.w.cell? (Addr.add ad (Int.toNat v_1 * 2)) = some (.bool x0) ∧ g12.w.cell? (Addr.add (Addr.add ad (Int.toNat v_1 * 2)) 1) = some (.int .i64 x1) ∧ (0 ≤ v_1 ∧ v_1 < ((x1l : Nat) : Int)) ∧ derefP x1a fun ad_1 => ∃ x0_1 : Bool, ∃ x1_1 : Int, g12.w.cell? (Addr.add ad_1 (Int.toNat v_1 * 2)) = some (.bool x0_1) ∧ g12.w.cell? (Addr.add (Addr.add ad_1 (Int.toNat v_1 * 2)) 1) = some (.int .i64 x1_1) ∧ (CallsP Try.prog 45 #[(.agg ⟨[(.slice h0a h0l h0c), (.int .i64 h1), (.int .i64 h2)]⟩), (.agg ⟨[(.slice x00a x00l x00c), (.int .i64 x01), (.int .i64 x02)]⟩), (.agg ⟨[(.bool x0), (.int .i64 x1)]⟩), (.agg ⟨[(.bool x0_1), (.int .i64 x1_1)]⟩), (.int .i64 (1 : Int))] g12 fun v g13 =>
  ∃ x_2 : Bool, v = (.bool x_2) ∧ ifB (!x_2)
  (∀ g14 : G, Ex g13 g14 →
  R (.bool false) g14)
  (∃ Inv_1 : Nat → Int → G → Prop, ((∃ m0 : Nat, Inv_1 m0 (0 : Int) g13)) ∧
  ∀ m_2 : Nat, ∀ v_2 : Int, ∀ g15 : G, Le g13 g15 → Inv_1 m_2 v_2 g15 →
  ifB (ltI v_2 v_1)
  (∀ g16 : G, Ex g15 g16 →
  (0 ≤ v_1 ∧ v_1 < ((rootsl : Nat) : Int)) ∧ derefP rootsa fun ad_2 => ∃ x0_2 : Bool, ∃ x1_2 : Int, g16.w.cell? (Addr.add ad_2 (Int.toNat v_1 * 2)) = some (.bool x0_2) ∧ g16.w.cell? (Addr.add (Addr.add ad_2 (Int.toNat v_1 * 2)) 1) = some (.int .i64 x1_2) ∧ (0 ≤ v_2 ∧ v_2 < ((rootsl : Nat) : Int)) ∧ derefP rootsa fun ad_3 => ∃ x0_3 : Bool, ∃ x1_3 : Int, g16.w.cell? (Addr.add ad_3 (Int.toNat v_2 * 2)) = some (.bool x0_3) ∧ g16.w.cell? (Addr.add (Addr.add ad_3 (Int.toNat v_2 * 2)) 1) = some (.int .i64 x1_3) ∧ (0 ≤ v_1 ∧ v_1 < ((x1l : Nat) : Int)) ∧ derefP x1a fun ad_4 => ∃ x0_4 : Bool, ∃ x1_4 : Int, g16.w.cell? (Addr.add ad_4 (Int.toNat v_1 * 2)) = some (.bool x0_4) ∧ g16.w.cell? (Addr.add (Addr.add ad_4 (Int.toNat v_1 * 2)) 1) = some (.int .i64 x1_4) ∧ (0 ≤ v_2 ∧ v_2 < ((x1l : Nat) : Int)) ∧ derefP x1a fun ad_5 => ∃ x0_5 : Bool, ∃ x1_5 : Int, g16.w.cell? (Addr.add ad_5 (Int.toNat v_2 * 2)) = some (.bool x0_5) ∧ g16.w.cell? (Addr.add (Addr.add ad_5 (Int.toNat v_2 * 2)) 1) = some (.int .i64 x1_5) ∧ ifB (!(((x0_2 == x0_3) && ((eqI x1_2 x1_3) && true)) == ((x0_4 == x0_5) && ((eqI x1_4 x1_5) && true))))
  (∀ g17 : G, Ex g16 g17 →
  R (.bool false) g17)
  (InI64 (v_2 + (1 : Int)) ∧ (∃ m_3 : Nat, m_3 < m_2 ∧ Inv_1 m_3 (v_2 + (1 : Int)) g16)))
  (InI64 (v_1 + (1 : Int)) ∧ (∃ m_1 : Nat, m_1 < m ∧ Inv m_1 (v_1 + (1 : Int)) g15)))))
  (∀ g18 : G, Ex g11 g18 →
  R (.bool true) g18))))) → J g4) →
  (CallsP Try.prog 42 #[(.agg ⟨[(.slice h0a h0l h0c), (.int .i64 h1), (.int .i64 h2)]⟩), (.slice rootsa rootsl rootsc)] g2 fun v g19 =>
  ∃ x_3 : Bool, v = (.bool x_3) ∧ ifB x_3
  (∀ g20 : G, Ex g19 g20 →
  R (.bool true) g20)
  (ifB (ltI (100 : Int) ((rootsl : Nat) : Int))
  (∀ g21 : G, Ex g19 g21 →
  R (.bool true) g21)
  (J g19)))))
theorem F8_eq (h0a : Option Addr) (h0l : Nat) (h0c : Nat) (h1 : Int) (h2 : Int) (rootsa : Option Addr) (rootsl : Nat) (rootsc : Nat) (g : G) (R : Value → G → Prop) : fnG cfg8 78 [.tmp 4] c8 an8 [(.agg ⟨[(.slice h0a h0l h0c), (.int .i64 h1), (.int .i64 h2)]⟩), (.slice rootsa rootsl rootsc)] g nobody R = F8 h0a h0l h0c h1 h2 rootsa rootsl rootsc g R := by kernel_rfl
theorem call8 (h0a : Option Addr) (h0l : Nat) (h0c : Nat) (h1 : Int) (h2 : Int) (rootsa : Option Addr) (rootsl : Nat) (rootsc : Nat) (g : G) (R : Value → G → Prop) (hF : F8 h0a h0l h0c h1 h2 rootsa rootsl rootsc g R) : CallsG Try.prog 8 #[(.agg ⟨[(.slice h0a h0l h0c), (.int .i64 h1), (.int .i64 h2)]⟩), (.slice rootsa rootsl rootsc)] g nobody R :=
  fn_soundG (c := cfg8) TTok FNSok mixed Try.func8 (show Try.f8.body = some c8 by kernel_rfl) (show Try.f8.ntmps = 78 by kernel_rfl) (show Try.f8.results.toList = [.tmp 4] by kernel_rfl) rfl ((F8_eq h0a h0l h0c h1 h2 rootsa rootsl rootsc g R).mpr hF)

/- 9 pilaster/pilasterlaw50.CollectRoom -/
noncomputable def c9 : Code := match Try.f9.body with
  | some c => c
  | none => .skip
noncomputable def cfg9 : Cfg := ⟨Try.prog, TT, FNS, [3, 7, 11], [(3, 3), (7, 7), (11, 11), (53, 3), (55, 3), (72, 3)], [], TCH, false, false⟩
def an9 : AnnG := (.seq .leaf (.seq (.seq .leaf (.cond (.seq .leaf .leaf) .leaf)) (.seq (.seq .leaf (.cond (.seq .leaf .leaf) .leaf)) (.seq .leaf (.seq .leaf (.join ⟨[(10, .int .i64)], [], []⟩ (.seq .leaf (.cond .leaf .leaf)) (.seq (.seq .leaf (.cond (.seq .leaf .leaf) .leaf)) (.seq (.seq .leaf (.cond (.seq .leaf .leaf) .leaf)) (.seq (.seq (.tree 7 (.quiet 0 (.quiet 1 (.quiet 2 (.quiet 3 (.quiet 6 (.eff 4 (.quiet 5 .fin) .fin))))))) (.cond (.seq .leaf .leaf) .leaf)) (.seq .leaf (.seq .leaf .leaf)))))))))))
def F9 (h0a : Option Addr) (h0l : Nat) (h0c : Nat) (h1 : Int) (h2 : Int) (rootsa : Option Addr) (rootsl : Nat) (rootsc : Nat) (need : Int) (g : G) (R : Value → G → Prop) : Prop :=
  ∀ g1 : G, Ex g g1 →
  (CallsP Try.prog 41 #[] g1 fun v g2 =>
  ∃ x : Bool, v = (.bool x) ∧ ifB (!x)
  (∀ g3 : G, Ex g2 g3 →
  R (.bool false) g3)
  ((CallsP Try.prog 42 #[(.agg ⟨[(.slice h0a h0l h0c), (.int .i64 h1), (.int .i64 h2)]⟩), (.slice rootsa rootsl rootsc)] g2 fun v g4 =>
  ∃ x_1 : Bool, v = (.bool x_1) ∧ ifB x_1
  (∀ g5 : G, Ex g4 g5 →
  R (.bool true) g5)
  ((CallsP Try.prog 46 #[(.agg ⟨[(.slice h0a h0l h0c), (.int .i64 h1), (.int .i64 h2)]⟩), (.slice rootsa rootsl rootsc), (.int .i64 need)] g4 fun v g6 =>
  ∃ x00a : Option Addr, ∃ x00l : Nat, ∃ x00c : Nat, ∃ x01 : Int, ∃ x02 : Int, ∃ x1a : Option Addr, ∃ x1l : Nat, ∃ x1c : Nat, ∃ x2 : Int, v = (.tuple ⟨[(.agg ⟨[(.slice x00a x00l x00c), (.int .i64 x01), (.int .i64 x02)]⟩), (.slice x1a x1l x1c), (.int .i64 x2)]⟩) ∧ ∀ g7 : G, Ex g6 g7 →
  (CallsP Try.prog 47 #[(.agg ⟨[(.slice h0a h0l h0c), (.int .i64 h1), (.int .i64 h2)]⟩), (.slice rootsa rootsl rootsc)] g7 fun v g8 =>
  ∃ fault : Int, v = (.int .i64 fault) ∧ ∀ J : Int → G → Prop,
  (∀ fault_1 : Int, ∀ g9 : G, (ifB (!eqI fault_1 (0 : Int))
  (ifB (eqI x2 fault_1)
  ((CallsP Try.prog 44 #[(.agg ⟨[(.slice x00a x00l x00c), (.int .i64 x01), (.int .i64 x02)]⟩)] g9 fun v g10 =>
  ∃ x_2 : Bool, v = (.bool x_2) ∧ ifB x_2
  (∀ g11 : G, Ex g10 g11 →
  R (.bool (eqI ((x1l : Nat) : Int) (0 : Int))) g11)
  (∀ g12 : G, Ex g10 g12 →
  R (.bool false) g12)))
  (∀ g13 : G, Ex g9 g13 →
  R (.bool false) g13))
  (InI64 (h2 - h1) ∧ ifB (leI need (h2 - h1))
  (ifB (eqI x2 (0 : Int))
  ((CallsP Try.prog 20 #[(.agg ⟨[(.slice x00a x00l x00c), (.int .i64 x01), (.int .i64 x02)]⟩), (.agg ⟨[(.slice h0a h0l h0c), (.int .i64 h1), (.int .i64 h2)]⟩)] g9 fun v g14 =>
  ∃ x_3 : Bool, v = (.bool x_3) ∧ ifB x_3
  ((CallsP Try.prog 39 #[(.slice x1a x1l x1c), (.slice rootsa rootsl rootsc)] g14 fun v g15 =>
  ∃ x_4 : Bool, v = (.bool x_4) ∧ ∀ g16 : G, Ex g15 g16 →
  R (.bool x_4) g16))
  (∀ g17 : G, Ex g14 g17 →
  R (.bool false) g17)))
  (∀ g18 : G, Ex g9 g18 →
  R (.bool false) g18))
  (∀ g19 : G, Ex g9 g19 →
  (CallsP Try.prog 48 #[(.agg ⟨[(.slice h0a h0l h0c), (.int .i64 h1), (.int .i64 h2)]⟩), (.slice rootsa rootsl rootsc)] g19 fun v g20 =>
  ∃ x_5 : Int, v = (.int .i64 x_5) ∧ InI64 (h2 - x_5) ∧ ifB (ltI (h2 - x_5) need)
  (ifB (eqI x2 (25 : Int))
  ((CallsP Try.prog 44 #[(.agg ⟨[(.slice x00a x00l x00c), (.int .i64 x01), (.int .i64 x02)]⟩)] g20 fun v g21 =>
  ∃ x_6 : Bool, v = (.bool x_6) ∧ ifB x_6
  (∀ g22 : G, Ex g21 g22 →
  R (.bool (eqI ((x1l : Nat) : Int) (0 : Int))) g22)
  (∀ g23 : G, Ex g21 g23 →
  R (.bool false) g23)))
  (∀ g24 : G, Ex g20 g24 →
  R (.bool false) g24))
  ((CallsP Try.prog 49 #[(.agg ⟨[(.slice h0a h0l h0c), (.int .i64 h1), (.int .i64 h2)]⟩), (.slice rootsa rootsl rootsc)] g20 fun v g25 =>
  ∃ x00a_1 : Option Addr, ∃ x00l_1 : Nat, ∃ x00c_1 : Nat, ∃ x01_1 : Int, ∃ x02_1 : Int, ∃ x1a_1 : Option Addr, ∃ x1l_1 : Nat, ∃ x1c_1 : Nat, v = (.tuple ⟨[(.agg ⟨[(.slice x00a_1 x00l_1 x00c_1), (.int .i64 x01_1), (.int .i64 x02_1)]⟩), (.slice x1a_1 x1l_1 x1c_1)]⟩) ∧ ifB (eqI x2 (0 : Int))
  (∀ g26 : G, Ex g25 g26 →
  (CallsP Try.prog 20 #[(.agg ⟨[(.slice x00a x00l x00c), (.int .i64 x01), (.int .i64 x02)]⟩), (.agg ⟨[(.slice x00a_1 x00l_1 x00c_1), (.int .i64 x01_1), (.int .i64 x02_1)]⟩)] g26 fun v g27 =>
  ∃ x_7 : Bool, v = (.bool x_7) ∧ ifB x_7
  ((CallsP Try.prog 39 #[(.slice x1a x1l x1c), (.slice x1a_1 x1l_1 x1c_1)] g27 fun v g28 =>
  ∃ x_8 : Bool, v = (.bool x_8) ∧ ∀ g29 : G, Ex g28 g29 →
  R (.bool x_8) g29))
  (∀ g30 : G, Ex g27 g30 →
  R (.bool false) g30)))
  (∀ g31 : G, Ex g25 g31 →
  R (.bool false) g31))))))) → J fault_1 g9) →
  ifB (eqI fault (0 : Int))
  (ifB (ltI need (0 : Int))
  (J (2 : Int) g8)
  (ifB (ltI (65536 : Int) need)
  (J (2 : Int) g8)
  (J fault g8)))
  (J fault g8)))))))
theorem F9_eq (h0a : Option Addr) (h0l : Nat) (h0c : Nat) (h1 : Int) (h2 : Int) (rootsa : Option Addr) (rootsl : Nat) (rootsc : Nat) (need : Int) (g : G) (R : Value → G → Prop) : fnG cfg9 109 [.tmp 6] c9 an9 [(.agg ⟨[(.slice h0a h0l h0c), (.int .i64 h1), (.int .i64 h2)]⟩), (.slice rootsa rootsl rootsc), (.int .i64 need)] g nobody R = F9 h0a h0l h0c h1 h2 rootsa rootsl rootsc need g R := by kernel_rfl
theorem call9 (h0a : Option Addr) (h0l : Nat) (h0c : Nat) (h1 : Int) (h2 : Int) (rootsa : Option Addr) (rootsl : Nat) (rootsc : Nat) (need : Int) (g : G) (R : Value → G → Prop) (hF : F9 h0a h0l h0c h1 h2 rootsa rootsl rootsc need g R) : CallsG Try.prog 9 #[(.agg ⟨[(.slice h0a h0l h0c), (.int .i64 h1), (.int .i64 h2)]⟩), (.slice rootsa rootsl rootsc), (.int .i64 need)] g nobody R :=
  fn_soundG (c := cfg9) TTok FNSok mixed Try.func9 (show Try.f9.body = some c9 by kernel_rfl) (show Try.f9.ntmps = 109 by kernel_rfl) (show Try.f9.results.toList = [.tmp 6] by kernel_rfl) rfl ((F9_eq h0a h0l h0c h1 h2 rootsa rootsl rootsc need g R).mpr hF)

/- 11 pilaster/pilasterlaw50.CollectSame -/
noncomputable def c11 : Code := match Try.f11.body with
  | some c => c
  | none => .skip
noncomputable def cfg11 : Cfg := ⟨Try.prog, TT, FNS, [4, 6], [(4, 4), (6, 6)], [], TCH, false, false⟩
def an11 : AnnG := (.seq .leaf (.seq (.seq .leaf (.cond (.seq .leaf .leaf) .leaf)) (.join ⟨[], [], []⟩ (.seq .leaf (.cond (.seq .leaf .leaf) .leaf)) (.seq .leaf (.seq .leaf (.seq .leaf (.join ⟨[(13, .int .i64)], [], []⟩ (.seq .leaf (.cond .leaf .leaf)) (.seq (.seq .leaf (.cond (.seq .leaf .leaf) .leaf)) (.seq .leaf (.seq .leaf .leaf))))))))))
def F11 (a0a : Option Addr) (a0l : Nat) (a0c : Nat) (a1 : Int) (a2 : Int) (xa : Option Addr) (xl : Nat) (xc : Nat) (b0a : Option Addr) (b0l : Nat) (b0c : Nat) (b1 : Int) (b2 : Int) (ya : Option Addr) (yl : Nat) (yc : Nat) (g : G) (R : Value → G → Prop) : Prop :=
  ∀ g1 : G, Ex g g1 →
  (CallsP Try.prog 41 #[] g1 fun v g2 =>
  ∃ x : Bool, v = (.bool x) ∧ ifB (!x)
  (∀ g3 : G, Ex g2 g3 →
  R (.bool false) g3)
  (∀ J : G → Prop,
  (∀ g4 : G, ((CallsP Try.prog 53 #[(.agg ⟨[(.slice a0a a0l a0c), (.int .i64 a1), (.int .i64 a2)]⟩), (.slice xa xl xc), (.agg ⟨[(.slice b0a b0l b0c), (.int .i64 b1), (.int .i64 b2)]⟩), (.slice ya yl yc)] g4 fun v g5 =>
  ∃ x0 : Bool, ∃ x1 : Int, v = (.tuple ⟨[(.bool x0), (.int .i64 x1)]⟩) ∧ (CallsP Try.prog 53 #[(.agg ⟨[(.slice b0a b0l b0c), (.int .i64 b1), (.int .i64 b2)]⟩), (.slice ya yl yc), (.agg ⟨[(.slice a0a a0l a0c), (.int .i64 a1), (.int .i64 a2)]⟩), (.slice xa xl xc)] g5 fun v g6 =>
  ∃ x0_1 : Bool, ∃ x1_1 : Int, v = (.tuple ⟨[(.bool x0_1), (.int .i64 x1_1)]⟩) ∧ (CallsP Try.prog 47 #[(.agg ⟨[(.slice a0a a0l a0c), (.int .i64 a1), (.int .i64 a2)]⟩), (.slice xa xl xc)] g6 fun v g7 =>
  ∃ fault : Int, v = (.int .i64 fault) ∧ ∀ J_1 : Int → G → Prop,
  (∀ fault_1 : Int, ∀ g8 : G, (ifB (!eqI fault_1 (0 : Int))
  (ifB (eqI x1 fault_1)
  (ifB (!x0)
  (ifB (!eqI x1_1 (0 : Int))
  (∀ g9 : G, Ex g8 g9 →
  R (.bool (!x0_1)) g9)
  (∀ g10 : G, Ex g8 g10 →
  R (.bool false) g10))
  (∀ g11 : G, Ex g8 g11 →
  R (.bool false) g11))
  (∀ g12 : G, Ex g8 g12 →
  R (.bool false) g12))
  ((CallsP Try.prog 54 #[(.agg ⟨[(.slice a0a a0l a0c), (.int .i64 a1), (.int .i64 a2)]⟩), (.slice xa xl xc), (.agg ⟨[(.slice b0a b0l b0c), (.int .i64 b1), (.int .i64 b2)]⟩), (.slice ya yl yc)] g8 fun v g13 =>
  ∃ want : Bool, v = (.bool want) ∧ ifB (eqI x1 (0 : Int))
  (ifB (x0 == want)
  (ifB (eqI x1_1 (0 : Int))
  (∀ g14 : G, Ex g13 g14 →
  R (.bool (x0_1 == want)) g14)
  (∀ g15 : G, Ex g13 g15 →
  R (.bool false) g15))
  (∀ g16 : G, Ex g13 g16 →
  R (.bool false) g16))
  (∀ g17 : G, Ex g13 g17 →
  R (.bool false) g17)))) → J_1 fault_1 g8) →
  ifB (eqI fault (0 : Int))
  ((CallsP Try.prog 47 #[(.agg ⟨[(.slice b0a b0l b0c), (.int .i64 b1), (.int .i64 b2)]⟩), (.slice ya yl yc)] g7 fun v g18 =>
  ∃ fault_2 : Int, v = (.int .i64 fault_2) ∧ J_1 fault_2 g18))
  (J_1 fault g7))))) → J g4) →
  (CallsP Try.prog 42 #[(.agg ⟨[(.slice a0a a0l a0c), (.int .i64 a1), (.int .i64 a2)]⟩), (.slice xa xl xc)] g2 fun v g19 =>
  ∃ x_1 : Bool, v = (.bool x_1) ∧ ifB x_1
  (∀ g20 : G, Ex g19 g20 →
  R (.bool true) g20)
  ((CallsP Try.prog 42 #[(.agg ⟨[(.slice b0a b0l b0c), (.int .i64 b1), (.int .i64 b2)]⟩), (.slice ya yl yc)] g19 fun v g21 =>
  ∃ x_2 : Bool, v = (.bool x_2) ∧ ifB x_2
  (∀ g22 : G, Ex g21 g22 →
  R (.bool true) g22)
  (J g21))))))
theorem F11_eq (a0a : Option Addr) (a0l : Nat) (a0c : Nat) (a1 : Int) (a2 : Int) (xa : Option Addr) (xl : Nat) (xc : Nat) (b0a : Option Addr) (b0l : Nat) (b0c : Nat) (b1 : Int) (b2 : Int) (ya : Option Addr) (yl : Nat) (yc : Nat) (g : G) (R : Value → G → Prop) : fnG cfg11 87 [.tmp 8] c11 an11 [(.agg ⟨[(.slice a0a a0l a0c), (.int .i64 a1), (.int .i64 a2)]⟩), (.slice xa xl xc), (.agg ⟨[(.slice b0a b0l b0c), (.int .i64 b1), (.int .i64 b2)]⟩), (.slice ya yl yc)] g nobody R = F11 a0a a0l a0c a1 a2 xa xl xc b0a b0l b0c b1 b2 ya yl yc g R := by kernel_rfl
theorem call11 (a0a : Option Addr) (a0l : Nat) (a0c : Nat) (a1 : Int) (a2 : Int) (xa : Option Addr) (xl : Nat) (xc : Nat) (b0a : Option Addr) (b0l : Nat) (b0c : Nat) (b1 : Int) (b2 : Int) (ya : Option Addr) (yl : Nat) (yc : Nat) (g : G) (R : Value → G → Prop) (hF : F11 a0a a0l a0c a1 a2 xa xl xc b0a b0l b0c b1 b2 ya yl yc g R) : CallsG Try.prog 11 #[(.agg ⟨[(.slice a0a a0l a0c), (.int .i64 a1), (.int .i64 a2)]⟩), (.slice xa xl xc), (.agg ⟨[(.slice b0a b0l b0c), (.int .i64 b1), (.int .i64 b2)]⟩), (.slice ya yl yc)] g nobody R :=
  fn_soundG (c := cfg11) TTok FNSok mixed Try.func11 (show Try.f11.body = some c11 by kernel_rfl) (show Try.f11.ntmps = 87 by kernel_rfl) (show Try.f11.results.toList = [.tmp 8] by kernel_rfl) rfl ((F11_eq a0a a0l a0c a1 a2 xa xl xc b0a b0l b0c b1 b2 ya yl yc g R).mpr hF)

/- 12 pilaster/pilasterlaw50.CollectGarbage -/
noncomputable def c12 : Code := match Try.f12.body with
  | some c => c
  | none => .skip
noncomputable def cfg12 : Cfg := ⟨Try.prog, TT, FNS, [3, 5, 7, 10, 11, 13], [(3, 3), (5, 5), (7, 7), (10, 10), (11, 11), (13, 13)], [], TCH, false, false⟩
def an12 : AnnG := (.seq .leaf (.seq (.seq .leaf (.cond (.seq .leaf .leaf) .leaf)) (.join ⟨[], [], []⟩ (.seq .leaf (.cond (.seq .leaf .leaf) .leaf)) (.seq .leaf (.seq (.seq .leaf (.cond (.seq .leaf .leaf) .leaf)) (.seq .leaf (.seq (.seq .leaf (.cond (.seq .leaf .leaf) .leaf)) (.seq .leaf (.seq .leaf (.seq .leaf (.seq .leaf .leaf)))))))))))
def F12 (h0a : Option Addr) (h0l : Nat) (h0c : Nat) (h1 : Int) (h2 : Int) (rootsa : Option Addr) (rootsl : Nat) (rootsc : Nat) (v0 : Int) (v1 : Int) (v2 : ByteArray) (v3a : Option Addr) (v3l : Nat) (v3c : Nat) (v4a : Option Addr) (v4l : Nat) (v4c : Nat) (g : G) (R : Value → G → Prop) : Prop :=
  ∀ g1 : G, Ex g g1 →
  (CallsP Try.prog 41 #[] g1 fun v g2 =>
  ∃ x : Bool, v = (.bool x) ∧ ifB (!x)
  (∀ g3 : G, Ex g2 g3 →
  R (.bool false) g3)
  (∀ J : G → Prop,
  (∀ g4 : G, ((CallsP Try.prog 43 #[(.agg ⟨[(.slice h0a h0l h0c), (.int .i64 h1), (.int .i64 h2)]⟩), (.slice rootsa rootsl rootsc)] g4 fun v g5 =>
  ∃ x00a : Option Addr, ∃ x00l : Nat, ∃ x00c : Nat, ∃ x01 : Int, ∃ x02 : Int, ∃ x1a : Option Addr, ∃ x1l : Nat, ∃ x1c : Nat, ∃ x2 : Int, v = (.tuple ⟨[(.agg ⟨[(.slice x00a x00l x00c), (.int .i64 x01), (.int .i64 x02)]⟩), (.slice x1a x1l x1c), (.int .i64 x2)]⟩) ∧ ifB (!eqI x2 (0 : Int))
  (∀ g6 : G, Ex g5 g6 →
  (CallsP Try.prog 44 #[(.agg ⟨[(.slice x00a x00l x00c), (.int .i64 x01), (.int .i64 x02)]⟩)] g6 fun v g7 =>
  ∃ x_1 : Bool, v = (.bool x_1) ∧ ∀ g8 : G, Ex g7 g8 →
  R (.bool x_1) g8))
  (∀ g9 : G, Ex g5 g9 →
  (CallsP Try.prog 26 #[(.agg ⟨[(.slice h0a h0l h0c), (.int .i64 h1), (.int .i64 h2)]⟩), (.agg ⟨[(.int .i64 v0), (.int .i64 v1), (.string v2), (.slice v3a v3l v3c), (.slice v4a v4l v4c)]⟩)] g9 fun v g10 =>
  ∃ x00a_1 : Option Addr, ∃ x00l_1 : Nat, ∃ x00c_1 : Nat, ∃ x01_1 : Int, ∃ x02_1 : Int, ∃ x10 : Bool, ∃ x11 : Int, ∃ x2_1 : Int, v = (.tuple ⟨[(.agg ⟨[(.slice x00a_1 x00l_1 x00c_1), (.int .i64 x01_1), (.int .i64 x02_1)]⟩), (.agg ⟨[(.bool x10), (.int .i64 x11)]⟩), (.int .i64 x2_1)]⟩) ∧ ifB (!eqI x2_1 (0 : Int))
  (∀ g11 : G, Ex g10 g11 →
  (CallsP Try.prog 44 #[(.agg ⟨[(.slice x00a_1 x00l_1 x00c_1), (.int .i64 x01_1), (.int .i64 x02_1)]⟩)] g11 fun v g12 =>
  ∃ x_2 : Bool, v = (.bool x_2) ∧ ∀ g13 : G, Ex g12 g13 →
  R (.bool x_2) g13))
  (∀ g14 : G, Ex g10 g14 →
  (CallsP Try.prog 43 #[(.agg ⟨[(.slice x00a_1 x00l_1 x00c_1), (.int .i64 x01_1), (.int .i64 x02_1)]⟩), (.slice rootsa rootsl rootsc)] g14 fun v g15 =>
  ∃ x00a_2 : Option Addr, ∃ x00l_2 : Nat, ∃ x00c_2 : Nat, ∃ x01_2 : Int, ∃ x02_2 : Int, ∃ x1a_1 : Option Addr, ∃ x1l_1 : Nat, ∃ x1c_1 : Nat, ∃ x2_2 : Int, v = (.tuple ⟨[(.agg ⟨[(.slice x00a_2 x00l_2 x00c_2), (.int .i64 x01_2), (.int .i64 x02_2)]⟩), (.slice x1a_1 x1l_1 x1c_1), (.int .i64 x2_2)]⟩) ∧ ∀ g16 : G, Ex g15 g16 →
  (CallsP Try.prog 56 #[(.agg ⟨[(.slice h0a h0l h0c), (.int .i64 h1), (.int .i64 h2)]⟩), (.slice rootsa rootsl rootsc)] g16 fun v g17 =>
  ∃ x0 : Int, ∃ x1 : Int, v = (.tuple ⟨[(.int .i64 x0), (.int .i64 x1)]⟩) ∧ (CallsP Try.prog 56 #[(.agg ⟨[(.slice x00a_1 x00l_1 x00c_1), (.int .i64 x01_1), (.int .i64 x02_1)]⟩), (.slice rootsa rootsl rootsc)] g17 fun v g18 =>
  ∃ x0_1 : Int, ∃ x1_1 : Int, v = (.tuple ⟨[(.int .i64 x0_1), (.int .i64 x1_1)]⟩) ∧ ifB (eqI x2_2 (0 : Int))
  ((CallsP Try.prog 20 #[(.agg ⟨[(.slice x00a x00l x00c), (.int .i64 x01), (.int .i64 x02)]⟩), (.agg ⟨[(.slice x00a_2 x00l_2 x00c_2), (.int .i64 x01_2), (.int .i64 x02_2)]⟩)] g18 fun v g19 =>
  ∃ x_3 : Bool, v = (.bool x_3) ∧ ifB x_3
  ((CallsP Try.prog 39 #[(.slice x1a x1l x1c), (.slice x1a_1 x1l_1 x1c_1)] g19 fun v g20 =>
  ∃ x_4 : Bool, v = (.bool x_4) ∧ ifB x_4
  (ifB (eqI x1 (0 : Int))
  (ifB (eqI x1_1 (0 : Int))
  (∀ g21 : G, Ex g20 g21 →
  R (.bool (eqI x0 x0_1)) g21)
  (∀ g22 : G, Ex g20 g22 →
  R (.bool false) g22))
  (∀ g23 : G, Ex g20 g23 →
  R (.bool false) g23))
  (∀ g24 : G, Ex g20 g24 →
  R (.bool false) g24)))
  (∀ g25 : G, Ex g19 g25 →
  R (.bool false) g25)))
  (∀ g26 : G, Ex g18 g26 →
  R (.bool false) g26))))))))) → J g4) →
  (CallsP Try.prog 42 #[(.agg ⟨[(.slice h0a h0l h0c), (.int .i64 h1), (.int .i64 h2)]⟩), (.slice rootsa rootsl rootsc)] g2 fun v g27 =>
  ∃ x_5 : Bool, v = (.bool x_5) ∧ ifB x_5
  (∀ g28 : G, Ex g27 g28 →
  R (.bool true) g28)
  (ifB (ltI (100 : Int) ((rootsl : Nat) : Int))
  (∀ g29 : G, Ex g27 g29 →
  R (.bool true) g29)
  ((CallsP Try.prog 55 #[(.agg ⟨[(.int .i64 v0), (.int .i64 v1), (.string v2), (.slice v3a v3l v3c), (.slice v4a v4l v4c)]⟩), (.int .i64 (30 : Int))] g27 fun v g30 =>
  ∃ x_6 : Int, v = (.int .i64 x_6) ∧ ifB (ltI (60 : Int) x_6)
  (∀ g31 : G, Ex g30 g31 →
  R (.bool true) g31)
  (J g30)))))))
theorem F12_eq (h0a : Option Addr) (h0l : Nat) (h0c : Nat) (h1 : Int) (h2 : Int) (rootsa : Option Addr) (rootsl : Nat) (rootsc : Nat) (v0 : Int) (v1 : Int) (v2 : ByteArray) (v3a : Option Addr) (v3l : Nat) (v3c : Nat) (v4a : Option Addr) (v4l : Nat) (v4c : Nat) (g : G) (R : Value → G → Prop) : fnG cfg12 101 [.tmp 6] c12 an12 [(.agg ⟨[(.slice h0a h0l h0c), (.int .i64 h1), (.int .i64 h2)]⟩), (.slice rootsa rootsl rootsc), (.agg ⟨[(.int .i64 v0), (.int .i64 v1), (.string v2), (.slice v3a v3l v3c), (.slice v4a v4l v4c)]⟩)] g nobody R = F12 h0a h0l h0c h1 h2 rootsa rootsl rootsc v0 v1 v2 v3a v3l v3c v4a v4l v4c g R := by kernel_rfl
theorem call12 (h0a : Option Addr) (h0l : Nat) (h0c : Nat) (h1 : Int) (h2 : Int) (rootsa : Option Addr) (rootsl : Nat) (rootsc : Nat) (v0 : Int) (v1 : Int) (v2 : ByteArray) (v3a : Option Addr) (v3l : Nat) (v3c : Nat) (v4a : Option Addr) (v4l : Nat) (v4c : Nat) (g : G) (R : Value → G → Prop) (hF : F12 h0a h0l h0c h1 h2 rootsa rootsl rootsc v0 v1 v2 v3a v3l v3c v4a v4l v4c g R) : CallsG Try.prog 12 #[(.agg ⟨[(.slice h0a h0l h0c), (.int .i64 h1), (.int .i64 h2)]⟩), (.slice rootsa rootsl rootsc), (.agg ⟨[(.int .i64 v0), (.int .i64 v1), (.string v2), (.slice v3a v3l v3c), (.slice v4a v4l v4c)]⟩)] g nobody R :=
  fn_soundG (c := cfg12) TTok FNSok mixed Try.func12 (show Try.f12.body = some c12 by kernel_rfl) (show Try.f12.ntmps = 101 by kernel_rfl) (show Try.f12.results.toList = [.tmp 6] by kernel_rfl) rfl ((F12_eq h0a h0l h0c h1 h2 rootsa rootsl rootsc v0 v1 v2 v3a v3l v3c v4a v4l v4c g R).mpr hF)

/- 13 pilaster/pilasterlaw50.CollectHeaps -/
noncomputable def c13 : Code := match Try.f13.body with
  | some c => c
  | none => .skip
noncomputable def cfg13 : Cfg := ⟨Try.prog, TT, FNS, [2, 5, 13], [(2, 2), (5, 5), (13, 13)], [], TCH, false, false⟩
def an13 : AnnG := (.seq .leaf (.seq (.seq .leaf (.cond (.seq .leaf .leaf) .leaf)) (.seq (.seq .leaf (.cond (.seq .leaf .leaf) .leaf)) (.seq .leaf (.seq .leaf (.seq .leaf (.seq (.seq .leaf (.seq .leaf (.cond (.seq .leaf .leaf) .leaf))) (.seq .leaf (.seq .leaf .leaf)))))))))
def F13 (h0a : Option Addr) (h0l : Nat) (h0c : Nat) (h1 : Int) (h2 : Int) (rootsa : Option Addr) (rootsl : Nat) (rootsc : Nat) (g : G) (R : Value → G → Prop) : Prop :=
  ∀ g1 : G, Ex g g1 →
  (CallsP Try.prog 41 #[] g1 fun v g2 =>
  ∃ x : Bool, v = (.bool x) ∧ ifB (!x)
  (∀ g3 : G, Ex g2 g3 →
  R (.bool false) g3)
  ((CallsP Try.prog 42 #[(.agg ⟨[(.slice h0a h0l h0c), (.int .i64 h1), (.int .i64 h2)]⟩), (.slice rootsa rootsl rootsc)] g2 fun v g4 =>
  ∃ x_1 : Bool, v = (.bool x_1) ∧ ifB x_1
  (∀ g5 : G, Ex g4 g5 →
  R (.bool true) g5)
  ((CallsP Try.prog 43 #[(.agg ⟨[(.slice h0a h0l h0c), (.int .i64 h1), (.int .i64 h2)]⟩), (.slice rootsa rootsl rootsc)] g4 fun v g6 =>
  ∃ x00a : Option Addr, ∃ x00l : Nat, ∃ x00c : Nat, ∃ x01 : Int, ∃ x02 : Int, ∃ x1a : Option Addr, ∃ x1l : Nat, ∃ x1c : Nat, ∃ x2 : Int, v = (.tuple ⟨[(.agg ⟨[(.slice x00a x00l x00c), (.int .i64 x01), (.int .i64 x02)]⟩), (.slice x1a x1l x1c), (.int .i64 x2)]⟩) ∧ ∀ g7 : G, Ex g6 g7 →
  (CallsP Try.prog 57 #[(.agg ⟨[(.slice h0a h0l h0c), (.int .i64 h1), (.int .i64 h2)]⟩), (.slice rootsa rootsl rootsc)] g7 fun v g8 =>
  ∃ x0a : Option Addr, ∃ x0l : Nat, ∃ x0c : Nat, ∃ x1 : Int, v = (.tuple ⟨[(.slice x0a x0l x0c), (.int .i64 x1)]⟩) ∧ (CallsP Try.prog 56 #[(.agg ⟨[(.slice h0a h0l h0c), (.int .i64 h1), (.int .i64 h2)]⟩), (.slice rootsa rootsl rootsc)] g8 fun v g9 =>
  ∃ x0 : Int, ∃ x1_1 : Int, v = (.tuple ⟨[(.int .i64 x0), (.int .i64 x1_1)]⟩) ∧ (CallsP Try.prog 47 #[(.agg ⟨[(.slice h0a h0l h0c), (.int .i64 h1), (.int .i64 h2)]⟩), (.slice rootsa rootsl rootsc)] g9 fun v g10 =>
  ∃ fault : Int, v = (.int .i64 fault) ∧ ifB (!eqI fault (0 : Int))
  (ifB (eqI x2 fault)
  ((CallsP Try.prog 44 #[(.agg ⟨[(.slice x00a x00l x00c), (.int .i64 x01), (.int .i64 x02)]⟩)] g10 fun v g11 =>
  ∃ x_2 : Bool, v = (.bool x_2) ∧ ifB x_2
  (ifB (eqI ((x1l : Nat) : Int) (0 : Int))
  (ifB (eqI x1 fault)
  (ifB (eqI ((x0l : Nat) : Int) (0 : Int))
  (ifB (eqI x1_1 fault)
  (∀ g12 : G, Ex g11 g12 →
  R (.bool (eqI x0 (0 : Int))) g12)
  (∀ g13 : G, Ex g11 g13 →
  R (.bool false) g13))
  (∀ g14 : G, Ex g11 g14 →
  R (.bool false) g14))
  (∀ g15 : G, Ex g11 g15 →
  R (.bool false) g15))
  (∀ g16 : G, Ex g11 g16 →
  R (.bool false) g16))
  (∀ g17 : G, Ex g11 g17 →
  R (.bool false) g17)))
  (∀ g18 : G, Ex g10 g18 →
  R (.bool false) g18))
  ((CallsP Try.prog 49 #[(.agg ⟨[(.slice h0a h0l h0c), (.int .i64 h1), (.int .i64 h2)]⟩), (.slice rootsa rootsl rootsc)] g10 fun v g19 =>
  ∃ x00a_1 : Option Addr, ∃ x00l_1 : Nat, ∃ x00c_1 : Nat, ∃ x01_1 : Int, ∃ x02_1 : Int, ∃ x1a_1 : Option Addr, ∃ x1l_1 : Nat, ∃ x1c_1 : Nat, v = (.tuple ⟨[(.agg ⟨[(.slice x00a_1 x00l_1 x00c_1), (.int .i64 x01_1), (.int .i64 x02_1)]⟩), (.slice x1a_1 x1l_1 x1c_1)]⟩) ∧ ifB (eqI x2 (0 : Int))
  (∀ g20 : G, Ex g19 g20 →
  (CallsP Try.prog 20 #[(.agg ⟨[(.slice x00a x00l x00c), (.int .i64 x01), (.int .i64 x02)]⟩), (.agg ⟨[(.slice x00a_1 x00l_1 x00c_1), (.int .i64 x01_1), (.int .i64 x02_1)]⟩)] g20 fun v g21 =>
  ∃ x_3 : Bool, v = (.bool x_3) ∧ ifB x_3
  ((CallsP Try.prog 39 #[(.slice x1a x1l x1c), (.slice x1a_1 x1l_1 x1c_1)] g21 fun v g22 =>
  ∃ x_4 : Bool, v = (.bool x_4) ∧ ifB x_4
  (ifB (eqI x1 (0 : Int))
  ((CallsP Try.prog 58 #[(.agg ⟨[(.slice h0a h0l h0c), (.int .i64 h1), (.int .i64 h2)]⟩), (.slice rootsa rootsl rootsc)] g22 fun v g23 =>
  ∃ xa : Option Addr, ∃ xl : Nat, ∃ xc : Nat, v = (.slice xa xl xc) ∧ (CallsP Try.prog 35 #[(.slice x0a x0l x0c), (.slice xa xl xc)] g23 fun v g24 =>
  ∃ x_5 : Bool, v = (.bool x_5) ∧ ifB x_5
  (ifB (eqI x1_1 (0 : Int))
  ((CallsP Try.prog 48 #[(.agg ⟨[(.slice h0a h0l h0c), (.int .i64 h1), (.int .i64 h2)]⟩), (.slice rootsa rootsl rootsc)] g24 fun v g25 =>
  ∃ x_6 : Int, v = (.int .i64 x_6) ∧ ∀ g26 : G, Ex g25 g26 →
  R (.bool (eqI x0 x_6)) g26))
  (∀ g27 : G, Ex g24 g27 →
  R (.bool false) g27))
  (∀ g28 : G, Ex g24 g28 →
  R (.bool false) g28))))
  (∀ g29 : G, Ex g22 g29 →
  R (.bool false) g29))
  (∀ g30 : G, Ex g22 g30 →
  R (.bool false) g30)))
  (∀ g31 : G, Ex g21 g31 →
  R (.bool false) g31)))
  (∀ g32 : G, Ex g19 g32 →
  R (.bool false) g32)))))))))))
theorem F13_eq (h0a : Option Addr) (h0l : Nat) (h0c : Nat) (h1 : Int) (h2 : Int) (rootsa : Option Addr) (rootsl : Nat) (rootsc : Nat) (g : G) (R : Value → G → Prop) : fnG cfg13 115 [.tmp 4] c13 an13 [(.agg ⟨[(.slice h0a h0l h0c), (.int .i64 h1), (.int .i64 h2)]⟩), (.slice rootsa rootsl rootsc)] g nobody R = F13 h0a h0l h0c h1 h2 rootsa rootsl rootsc g R := by kernel_rfl
theorem call13 (h0a : Option Addr) (h0l : Nat) (h0c : Nat) (h1 : Int) (h2 : Int) (rootsa : Option Addr) (rootsl : Nat) (rootsc : Nat) (g : G) (R : Value → G → Prop) (hF : F13 h0a h0l h0c h1 h2 rootsa rootsl rootsc g R) : CallsG Try.prog 13 #[(.agg ⟨[(.slice h0a h0l h0c), (.int .i64 h1), (.int .i64 h2)]⟩), (.slice rootsa rootsl rootsc)] g nobody R :=
  fn_soundG (c := cfg13) TTok FNSok mixed Try.func13 (show Try.f13.body = some c13 by kernel_rfl) (show Try.f13.ntmps = 115 by kernel_rfl) (show Try.f13.results.toList = [.tmp 4] by kernel_rfl) rfl ((F13_eq h0a h0l h0c h1 h2 rootsa rootsl rootsc g R).mpr hF)

/- 14 pilaster/pilasterlaw50.CollectKeeps -/
noncomputable def c14 : Code := match Try.f14.body with
  | some c => c
  | none => .skip
noncomputable def cfg14 : Cfg := ⟨Try.prog, TT, FNS, [2, 5, 16], [(2, 2), (5, 5), (16, 16), (54, 5), (56, 2), (103, 5)], [], TCH, false, false⟩
def an14 : AnnG := (.seq .leaf (.seq (.seq .leaf (.cond (.seq .leaf .leaf) .leaf)) (.join ⟨[], [], []⟩ (.seq .leaf (.cond (.seq .leaf .leaf) .leaf)) (.seq .leaf (.seq (.seq .leaf (.cond (.seq .leaf .leaf) .leaf)) (.join ⟨[], [], []⟩ (.seq .leaf (.cond (.seq .leaf .leaf) .leaf)) (.seq .leaf (.seq .leaf (.seq .leaf (.seq .leaf (.seq .leaf (.seq .leaf .leaf))))))))))))
def F14 (h0a : Option Addr) (h0l : Nat) (h0c : Nat) (h1 : Int) (h2 : Int) (rootsa : Option Addr) (rootsl : Nat) (rootsc : Nat) (g : G) (R : Value → G → Prop) : Prop :=
  ∀ g1 : G, Ex g g1 →
  (CallsP Try.prog 41 #[] g1 fun v g2 =>
  ∃ x : Bool, v = (.bool x) ∧ ifB (!x)
  (∀ g3 : G, Ex g2 g3 →
  R (.bool false) g3)
  (∀ J : G → Prop,
  (∀ g4 : G, ((CallsP Try.prog 43 #[(.agg ⟨[(.slice h0a h0l h0c), (.int .i64 h1), (.int .i64 h2)]⟩), (.slice rootsa rootsl rootsc)] g4 fun v g5 =>
  ∃ x00a : Option Addr, ∃ x00l : Nat, ∃ x00c : Nat, ∃ x01 : Int, ∃ x02 : Int, ∃ x1a : Option Addr, ∃ x1l : Nat, ∃ x1c : Nat, ∃ x2 : Int, v = (.tuple ⟨[(.agg ⟨[(.slice x00a x00l x00c), (.int .i64 x01), (.int .i64 x02)]⟩), (.slice x1a x1l x1c), (.int .i64 x2)]⟩) ∧ ifB (!eqI x2 (0 : Int))
  (∀ g6 : G, Ex g5 g6 →
  (CallsP Try.prog 44 #[(.agg ⟨[(.slice x00a x00l x00c), (.int .i64 x01), (.int .i64 x02)]⟩)] g6 fun v g7 =>
  ∃ x_1 : Bool, v = (.bool x_1) ∧ ifB x_1
  (∀ g8 : G, Ex g7 g8 →
  R (.bool (eqI ((x1l : Nat) : Int) (0 : Int))) g8)
  (∀ g9 : G, Ex g7 g9 →
  R (.bool false) g9)))
  (∀ J_1 : G → Prop,
  (∀ g10 : G, ((CallsP Try.prog 53 #[(.agg ⟨[(.slice h0a h0l h0c), (.int .i64 h1), (.int .i64 h2)]⟩), (.slice rootsa rootsl rootsc), (.agg ⟨[(.slice x00a x00l x00c), (.int .i64 x01), (.int .i64 x02)]⟩), (.slice x1a x1l x1c)] g10 fun v g11 =>
  ∃ x0 : Bool, ∃ x1 : Int, v = (.tuple ⟨[(.bool x0), (.int .i64 x1)]⟩) ∧ (CallsP Try.prog 56 #[(.agg ⟨[(.slice h0a h0l h0c), (.int .i64 h1), (.int .i64 h2)]⟩), (.slice rootsa rootsl rootsc)] g11 fun v g12 =>
  ∃ x0_1 : Int, ∃ x1_1 : Int, v = (.tuple ⟨[(.int .i64 x0_1), (.int .i64 x1_1)]⟩) ∧ (CallsP Try.prog 34 #[(.agg ⟨[(.slice x00a x00l x00c), (.int .i64 x01), (.int .i64 x02)]⟩)] g12 fun v g13 =>
  ∃ x0a : Option Addr, ∃ x0l : Nat, ∃ x0c : Nat, ∃ x1_2 : Int, v = (.tuple ⟨[(.slice x0a x0l x0c), (.int .i64 x1_2)]⟩) ∧ (CallsP Try.prog 57 #[(.agg ⟨[(.slice x00a x00l x00c), (.int .i64 x01), (.int .i64 x02)]⟩), (.slice x1a x1l x1c)] g13 fun v g14 =>
  ∃ x0a_1 : Option Addr, ∃ x0l_1 : Nat, ∃ x0c_1 : Nat, ∃ x1_3 : Int, v = (.tuple ⟨[(.slice x0a_1 x0l_1 x0c_1), (.int .i64 x1_3)]⟩) ∧ (CallsP Try.prog 43 #[(.agg ⟨[(.slice x00a x00l x00c), (.int .i64 x01), (.int .i64 x02)]⟩), (.slice x1a x1l x1c)] g14 fun v g15 =>
  ∃ x00a_1 : Option Addr, ∃ x00l_1 : Nat, ∃ x00c_1 : Nat, ∃ x01_1 : Int, ∃ x02_1 : Int, ∃ x1a_1 : Option Addr, ∃ x1l_1 : Nat, ∃ x1c_1 : Nat, ∃ x2_1 : Int, v = (.tuple ⟨[(.agg ⟨[(.slice x00a_1 x00l_1 x00c_1), (.int .i64 x01_1), (.int .i64 x02_1)]⟩), (.slice x1a_1 x1l_1 x1c_1), (.int .i64 x2_1)]⟩) ∧ ifB (eqI x1 (0 : Int))
  (ifB x0
  (ifB (eqI x1_1 (0 : Int))
  (ifB (eqI x0_1 x01)
  (ifB (eqI x1_2 (0 : Int))
  (ifB (eqI x1_3 (0 : Int))
  (∀ g16 : G, Ex g15 g16 →
  (CallsP Try.prog 35 #[(.slice x0a x0l x0c), (.slice x0a_1 x0l_1 x0c_1)] g16 fun v g17 =>
  ∃ x_2 : Bool, v = (.bool x_2) ∧ ifB x_2
  (ifB (eqI x2_1 (0 : Int))
  ((CallsP Try.prog 20 #[(.agg ⟨[(.slice x00a_1 x00l_1 x00c_1), (.int .i64 x01_1), (.int .i64 x02_1)]⟩), (.agg ⟨[(.slice x00a x00l x00c), (.int .i64 x01), (.int .i64 x02)]⟩)] g17 fun v g18 =>
  ∃ x_3 : Bool, v = (.bool x_3) ∧ ifB x_3
  ((CallsP Try.prog 39 #[(.slice x1a_1 x1l_1 x1c_1), (.slice x1a x1l x1c)] g18 fun v g19 =>
  ∃ x_4 : Bool, v = (.bool x_4) ∧ ∀ g20 : G, Ex g19 g20 →
  R (.bool x_4) g20))
  (∀ g21 : G, Ex g18 g21 →
  R (.bool false) g21)))
  (∀ g22 : G, Ex g17 g22 →
  R (.bool false) g22))
  (∀ g23 : G, Ex g17 g23 →
  R (.bool false) g23)))
  (∀ g24 : G, Ex g15 g24 →
  R (.bool false) g24))
  (∀ g25 : G, Ex g15 g25 →
  R (.bool false) g25))
  (∀ g26 : G, Ex g15 g26 →
  R (.bool false) g26))
  (∀ g27 : G, Ex g15 g27 →
  R (.bool false) g27))
  (∀ g28 : G, Ex g15 g28 →
  R (.bool false) g28))
  (∀ g29 : G, Ex g15 g29 →
  R (.bool false) g29))))))) → J_1 g10) →
  ∀ g30 : G, Ex g5 g30 →
  (CallsP Try.prog 21 #[(.agg ⟨[(.slice x00a x00l x00c), (.int .i64 x01), (.int .i64 x02)]⟩)] g30 fun v g31 =>
  ∃ x_5 : Bool, v = (.bool x_5) ∧ ifB (!x_5)
  (∀ g32 : G, Ex g31 g32 →
  R (.bool false) g32)
  ((CallsP Try.prog 23 #[(.agg ⟨[(.slice x00a x00l x00c), (.int .i64 x01), (.int .i64 x02)]⟩)] g31 fun v g33 =>
  ∃ x_6 : Bool, v = (.bool x_6) ∧ ifB (!x_6)
  (∀ g34 : G, Ex g33 g34 →
  R (.bool false) g34)
  (ifB (!eqI x02 h2)
  (∀ g35 : G, Ex g33 g35 →
  R (.bool false) g35)
  (J_1 g33)))))))) → J g4) →
  (CallsP Try.prog 42 #[(.agg ⟨[(.slice h0a h0l h0c), (.int .i64 h1), (.int .i64 h2)]⟩), (.slice rootsa rootsl rootsc)] g2 fun v g36 =>
  ∃ x_7 : Bool, v = (.bool x_7) ∧ ifB x_7
  (∀ g37 : G, Ex g36 g37 →
  R (.bool true) g37)
  (ifB (ltI (100 : Int) ((rootsl : Nat) : Int))
  (∀ g38 : G, Ex g36 g38 →
  R (.bool true) g38)
  (J g36)))))
theorem F14_eq (h0a : Option Addr) (h0l : Nat) (h0c : Nat) (h1 : Int) (h2 : Int) (rootsa : Option Addr) (rootsl : Nat) (rootsc : Nat) (g : G) (R : Value → G → Prop) : fnG cfg14 134 [.tmp 4] c14 an14 [(.agg ⟨[(.slice h0a h0l h0c), (.int .i64 h1), (.int .i64 h2)]⟩), (.slice rootsa rootsl rootsc)] g nobody R = F14 h0a h0l h0c h1 h2 rootsa rootsl rootsc g R := by kernel_rfl
theorem call14 (h0a : Option Addr) (h0l : Nat) (h0c : Nat) (h1 : Int) (h2 : Int) (rootsa : Option Addr) (rootsl : Nat) (rootsc : Nat) (g : G) (R : Value → G → Prop) (hF : F14 h0a h0l h0c h1 h2 rootsa rootsl rootsc g R) : CallsG Try.prog 14 #[(.agg ⟨[(.slice h0a h0l h0c), (.int .i64 h1), (.int .i64 h2)]⟩), (.slice rootsa rootsl rootsc)] g nobody R :=
  fn_soundG (c := cfg14) TTok FNSok mixed Try.func14 (show Try.f14.body = some c14 by kernel_rfl) (show Try.f14.ntmps = 134 by kernel_rfl) (show Try.f14.results.toList = [.tmp 4] by kernel_rfl) rfl ((F14_eq h0a h0l h0c h1 h2 rootsa rootsl rootsc g R).mpr hF)

/- 41 pilaster/pilasterlaw50.awake -/
noncomputable def c41 : Code := match Try.f41.body with
  | some c => c
  | none => .skip
noncomputable def cfg41 : Cfg := ⟨Try.prog, TT, FNS, [1, 2, 3], [(1, 1), (2, 2), (3, 3), (30, 3)], [], TCH, false, false⟩
def an41 : AnnG := (.seq .leaf (.seq .leaf (.seq .leaf (.seq .leaf (.seq .leaf .leaf)))))
def F41 (g : G) (R : Value → G → Prop) : Prop :=
  (CallsP Try.prog 82 #[] g fun v g1 =>
  ∃ x00a : Option Addr, ∃ x00l : Nat, ∃ x00c : Nat, ∃ x01 : Int, ∃ x02 : Int, ∃ x10 : Bool, ∃ x11 : Int, v = (.tuple ⟨[(.agg ⟨[(.slice x00a x00l x00c), (.int .i64 x01), (.int .i64 x02)]⟩), (.agg ⟨[(.bool x10), (.int .i64 x11)]⟩)]⟩) ∧ ∀ g2 : G, Ex g1 g2 →
  ∀ g3 : G, NewL g2 g3 41 [(.bool x10), (.int .i64 x11)] →
  (CallsP Try.prog 43 #[(.agg ⟨[(.slice x00a x00l x00c), (.int .i64 x01), (.int .i64 x02)]⟩), (.slice (some ⟨g2.w.heap.size, 0, none⟩) 1 1)] g3 fun v g4 =>
  ∃ x00a_1 : Option Addr, ∃ x00l_1 : Nat, ∃ x00c_1 : Nat, ∃ x01_1 : Int, ∃ x02_1 : Int, ∃ x1a : Option Addr, ∃ x1l : Nat, ∃ x1c : Nat, ∃ x2 : Int, v = (.tuple ⟨[(.agg ⟨[(.slice x00a_1 x00l_1 x00c_1), (.int .i64 x01_1), (.int .i64 x02_1)]⟩), (.slice x1a x1l x1c), (.int .i64 x2)]⟩) ∧ ∀ g5 : G, Ex g4 g5 →
  ∀ g6 : G, NewL g5 g6 41 [(.bool x10), (.int .i64 x11)] →
  (CallsP Try.prog 56 #[(.agg ⟨[(.slice x00a x00l x00c), (.int .i64 x01), (.int .i64 x02)]⟩), (.slice (some ⟨g5.w.heap.size, 0, none⟩) 1 1)] g6 fun v g7 =>
  ∃ x0 : Int, ∃ x1 : Int, v = (.tuple ⟨[(.int .i64 x0), (.int .i64 x1)]⟩) ∧ ifB (eqI x2 (0 : Int))
  (ifB (eqI x01_1 (9 : Int))
  (ifB (eqI ((x1l : Nat) : Int) (1 : Int))
  ((0 ≤ (0 : Int) ∧ (0 : Int) < ((x1l : Nat) : Int)) ∧ derefP x1a fun ad => ∃ x0_1 : Bool, ∃ x1_1 : Int, g7.w.cell? (Addr.add ad (Int.toNat (0 : Int) * 2)) = some (.bool x0_1) ∧ g7.w.cell? (Addr.add (Addr.add ad (Int.toNat (0 : Int) * 2)) 1) = some (.int .i64 x1_1) ∧ ifB ((x0_1 == true) && ((eqI x1_1 (0 : Int)) && true))
  (ifB (eqI x1 (0 : Int))
  (∀ g8 : G, Ex g7 g8 →
  R (.bool (eqI x0 (9 : Int))) g8)
  (∀ g9 : G, Ex g7 g9 →
  R (.bool false) g9))
  (∀ g10 : G, Ex g7 g10 →
  R (.bool false) g10))
  (∀ g11 : G, Ex g7 g11 →
  R (.bool false) g11))
  (∀ g12 : G, Ex g7 g12 →
  R (.bool false) g12))
  (∀ g13 : G, Ex g7 g13 →
  R (.bool false) g13))))
theorem F41_eq (g : G) (R : Value → G → Prop) : fnG cfg41 54 [.tmp 0] c41 an41 [] g nobody R = F41 g R := by kernel_rfl
theorem call41 (g : G) (R : Value → G → Prop) (hF : F41 g R) : CallsG Try.prog 41 #[] g nobody R :=
  fn_soundG (c := cfg41) TTok FNSok mixed Try.func41 (show Try.f41.body = some c41 by kernel_rfl) (show Try.f41.ntmps = 54 by kernel_rfl) (show Try.f41.results.toList = [.tmp 0] by kernel_rfl) rfl ((F41_eq g R).mpr hF)

/- 42 pilaster/pilasterlaw50.great -/
noncomputable def c42 : Code := match Try.f42.body with
  | some c => c
  | none => .skip
noncomputable def cfg42 : Cfg := ⟨Try.prog, TT, FNS, [2], [(2, 2), (5, 2)], [], TCH, false, false⟩
def an42 : AnnG := (.seq .leaf (.seq .leaf .leaf))
def F42 (h0a : Option Addr) (h0l : Nat) (h0c : Nat) (h1 : Int) (h2 : Int) (la : Option Addr) (ll : Nat) (lc : Nat) (g : G) (R : Value → G → Prop) : Prop :=
  ifB (ltI (600 : Int) ((h0l : Nat) : Int))
  (∀ g1 : G, Ex g g1 →
  R (.bool true) g1)
  (ifB (ltI (100 : Int) ((ll : Nat) : Int))
  (ifB (leI ((ll : Nat) : Int) (65536 : Int))
  (∀ g2 : G, Ex g g2 →
  R (.bool true) g2)
  (∀ g3 : G, Ex g g3 →
  R (.bool (ltI (70000 : Int) ((ll : Nat) : Int))) g3))
  (∀ g4 : G, Ex g g4 →
  R (.bool (ltI (70000 : Int) ((ll : Nat) : Int))) g4))
theorem F42_eq (h0a : Option Addr) (h0l : Nat) (h0c : Nat) (h1 : Int) (h2 : Int) (la : Option Addr) (ll : Nat) (lc : Nat) (g : G) (R : Value → G → Prop) : fnG cfg42 24 [.tmp 4] c42 an42 [(.agg ⟨[(.slice h0a h0l h0c), (.int .i64 h1), (.int .i64 h2)]⟩), (.slice la ll lc)] g nobody R = F42 h0a h0l h0c h1 h2 la ll lc g R := by kernel_rfl
theorem call42 (h0a : Option Addr) (h0l : Nat) (h0c : Nat) (h1 : Int) (h2 : Int) (la : Option Addr) (ll : Nat) (lc : Nat) (g : G) (R : Value → G → Prop) (hF : F42 h0a h0l h0c h1 h2 la ll lc g R) : CallsG Try.prog 42 #[(.agg ⟨[(.slice h0a h0l h0c), (.int .i64 h1), (.int .i64 h2)]⟩), (.slice la ll lc)] g nobody R :=
  fn_soundG (c := cfg42) TTok FNSok mixed Try.func42 (show Try.f42.body = some c42 by kernel_rfl) (show Try.f42.ntmps = 24 by kernel_rfl) (show Try.f42.results.toList = [.tmp 4] by kernel_rfl) rfl ((F42_eq h0a h0l h0c h1 h2 la ll lc g R).mpr hF)

/- 43 pilaster/collect.Collect -/
noncomputable def c43 : Code := match Try.f43.body with
  | some c => c
  | none => .skip
noncomputable def cfg43 : Cfg := ⟨Try.prog, TT, FNS, [2, 4], [(2, 2), (4, 4)], [], TCH, false, false⟩
def an43 : AnnG := (.seq .leaf (.seq (.seq .leaf (.seq .leaf (.cond (.seq .leaf .leaf) .leaf))) (.seq .leaf (.seq .leaf .leaf))))
def F43 (h0a : Option Addr) (h0l : Nat) (h0c : Nat) (h1 : Int) (h2 : Int) (rootsa : Option Addr) (rootsl : Nat) (rootsc : Nat) (g : G) (R : Value → G → Prop) : Prop :=
  ∀ g1 : G, Ex g g1 →
  (CallsP Try.prog 83 #[(.agg ⟨[(.slice h0a h0l h0c), (.int .i64 h1), (.int .i64 h2)]⟩), (.slice rootsa rootsl rootsc)] g1 fun v g2 =>
  ∃ x0 : Option Nat, ∃ x1 : Int, v = (.tuple ⟨[(.map x0), (.int .i64 x1)]⟩) ∧ ifB (!eqI x1 (0 : Int))
  (∀ g3 : G, Ex g2 g3 →
  R (.tuple ⟨[(.agg ⟨[(.slice none 0 0), (.int .i64 (0 : Int)), (.int .i64 (0 : Int))]⟩), (.slice none 0 0), (.int .i64 x1)]⟩) g3)
  ((CallsP Try.prog 84 #[(.agg ⟨[(.slice h0a h0l h0c), (.int .i64 h1), (.int .i64 h2)]⟩), (.slice rootsa rootsl rootsc)] g2 fun v g4 =>
  ∃ x0_1 : Option Addr, ∃ x1a : Option Addr, ∃ x1l : Nat, ∃ x1c : Nat, v = (.tuple ⟨[(.pointer x0_1), (.slice x1a x1l x1c)]⟩) ∧ derefP x0_1 fun ad => ∃ x0a : Option Addr, ∃ x0l : Nat, ∃ x0c : Nat, ∃ x1_1 : Int, ∃ x2 : Int, g4.w.cell? (Addr.add ad 3) = some (.slice x0a x0l x0c) ∧ g4.w.cell? (Addr.add (Addr.add ad 3) 1) = some (.int .i64 x1_1) ∧ g4.w.cell? (Addr.add (Addr.add ad 3) 2) = some (.int .i64 x2) ∧ ∀ g5 : G, Ex g4 g5 →
  R (.tuple ⟨[(.agg ⟨[(.slice x0a x0l x0c), (.int .i64 x1_1), (.int .i64 x2)]⟩), (.slice x1a x1l x1c), (.int .i64 (0 : Int))]⟩) g5)))
theorem F43_eq (h0a : Option Addr) (h0l : Nat) (h0c : Nat) (h1 : Int) (h2 : Int) (rootsa : Option Addr) (rootsl : Nat) (rootsc : Nat) (g : G) (R : Value → G → Prop) : fnG cfg43 32 [.cell 4 24, .tmp 5, .tmp 6] c43 an43 [(.agg ⟨[(.slice h0a h0l h0c), (.int .i64 h1), (.int .i64 h2)]⟩), (.slice rootsa rootsl rootsc)] g nobody R = F43 h0a h0l h0c h1 h2 rootsa rootsl rootsc g R := by kernel_rfl
theorem call43 (h0a : Option Addr) (h0l : Nat) (h0c : Nat) (h1 : Int) (h2 : Int) (rootsa : Option Addr) (rootsl : Nat) (rootsc : Nat) (g : G) (R : Value → G → Prop) (hF : F43 h0a h0l h0c h1 h2 rootsa rootsl rootsc g R) : CallsG Try.prog 43 #[(.agg ⟨[(.slice h0a h0l h0c), (.int .i64 h1), (.int .i64 h2)]⟩), (.slice rootsa rootsl rootsc)] g nobody R :=
  fn_soundG (c := cfg43) TTok FNSok mixed Try.func43 (show Try.f43.body = some c43 by kernel_rfl) (show Try.f43.ntmps = 32 by kernel_rfl) (show Try.f43.results.toList = [.cell 4 24, .tmp 5, .tmp 6] by kernel_rfl) rfl ((F43_eq h0a h0l h0c h1 h2 rootsa rootsl rootsc g R).mpr hF)

/- 44 pilaster/pilasterlaw50.none -/
noncomputable def c44 : Code := match Try.f44.body with
  | some c => c
  | none => .skip
noncomputable def cfg44 : Cfg := ⟨Try.prog, TT, FNS, [1], [(1, 1)], [], TCH, false, false⟩
def an44 : AnnG := (.seq .leaf (.seq .leaf .leaf))
def F44 (h0a : Option Addr) (h0l : Nat) (h0c : Nat) (h1 : Int) (h2 : Int) (g : G) (R : Value → G → Prop) : Prop :=
  ∀ g1 : G, Ex g g1 →
  (CallsP Try.prog 20 #[(.agg ⟨[(.slice h0a h0l h0c), (.int .i64 h1), (.int .i64 h2)]⟩), (.agg ⟨[(.slice none 0 0), (.int .i64 (0 : Int)), (.int .i64 (0 : Int))]⟩)] g1 fun v g2 =>
  ∃ x : Bool, v = (.bool x) ∧ ∀ g3 : G, Ex g2 g3 →
  R (.bool x) g3)
theorem F44_eq (h0a : Option Addr) (h0l : Nat) (h0c : Nat) (h1 : Int) (h2 : Int) (g : G) (R : Value → G → Prop) : fnG cfg44 6 [.tmp 2] c44 an44 [(.agg ⟨[(.slice h0a h0l h0c), (.int .i64 h1), (.int .i64 h2)]⟩)] g nobody R = F44 h0a h0l h0c h1 h2 g R := by kernel_rfl
theorem call44 (h0a : Option Addr) (h0l : Nat) (h0c : Nat) (h1 : Int) (h2 : Int) (g : G) (R : Value → G → Prop) (hF : F44 h0a h0l h0c h1 h2 g R) : CallsG Try.prog 44 #[(.agg ⟨[(.slice h0a h0l h0c), (.int .i64 h1), (.int .i64 h2)]⟩)] g nobody R :=
  fn_soundG (c := cfg44) TTok FNSok mixed Try.func44 (show Try.f44.body = some c44 by kernel_rfl) (show Try.f44.ntmps = 6 by kernel_rfl) (show Try.f44.results.toList = [.tmp 2] by kernel_rfl) rfl ((F44_eq h0a h0l h0c h1 h2 g R).mpr hF)

/- 45 pilaster/pilasterlaw50.walk -/
noncomputable def c45 : Code := match Try.f45.body with
  | some c => c
  | none => .skip
noncomputable def cfg45 : Cfg := ⟨Try.prog, TT, FNS, [5, 6, 7, 8], [(5, 5), (6, 6), (7, 7), (8, 8), (20, 7), (24, 8)], [], TCH, false, false⟩
def an45 : AnnG := (.seq .leaf (.join ⟨[], [], []⟩ (.seq .leaf (.cond (.seq .leaf .leaf) .leaf)) (.seq .leaf (.seq .leaf (.join ⟨[], [], []⟩ (.seq .leaf (.cond (.seq .leaf .leaf) .leaf)) (.seq (.seq .leaf (.blk (.loop ⟨[(72, .int .i64)], [], []⟩ (.seq .leaf (.seq (.cond .leaf .leaf) (.seq (.blk (.seq .leaf (.seq (.tree 15 (.quiet 0 (.quiet 1 (.quiet 2 (.quiet 3 (.quiet 4 (.quiet 5 (.quiet 6 (.quiet 7 (.quiet 8 (.quiet 9 (.quiet 10 (.quiet 11 (.quiet 12 (.quiet 13 (.quiet 14 .fin)))))))))))))))) (.cond (.seq .leaf .leaf) .leaf)))) .leaf)))))) (.seq .leaf .leaf)))))))
def F45 (a0a : Option Addr) (a0l : Nat) (a0c : Nat) (a1 : Int) (a2 : Int) (b0a : Option Addr) (b0l : Nat) (b0c : Nat) (b1 : Int) (b2 : Int) (x0 : Bool) (x1 : Int) (y0 : Bool) (y1 : Int) (depth : Int) (g : G) (R : Value → G → Prop) : Prop :=
  ∀ J : G → Prop,
  (∀ g1 : G, ((CallsP Try.prog 32 #[(.agg ⟨[(.slice a0a a0l a0c), (.int .i64 a1), (.int .i64 a2)]⟩), (.agg ⟨[(.bool x0), (.int .i64 x1)]⟩)] g1 fun v g2 =>
  ∃ x0_1 : Int, ∃ x1_1 : Int, ∃ x2a : Option Addr, ∃ x2l : Nat, ∃ x2c : Nat, ∃ x3 : Int, v = (.tuple ⟨[(.int .i64 x0_1), (.int .i64 x1_1), (.slice x2a x2l x2c), (.int .i64 x3)]⟩) ∧ (CallsP Try.prog 32 #[(.agg ⟨[(.slice b0a b0l b0c), (.int .i64 b1), (.int .i64 b2)]⟩), (.agg ⟨[(.bool y0), (.int .i64 y1)]⟩)] g2 fun v g3 =>
  ∃ x0_2 : Int, ∃ x1_2 : Int, ∃ x2a_1 : Option Addr, ∃ x2l_1 : Nat, ∃ x2c_1 : Nat, ∃ x3_1 : Int, v = (.tuple ⟨[(.int .i64 x0_2), (.int .i64 x1_2), (.slice x2a_1 x2l_1 x2c_1), (.int .i64 x3_1)]⟩) ∧ ∀ J_1 : G → Prop,
  (∀ g4 : G, (∃ Inv : Nat → Int → G → Prop, ((∃ m0 : Nat, Inv m0 (0 : Int) g4)) ∧
  ∀ m : Nat, ∀ v_1 : Int, ∀ g5 : G, Le g4 g5 → Inv m v_1 g5 →
  ifB (ltI v_1 ((x2l : Nat) : Int))
  (∀ g6 : G, Ex g5 g6 →
  ifB (ltI (0 : Int) depth)
  ((0 ≤ v_1 ∧ v_1 < ((x2l : Nat) : Int)) ∧ derefP x2a fun ad => ∃ x0_3 : Bool, ∃ x1_3 : Int, g6.w.cell? (Addr.add ad (Int.toNat v_1 * 2)) = some (.bool x0_3) ∧ g6.w.cell? (Addr.add (Addr.add ad (Int.toNat v_1 * 2)) 1) = some (.int .i64 x1_3) ∧ (0 ≤ v_1 ∧ v_1 < ((x2l_1 : Nat) : Int)) ∧ derefP x2a_1 fun ad_1 => ∃ x0_4 : Bool, ∃ x1_4 : Int, g6.w.cell? (Addr.add ad_1 (Int.toNat v_1 * 2)) = some (.bool x0_4) ∧ g6.w.cell? (Addr.add (Addr.add ad_1 (Int.toNat v_1 * 2)) 1) = some (.int .i64 x1_4) ∧ InI64 (depth - (1 : Int)) ∧ (CallsP Try.prog 45 #[(.agg ⟨[(.slice a0a a0l a0c), (.int .i64 a1), (.int .i64 a2)]⟩), (.agg ⟨[(.slice b0a b0l b0c), (.int .i64 b1), (.int .i64 b2)]⟩), (.agg ⟨[(.bool x0_3), (.int .i64 x1_3)]⟩), (.agg ⟨[(.bool x0_4), (.int .i64 x1_4)]⟩), (.int .i64 (depth - (1 : Int)))] g6 fun v g7 =>
  ∃ x : Bool, v = (.bool x) ∧ ifB (!x)
  (∀ g8 : G, Ex g7 g8 →
  R (.bool false) g8)
  (InI64 (v_1 + (1 : Int)) ∧ (∃ m_1 : Nat, m_1 < m ∧ Inv m_1 (v_1 + (1 : Int)) g7))))
  (InI64 (v_1 + (1 : Int)) ∧ (∃ m_1 : Nat, m_1 < m ∧ Inv m_1 (v_1 + (1 : Int)) g6)))
  (∀ g9 : G, Ex g5 g9 →
  R (.bool true) g9)) → J_1 g4) →
  ifB (!eqI x3 (0 : Int))
  (∀ g10 : G, Ex g3 g10 →
  R (.bool false) g10)
  (ifB (!eqI x3_1 (0 : Int))
  (∀ g11 : G, Ex g3 g11 →
  R (.bool false) g11)
  (ifB (!eqI x0_1 x0_2)
  (∀ g12 : G, Ex g3 g12 →
  R (.bool false) g12)
  (ifB (!eqI x1_1 x1_2)
  (∀ g13 : G, Ex g3 g13 →
  R (.bool false) g13)
  (ifB (!eqI ((x2l : Nat) : Int) ((x2l_1 : Nat) : Int))
  (∀ g14 : G, Ex g3 g14 →
  R (.bool false) g14)
  (J_1 g3)))))))) → J g1) →
  ifB (!x0)
  (∀ g15 : G, Ex g g15 →
  R (.bool ((x0 == y0) && ((eqI x1 y1) && true))) g15)
  (ifB (!y0)
  (∀ g16 : G, Ex g g16 →
  R (.bool ((x0 == y0) && ((eqI x1 y1) && true))) g16)
  (∀ g17 : G, Ex g g17 →
  J g17))
theorem F45_eq (a0a : Option Addr) (a0l : Nat) (a0c : Nat) (a1 : Int) (a2 : Int) (b0a : Option Addr) (b0l : Nat) (b0c : Nat) (b1 : Int) (b2 : Int) (x0 : Bool) (x1 : Int) (y0 : Bool) (y1 : Int) (depth : Int) (g : G) (R : Value → G → Prop) : fnG cfg45 94 [.tmp 10] c45 an45 [(.agg ⟨[(.slice a0a a0l a0c), (.int .i64 a1), (.int .i64 a2)]⟩), (.agg ⟨[(.slice b0a b0l b0c), (.int .i64 b1), (.int .i64 b2)]⟩), (.agg ⟨[(.bool x0), (.int .i64 x1)]⟩), (.agg ⟨[(.bool y0), (.int .i64 y1)]⟩), (.int .i64 depth)] g nobody R = F45 a0a a0l a0c a1 a2 b0a b0l b0c b1 b2 x0 x1 y0 y1 depth g R := by kernel_rfl
theorem call45 (a0a : Option Addr) (a0l : Nat) (a0c : Nat) (a1 : Int) (a2 : Int) (b0a : Option Addr) (b0l : Nat) (b0c : Nat) (b1 : Int) (b2 : Int) (x0 : Bool) (x1 : Int) (y0 : Bool) (y1 : Int) (depth : Int) (g : G) (R : Value → G → Prop) (hF : F45 a0a a0l a0c a1 a2 b0a b0l b0c b1 b2 x0 x1 y0 y1 depth g R) : CallsG Try.prog 45 #[(.agg ⟨[(.slice a0a a0l a0c), (.int .i64 a1), (.int .i64 a2)]⟩), (.agg ⟨[(.slice b0a b0l b0c), (.int .i64 b1), (.int .i64 b2)]⟩), (.agg ⟨[(.bool x0), (.int .i64 x1)]⟩), (.agg ⟨[(.bool y0), (.int .i64 y1)]⟩), (.int .i64 depth)] g nobody R :=
  fn_soundG (c := cfg45) TTok FNSok mixed Try.func45 (show Try.f45.body = some c45 by kernel_rfl) (show Try.f45.ntmps = 94 by kernel_rfl) (show Try.f45.results.toList = [.tmp 10] by kernel_rfl) rfl ((F45_eq a0a a0l a0c a1 a2 b0a b0l b0c b1 b2 x0 x1 y0 y1 depth g R).mpr hF)

/- 46 pilaster/collect.Room -/
noncomputable def c46 : Code := match Try.f46.body with
  | some c => c
  | none => .skip
noncomputable def cfg46 : Cfg := ⟨Try.prog, TT, FNS, [3, 6], [(3, 3), (6, 6), (30, 3), (32, 3), (37, 3), (40, 3)], [], TCH, false, false⟩
def an46 : AnnG := (.seq .leaf (.seq (.seq .leaf (.seq .leaf (.cond (.seq .leaf .leaf) .leaf))) (.join ⟨[], [(6, 6, 0)], [(6, [(.sl), (.int .i64), (.int .i64)])]⟩ (.seq .leaf (.cond (.seq .leaf .leaf) .leaf)) (.seq (.seq .leaf (.cond (.seq .leaf (.seq (.treeP false [6] 3 (.quiet 0 (.quiet 1 (.eff 2 .fin .fin)))) .leaf)) .leaf)) (.seq .leaf (.seq (.seq (.tree 12 (.quiet 0 (.quiet 1 (.quiet 2 (.quiet 3 (.quiet 4 (.quiet 5 (.quiet 6 (.quiet 7 (.quiet 8 (.quiet 9 (.quiet 10 (.quiet 11 .fin))))))))))))) (.cond (.seq .leaf .leaf) .leaf)) (.seq .leaf .leaf)))))))
def F46 (h0a : Option Addr) (h0l : Nat) (h0c : Nat) (h1 : Int) (h2 : Int) (rootsa : Option Addr) (rootsl : Nat) (rootsc : Nat) (need : Int) (g : G) (R : Value → G → Prop) : Prop :=
  ∀ g1 : G, Ex g g1 →
  (CallsP Try.prog 83 #[(.agg ⟨[(.slice h0a h0l h0c), (.int .i64 h1), (.int .i64 h2)]⟩), (.slice rootsa rootsl rootsc)] g1 fun v g2 =>
  ∃ x0 : Option Nat, ∃ x1 : Int, v = (.tuple ⟨[(.map x0), (.int .i64 x1)]⟩) ∧ ifB (!eqI x1 (0 : Int))
  (∀ g3 : G, Ex g2 g3 →
  R (.tuple ⟨[(.agg ⟨[(.slice none 0 0), (.int .i64 (0 : Int)), (.int .i64 (0 : Int))]⟩), (.slice none 0 0), (.int .i64 x1)]⟩) g3)
  (∀ J : Option Addr → Nat → Nat → Int → Int → G → Prop,
  (∀ x0a : Option Addr, ∀ x0l : Nat, ∀ x0c : Nat, ∀ x1_1 : Int, ∀ x2 : Int, ∀ g4 : G, (InI64 (h2 - h1) ∧ ifB (leI need (h2 - h1))
  ((CallsP Try.prog 68 #[(.slice h0a h0l h0c)] g4 fun v g5 =>
  ∃ xa : Option Addr, ∃ xl : Nat, ∃ xc : Nat, v = (.slice xa xl xc) ∧ ∀ g6 : G, Ex g5 g6 →
  ∀ g7 : G, Ex g6 g7 →
  (CallsP Try.prog 68 #[(.slice rootsa rootsl rootsc)] g7 fun v g8 =>
  ∃ xa_1 : Option Addr, ∃ xl_1 : Nat, ∃ xc_1 : Nat, v = (.slice xa_1 xl_1 xc_1) ∧ ∀ g9 : G, Ex g8 g9 →
  R (.tuple ⟨[(.agg ⟨[(.slice xa xl xc), (.int .i64 h1), (.int .i64 h2)]⟩), (.slice xa_1 xl_1 xc_1), (.int .i64 (0 : Int))]⟩) g9)))
  ((CallsP Try.prog 84 #[(.agg ⟨[(.slice h0a h0l h0c), (.int .i64 h1), (.int .i64 h2)]⟩), (.slice rootsa rootsl rootsc)] g4 fun v g10 =>
  ∃ x0_1 : Option Addr, ∃ x1a : Option Addr, ∃ x1l : Nat, ∃ x1c : Nat, v = (.tuple ⟨[(.pointer x0_1), (.slice x1a x1l x1c)]⟩) ∧ ∀ g11 : G, Ex g10 g11 →
  derefP x0_1 fun ad => ∃ x : Int, g11.w.cell? (Addr.add (Addr.add ad 3) 2) = some (.int .i64 x) ∧ derefP x0_1 fun ad_1 => ∃ x_1 : Int, g11.w.cell? (Addr.add (Addr.add ad_1 3) 1) = some (.int .i64 x_1) ∧ InI64 (x - x_1) ∧ ifB (ltI (x - x_1) need)
  (∀ g12 : G, Ex g11 g12 →
  R (.tuple ⟨[(.agg ⟨[(.slice none 0 0), (.int .i64 (0 : Int)), (.int .i64 (0 : Int))]⟩), (.slice none 0 0), (.int .i64 (25 : Int))]⟩) g12)
  (derefP x0_1 fun ad_2 => ∃ x0a_1 : Option Addr, ∃ x0l_1 : Nat, ∃ x0c_1 : Nat, ∃ x1_2 : Int, ∃ x2_1 : Int, g11.w.cell? (Addr.add ad_2 3) = some (.slice x0a_1 x0l_1 x0c_1) ∧ g11.w.cell? (Addr.add (Addr.add ad_2 3) 1) = some (.int .i64 x1_2) ∧ g11.w.cell? (Addr.add (Addr.add ad_2 3) 2) = some (.int .i64 x2_1) ∧ ∀ g13 : G, Ex g11 g13 →
  R (.tuple ⟨[(.agg ⟨[(.slice x0a_1 x0l_1 x0c_1), (.int .i64 x1_2), (.int .i64 x2_1)]⟩), (.slice x1a x1l x1c), (.int .i64 (0 : Int))]⟩) g13)))) → J x0a x0l x0c x1_1 x2 g4) →
  ifB (ltI need (0 : Int))
  (∀ g14 : G, Ex g2 g14 →
  R (.tuple ⟨[(.agg ⟨[(.slice none 0 0), (.int .i64 (0 : Int)), (.int .i64 (0 : Int))]⟩), (.slice none 0 0), (.int .i64 (2 : Int))]⟩) g14)
  (ifB (ltI (65536 : Int) need)
  (∀ g15 : G, Ex g2 g15 →
  R (.tuple ⟨[(.agg ⟨[(.slice none 0 0), (.int .i64 (0 : Int)), (.int .i64 (0 : Int))]⟩), (.slice none 0 0), (.int .i64 (2 : Int))]⟩) g15)
  (J none 0 0 (0 : Int) (0 : Int) g2))))
theorem F46_eq (h0a : Option Addr) (h0l : Nat) (h0c : Nat) (h1 : Int) (h2 : Int) (rootsa : Option Addr) (rootsl : Nat) (rootsc : Nat) (need : Int) (g : G) (R : Value → G → Prop) : fnG cfg46 69 [.cell 6 24, .tmp 7, .tmp 8] c46 an46 [(.agg ⟨[(.slice h0a h0l h0c), (.int .i64 h1), (.int .i64 h2)]⟩), (.slice rootsa rootsl rootsc), (.int .i64 need)] g nobody R = F46 h0a h0l h0c h1 h2 rootsa rootsl rootsc need g R := by kernel_rfl
theorem call46 (h0a : Option Addr) (h0l : Nat) (h0c : Nat) (h1 : Int) (h2 : Int) (rootsa : Option Addr) (rootsl : Nat) (rootsc : Nat) (need : Int) (g : G) (R : Value → G → Prop) (hF : F46 h0a h0l h0c h1 h2 rootsa rootsl rootsc need g R) : CallsG Try.prog 46 #[(.agg ⟨[(.slice h0a h0l h0c), (.int .i64 h1), (.int .i64 h2)]⟩), (.slice rootsa rootsl rootsc), (.int .i64 need)] g nobody R :=
  fn_soundG (c := cfg46) TTok FNSok mixed Try.func46 (show Try.f46.body = some c46 by kernel_rfl) (show Try.f46.ntmps = 69 by kernel_rfl) (show Try.f46.results.toList = [.cell 6 24, .tmp 7, .tmp 8] by kernel_rfl) rfl ((F46_eq h0a h0l h0c h1 h2 rootsa rootsl rootsc need g R).mpr hF)

/- 47 pilaster/pilasterref50.Fault -/
noncomputable def c47 : Code := match Try.f47.body with
  | some c => c
  | none => .skip
noncomputable def cfg47 : Cfg := ⟨Try.prog, TT, FNS, [2, 7], [(2, 2), (7, 7), (26, 7), (30, 7), (36, 7), (40, 7), (44, 7)], [], TCH, false, false⟩
def an47 : AnnG := (.seq .leaf (.seq (.seq .leaf (.cond (.seq .leaf .leaf) .leaf)) (.seq (.seq .leaf (.cond (.seq .leaf .leaf) .leaf)) (.seq .leaf (.seq (.seq .leaf (.blk (.loop ⟨[(6, .int .i64)], [], []⟩ (.seq (.seq .leaf (.cond .leaf .leaf)) (.join ⟨[], [], []⟩ (.blk (.seq .leaf (.seq .leaf (.cond (.seq .leaf .leaf) .leaf)))) .leaf))))) (.seq .leaf .leaf))))))
def F47 (h0a : Option Addr) (h0l : Nat) (h0c : Nat) (h1 : Int) (h2 : Int) (la : Option Addr) (ll : Nat) (lc : Nat) (g : G) (R : Value → G → Prop) : Prop :=
  ∀ g1 : G, Ex g g1 →
  (CallsP Try.prog 23 #[(.agg ⟨[(.slice h0a h0l h0c), (.int .i64 h1), (.int .i64 h2)]⟩)] g1 fun v g2 =>
  ∃ x : Bool, v = (.bool x) ∧ ifB (!x)
  (∀ g3 : G, Ex g2 g3 →
  R (.int .i64 (1 : Int)) g3)
  (ifB (ltI (65536 : Int) ((ll : Nat) : Int))
  (∀ g4 : G, Ex g2 g4 →
  R (.int .i64 (5 : Int)) g4)
  ((CallsP Try.prog 36 #[(.agg ⟨[(.slice h0a h0l h0c), (.int .i64 h1), (.int .i64 h2)]⟩)] g2 fun v g5 =>
  ∃ blocksa : Option Addr, ∃ blocksl : Nat, ∃ blocksc : Nat, v = (.slice blocksa blocksl blocksc) ∧ ∃ Inv : Nat → Int → G → Prop, ((∃ m0 : Nat, Inv m0 (0 : Int) g5)) ∧
  ∀ m : Nat, ∀ i : Int, ∀ g6 : G, Le g5 g6 → Inv m i g6 →
  ifB (ltI i ((ll : Nat) : Int))
  (∀ J : G → Prop,
  (∀ g7 : G, (InI64 (i + (1 : Int)) ∧ (∃ m_1 : Nat, m_1 < m ∧ Inv m_1 (i + (1 : Int)) g7)) → J g7) →
  (0 ≤ i ∧ i < ((ll : Nat) : Int)) ∧ derefP la fun ad => ∃ x0 : Bool, ∃ x1 : Int, g6.w.cell? (Addr.add ad (Int.toNat i * 2)) = some (.bool x0) ∧ g6.w.cell? (Addr.add (Addr.add ad (Int.toNat i * 2)) 1) = some (.int .i64 x1) ∧ ifB x0
  (∀ g8 : G, Ex g6 g8 →
  (CallsP Try.prog 81 #[(.slice blocksa blocksl blocksc), (.int .i64 x1)] g8 fun v g9 =>
  ∃ x_1 : Bool, v = (.bool x_1) ∧ ifB (!x_1)
  (∀ g10 : G, Ex g9 g10 →
  R (.int .i64 (2 : Int)) g10)
  (ifB (!x0)
  (ifB (ltI (4503599627370496 : Int) x1)
  (∀ g11 : G, Ex g9 g11 →
  R (.int .i64 (2 : Int)) g11)
  (ifB (ltI x1 (-4503599627370496 : Int))
  (∀ g12 : G, Ex g9 g12 →
  R (.int .i64 (2 : Int)) g12)
  (J g9)))
  (J g9))))
  (ifB (!x0)
  (ifB (ltI (4503599627370496 : Int) x1)
  (∀ g13 : G, Ex g6 g13 →
  R (.int .i64 (2 : Int)) g13)
  (ifB (ltI x1 (-4503599627370496 : Int))
  (∀ g14 : G, Ex g6 g14 →
  R (.int .i64 (2 : Int)) g14)
  (∀ g15 : G, Ex g6 g15 →
  J g15)))
  (∀ g16 : G, Ex g6 g16 →
  J g16)))
  (∀ g17 : G, Ex g6 g17 →
  R (.int .i64 (0 : Int)) g17)))))
theorem F47_eq (h0a : Option Addr) (h0l : Nat) (h0c : Nat) (h1 : Int) (h2 : Int) (la : Option Addr) (ll : Nat) (lc : Nat) (g : G) (R : Value → G → Prop) : fnG cfg47 50 [.tmp 4] c47 an47 [(.agg ⟨[(.slice h0a h0l h0c), (.int .i64 h1), (.int .i64 h2)]⟩), (.slice la ll lc)] g nobody R = F47 h0a h0l h0c h1 h2 la ll lc g R := by kernel_rfl
theorem call47 (h0a : Option Addr) (h0l : Nat) (h0c : Nat) (h1 : Int) (h2 : Int) (la : Option Addr) (ll : Nat) (lc : Nat) (g : G) (R : Value → G → Prop) (hF : F47 h0a h0l h0c h1 h2 la ll lc g R) : CallsG Try.prog 47 #[(.agg ⟨[(.slice h0a h0l h0c), (.int .i64 h1), (.int .i64 h2)]⟩), (.slice la ll lc)] g nobody R :=
  fn_soundG (c := cfg47) TTok FNSok mixed Try.func47 (show Try.f47.body = some c47 by kernel_rfl) (show Try.f47.ntmps = 50 by kernel_rfl) (show Try.f47.results.toList = [.tmp 4] by kernel_rfl) rfl ((F47_eq h0a h0l h0c h1 h2 la ll lc g R).mpr hF)

/- 48 pilaster/pilasterref50.Live -/
noncomputable def c48 : Code := match Try.f48.body with
  | some c => c
  | none => .skip
noncomputable def cfg48 : Cfg := ⟨Try.prog, TT, FNS, [2], [(2, 2)], [], TCH, false, false⟩
def an48 : AnnG := (.seq .leaf (.seq .leaf (.seq .leaf (.seq (.seq .leaf (.blk (.loop ⟨[(6, .int .i64), (7, .int .i64)], [], []⟩ (.seq (.seq .leaf (.cond .leaf .leaf)) (.seq (.blk (.seq (.tree 12 (.quiet 0 (.quiet 1 (.quiet 2 (.quiet 3 (.quiet 4 (.eff 5 (.quiet 6 (.quiet 7 (.quiet 8 (.quiet 9 (.quiet 10 (.quiet 11 .fin)))))) .fin))))))) .leaf)) .leaf))))) (.seq .leaf .leaf)))))
def F48 (h0a : Option Addr) (h0l : Nat) (h0c : Nat) (h1 : Int) (h2 : Int) (rootsa : Option Addr) (rootsl : Nat) (rootsc : Nat) (g : G) (R : Value → G → Prop) : Prop :=
  ∀ g1 : G, Ex g g1 →
  (CallsP Try.prog 85 #[(.agg ⟨[(.slice h0a h0l h0c), (.int .i64 h1), (.int .i64 h2)]⟩), (.slice rootsa rootsl rootsc)] g1 fun v g2 =>
  ∃ la : Option Addr, ∃ ll : Nat, ∃ lc : Nat, v = (.slice la ll lc) ∧ ∃ Inv : Nat → Int → Int → G → Prop, ((∃ m0 : Nat, Inv m0 (0 : Int) (0 : Int) g2)) ∧
  ∀ m : Nat, ∀ n : Int, ∀ i : Int, ∀ g3 : G, Le g2 g3 → Inv m n i g3 →
  ifB (ltI i ((ll : Nat) : Int))
  (∀ g4 : G, Ex g3 g4 →
  (0 ≤ i ∧ i < ((ll : Nat) : Int)) ∧ derefP la fun ad => ∃ x : Int, g4.w.cell? (Addr.add ad (Int.toNat i * 1)) = some (.int .i64 x) ∧ (CallsP Try.prog 38 #[(.agg ⟨[(.slice h0a h0l h0c), (.int .i64 h1), (.int .i64 h2)]⟩), (.int .i64 x)] g4 fun v g5 =>
  ∃ x0 : Int, ∃ x1 : Int, ∃ x2a : Option Addr, ∃ x2l : Nat, ∃ x2c : Nat, v = (.tuple ⟨[(.int .i64 x0), (.int .i64 x1), (.slice x2a x2l x2c)]⟩) ∧ InI64 (n + (3 : Int)) ∧ InI64 ((n + (3 : Int)) + ((x2l : Nat) : Int)) ∧ InI64 (i + (1 : Int)) ∧ (∃ m_1 : Nat, m_1 < m ∧ Inv m_1 ((n + (3 : Int)) + ((x2l : Nat) : Int)) (i + (1 : Int)) g5)))
  (∀ g6 : G, Ex g3 g6 →
  R (.int .i64 n) g6))
theorem F48_eq (h0a : Option Addr) (h0l : Nat) (h0c : Nat) (h1 : Int) (h2 : Int) (rootsa : Option Addr) (rootsl : Nat) (rootsc : Nat) (g : G) (R : Value → G → Prop) : fnG cfg48 36 [.tmp 4] c48 an48 [(.agg ⟨[(.slice h0a h0l h0c), (.int .i64 h1), (.int .i64 h2)]⟩), (.slice rootsa rootsl rootsc)] g nobody R = F48 h0a h0l h0c h1 h2 rootsa rootsl rootsc g R := by kernel_rfl
theorem call48 (h0a : Option Addr) (h0l : Nat) (h0c : Nat) (h1 : Int) (h2 : Int) (rootsa : Option Addr) (rootsl : Nat) (rootsc : Nat) (g : G) (R : Value → G → Prop) (hF : F48 h0a h0l h0c h1 h2 rootsa rootsl rootsc g R) : CallsG Try.prog 48 #[(.agg ⟨[(.slice h0a h0l h0c), (.int .i64 h1), (.int .i64 h2)]⟩), (.slice rootsa rootsl rootsc)] g nobody R :=
  fn_soundG (c := cfg48) TTok FNSok mixed Try.func48 (show Try.f48.body = some c48 by kernel_rfl) (show Try.f48.ntmps = 36 by kernel_rfl) (show Try.f48.results.toList = [.tmp 4] by kernel_rfl) rfl ((F48_eq h0a h0l h0c h1 h2 rootsa rootsl rootsc g R).mpr hF)

/- 49 pilaster/pilasterref50.Collect -/
noncomputable def c49 : Code := match Try.f49.body with
  | some c => c
  | none => .skip
noncomputable def cfg49 : Cfg := ⟨Try.prog, TT, FNS, [2, 4, 13, 14], [(2, 2), (4, 4), (13, 13), (14, 14), (50, 2), (70, 14), (81, 14), (82, 14), (88, 14)], [], TCH, false, false⟩
def an49 : AnnG := (.seq .leaf (.seq .leaf (.seq .leaf (.seq .leaf (.seq (.seq .leaf (.blk (.loop ⟨[(7, .sl), (8, .int .i64), (9, .int .i64)], [], []⟩ (.seq (.seq .leaf (.cond .leaf .leaf)) (.seq (.blk (.seq (.tree 12 (.quiet 0 (.quiet 1 (.quiet 2 (.quiet 3 (.quiet 4 (.eff 5 (.quiet 6 (.quiet 7 (.quiet 8 (.quiet 9 (.quiet 10 (.quiet 11 .fin)))))) .fin))))))) (.seq .leaf .leaf))) .leaf))))) (.seq .leaf (.seq .leaf (.seq (.seq .leaf (.blk (.loop ⟨[(15, .int .i64)], [(14, 14, 0)], [(14, [(.sl), (.int .i64), (.int .i64)])]⟩ (.seq (.seq .leaf (.cond .leaf .leaf)) (.seq (.blk (.seq (.tree 12 (.quiet 0 (.quiet 1 (.quiet 2 (.quiet 3 (.quiet 4 (.eff 5 (.quiet 6 (.quiet 7 (.quiet 8 (.quiet 9 (.quiet 10 (.quiet 11 .fin)))))) .fin))))))) (.seq .leaf (.treeP false [14] 5 (.quiet 0 (.quiet 2 (.quiet 3 (.eff 1 (.eff 4 .fin .fin) (.eff 4 (.eff 1 .fin .fin) .fin))))))))) .leaf))))) (.seq (.treeP false [4] 4 (.quiet 0 (.quiet 1 (.quiet 2 (.eff 3 .fin .fin))))) .leaf)))))))))
def F49 (h0a : Option Addr) (h0l : Nat) (h0c : Nat) (h1 : Int) (h2 : Int) (rootsa : Option Addr) (rootsl : Nat) (rootsc : Nat) (g : G) (R : Value → G → Prop) : Prop :=
  ∀ g1 : G, Ex g g1 →
  (CallsP Try.prog 85 #[(.agg ⟨[(.slice h0a h0l h0c), (.int .i64 h1), (.int .i64 h2)]⟩), (.slice rootsa rootsl rootsc)] g1 fun v g2 =>
  ∃ la : Option Addr, ∃ ll : Nat, ∃ lc : Nat, v = (.slice la ll lc) ∧ ∃ Inv : Nat → Option Addr → Nat → Nat → Int → Int → G → Prop, ((∃ m0 : Nat, Inv m0 none 0 0 (0 : Int) (0 : Int) g2)) ∧
  ∀ m : Nat, ∀ ata : Option Addr, ∀ atl : Nat, ∀ atc : Nat, ∀ n : Int, ∀ i : Int, ∀ g3 : G, Le g2 g3 → Inv m ata atl atc n i g3 →
  ifB (ltI i ((ll : Nat) : Int))
  (∀ g4 : G, Ex g3 g4 →
  (0 ≤ i ∧ i < ((ll : Nat) : Int)) ∧ derefP la fun ad => ∃ x : Int, g4.w.cell? (Addr.add ad (Int.toNat i * 1)) = some (.int .i64 x) ∧ (CallsP Try.prog 38 #[(.agg ⟨[(.slice h0a h0l h0c), (.int .i64 h1), (.int .i64 h2)]⟩), (.int .i64 x)] g4 fun v g5 =>
  ∃ x0 : Int, ∃ x1 : Int, ∃ x2a : Option Addr, ∃ x2l : Nat, ∃ x2c : Nat, v = (.tuple ⟨[(.int .i64 x0), (.int .i64 x1), (.slice x2a x2l x2c)]⟩) ∧ ∀ g6 : G, NewL g5 g6 3 [(.int .i64 n)] →
  ∃ ata_1 : Option Addr, ∃ atl_1 : Nat, ∃ atc_1 : Nat, ∃ wo1 : World, Sem.run Try.prog (Builtin.append_ #[55, 55] 55 #[(.slice ata atl atc), (.slice (some ⟨g5.w.heap.size, 0, none⟩) 1 1)]) g6.w = .ok (.slice ata_1 atl_1 atc_1) wo1 ∧ ∃ g7 : G, g7.w = wo1 ∧ Stp g.w.heap.size nobody g6 g7 ∧ InI64 (n + (3 : Int)) ∧ InI64 ((n + (3 : Int)) + ((x2l : Nat) : Int)) ∧ InI64 (i + (1 : Int)) ∧ (∃ m_1 : Nat, m_1 < m ∧ Inv m_1 ata_1 atl_1 atc_1 ((n + (3 : Int)) + ((x2l : Nat) : Int)) (i + (1 : Int)) g7)))
  (∀ g8 : G, Ex g3 g8 →
  ∃ Inv_1 : Nat → Int → Option Addr → Nat → Nat → Int → Int → G → Prop, (∀ g9 : G, Ex g8 g9 →
  (∃ m0 : Nat, Inv_1 m0 (0 : Int) none 0 0 n h2 g9)) ∧
  ∀ m_2 : Nat, ∀ i_1 : Int, ∀ out0a : Option Addr, ∀ out0l : Nat, ∀ out0c : Nat, ∀ out1 : Int, ∀ out2 : Int, ∀ g10 : G, Le g8 g10 → Inv_1 m_2 i_1 out0a out0l out0c out1 out2 g10 →
  ifB (ltI i_1 ((ll : Nat) : Int))
  (∀ g11 : G, Ex g10 g11 →
  (0 ≤ i_1 ∧ i_1 < ((ll : Nat) : Int)) ∧ derefP la fun ad_1 => ∃ x_1 : Int, g11.w.cell? (Addr.add ad_1 (Int.toNat i_1 * 1)) = some (.int .i64 x_1) ∧ (CallsP Try.prog 38 #[(.agg ⟨[(.slice h0a h0l h0c), (.int .i64 h1), (.int .i64 h2)]⟩), (.int .i64 x_1)] g11 fun v g12 =>
  ∃ x0_1 : Int, ∃ x1_1 : Int, ∃ x2a_1 : Option Addr, ∃ x2l_1 : Nat, ∃ x2c_1 : Nat, v = (.tuple ⟨[(.int .i64 x0_1), (.int .i64 x1_1), (.slice x2a_1 x2l_1 x2c_1)]⟩) ∧ ∀ g13 : G, NewL g12 g13 41 [(.bool false), (.int .i64 x0_1), (.bool false), (.int .i64 x1_1), (.bool false), (.int .i64 ((x2l_1 : Nat) : Int))] →
  ∃ xa : Option Addr, ∃ xl : Nat, ∃ xc : Nat, ∃ wo2 : World, Sem.run Try.prog (Builtin.append_ #[22, 22] 22 #[(.slice out0a out0l out0c), (.slice (some ⟨g12.w.heap.size, 0, none⟩) 3 3)]) g13.w = .ok (.slice xa xl xc) wo2 ∧ ∃ g14 : G, g14.w = wo2 ∧ Stp g.w.heap.size nobody g13 g14 ∧ ∀ g15 : G, Ex g14 g15 →
  Rep 1 (∀ g16 : G, Ex g15 g16 →
  (CallsP Try.prog 86 #[(.agg ⟨[(.slice la ll lc), (.slice ata atl atc)]⟩), (.slice x2a_1 x2l_1 x2c_1)] g16 fun v g17 =>
  ∃ xa_1 : Option Addr, ∃ xl_1 : Nat, ∃ xc_1 : Nat, v = (.slice xa_1 xl_1 xc_1) ∧ ∃ xa_2 : Option Addr, ∃ xl_2 : Nat, ∃ xc_2 : Nat, ∃ wo3 : World, Sem.run Try.prog (Builtin.append_ #[22, 22] 22 #[(.slice xa xl xc), (.slice xa_1 xl_1 xc_1)]) g17.w = .ok (.slice xa_2 xl_2 xc_2) wo3 ∧ ∃ g18 : G, g18.w = wo3 ∧ Stp g.w.heap.size nobody g17 g18 ∧ InI64 (i_1 + (1 : Int)) ∧ ∀ g19 : G, Ex g18 g19 →
  (∃ m_3 : Nat, m_3 < m_2 ∧ Inv_1 m_3 (i_1 + (1 : Int)) xa_2 xl_2 xc_2 out1 out2 g19)))))
  (∀ g24 : G, Ex g10 g24 →
  ∀ g25 : G, Ex g24 g25 →
  (CallsP Try.prog 86 #[(.agg ⟨[(.slice la ll lc), (.slice ata atl atc)]⟩), (.slice rootsa rootsl rootsc)] g25 fun v g26 =>
  ∃ xa_5 : Option Addr, ∃ xl_5 : Nat, ∃ xc_5 : Nat, v = (.slice xa_5 xl_5 xc_5) ∧ ∀ g27 : G, Ex g26 g27 →
  R (.tuple ⟨[(.agg ⟨[(.slice out0a out0l out0c), (.int .i64 out1), (.int .i64 out2)]⟩), (.slice xa_5 xl_5 xc_5)]⟩) g27))))
theorem F49_eq (h0a : Option Addr) (h0l : Nat) (h0c : Nat) (h1 : Int) (h2 : Int) (rootsa : Option Addr) (rootsl : Nat) (rootsc : Nat) (g : G) (R : Value → G → Prop) : fnG cfg49 93 [.cell 4 24, .tmp 5] c49 an49 [(.agg ⟨[(.slice h0a h0l h0c), (.int .i64 h1), (.int .i64 h2)]⟩), (.slice rootsa rootsl rootsc)] g nobody R = F49 h0a h0l h0c h1 h2 rootsa rootsl rootsc g R := by kernel_rfl
theorem call49 (h0a : Option Addr) (h0l : Nat) (h0c : Nat) (h1 : Int) (h2 : Int) (rootsa : Option Addr) (rootsl : Nat) (rootsc : Nat) (g : G) (R : Value → G → Prop) (hF : F49 h0a h0l h0c h1 h2 rootsa rootsl rootsc g R) : CallsG Try.prog 49 #[(.agg ⟨[(.slice h0a h0l h0c), (.int .i64 h1), (.int .i64 h2)]⟩), (.slice rootsa rootsl rootsc)] g nobody R :=
  fn_soundG (c := cfg49) TTok FNSok mixed Try.func49 (show Try.f49.body = some c49 by kernel_rfl) (show Try.f49.ntmps = 93 by kernel_rfl) (show Try.f49.results.toList = [.cell 4 24, .tmp 5] by kernel_rfl) rfl ((F49_eq h0a h0l h0c h1 h2 rootsa rootsl rootsc g R).mpr hF)

/- 53 pilaster/collect.Same -/
noncomputable def c53 : Code := match Try.f53.body with
  | some c => c
  | none => .skip
noncomputable def cfg53 : Cfg := ⟨Try.prog, TT, FNS, [4, 6, 18], [(4, 4), (6, 6), (18, 18), (69, 18), (70, 18), (72, 18), (73, 18), (76, 18), (77, 18), (80, 18), (81, 18), (83, 18), (84, 18), (89, 18), (90, 18), (97, 18), (98, 18), (115, 18), (116, 18), (122, 18), (123, 18), (128, 18), (129, 18), (132, 18), (133, 18), (135, 18), (136, 18), (138, 18), (139, 18), (141, 4), (143, 18), (144, 18), (148, 18), (149, 18), (153, 6), (155, 18), (156, 18), (160, 18), (161, 18)], [], TCH, true, false⟩
def an53 : AnnG := (.seq .leaf (.seq (.seq .leaf (.seq .leaf (.cond (.seq .leaf .leaf) .leaf))) (.seq (.seq .leaf (.seq .leaf (.cond (.seq .leaf .leaf) .leaf))) (.seq (.seq .leaf (.cond (.seq .leaf .leaf) .leaf)) (.seq .leaf (.seq .leaf (.seq .leaf (.seq .leaf (.seq (.blk (.loop ⟨[], [], []⟩ (.seq (.seq .leaf (.cond .leaf .leaf)) (.blk (.seq .leaf (.seq .leaf (.seq (.seq .leaf (.cond (.seq .leaf .leaf) .leaf)) (.seq (.seq .leaf (.cond (.seq (.seq .leaf (.cond (.seq .leaf .leaf) .leaf)) .leaf) .leaf)) (.seq .leaf (.seq .leaf (.seq (.join ⟨[(106, .bool)], [], []⟩ .leaf (.cond (.seq (.seq .leaf (.cond (.seq .leaf .leaf) .leaf)) .leaf) .leaf)) (.seq (.treeB 15 (.quiet 0 (.quiet 1 (.quiet 2 (.quiet 3 (.quiet 4 (.quiet 5 (.quiet 6 (.quiet 7 (.quiet 8 (.quiet 9 (.quiet 10 (.quiet 11 (.quiet 12 (.quiet 13 (.eff 14 .fin .fin)))))))))))))))) (.seq (.treeB 25 (.quiet 0 (.quiet 1 (.quiet 2 (.quiet 3 (.quiet 4 (.quiet 5 (.quiet 6 (.quiet 7 (.quiet 8 (.quiet 9 (.quiet 12 (.quiet 13 (.quiet 14 (.quiet 15 (.quiet 16 (.quiet 17 (.quiet 18 (.quiet 19 (.quiet 20 (.quiet 21 (.eff 10 (.quiet 11 (.eff 22 (.quiet 23 (.quiet 24 .fin)) .fin)) .fin)))))))))))))))))))))) (.seq (.seq (.treeB 4 (.quiet 0 (.quiet 1 (.quiet 2 (.quiet 3 .fin))))) (.cond (.seq .leaf .leaf) .leaf)) (.treeB 5 (.quiet 0 (.quiet 1 (.quiet 2 (.quiet 3 (.quiet 4 .fin)))))))))))))))))))) (.seq .leaf .leaf))))))))))
def F53 (a0a : Option Addr) (a0l : Nat) (a0c : Nat) (a1 : Int) (a2 : Int) (xa : Option Addr) (xl : Nat) (xc : Nat) (b0a : Option Addr) (b0l : Nat) (b0c : Nat) (b1 : Int) (b2 : Int) (ya : Option Addr) (yl : Nat) (yc : Nat) (g : G) (R : Value → G → Prop) : Prop :=
  ∀ g1 : G, Ex g g1 →
  (CallsP Try.prog 83 #[(.agg ⟨[(.slice a0a a0l a0c), (.int .i64 a1), (.int .i64 a2)]⟩), (.slice xa xl xc)] g1 fun v g2 =>
  ∃ x0 : Option Nat, ∃ x1 : Int, v = (.tuple ⟨[(.map x0), (.int .i64 x1)]⟩) ∧ ifB (!eqI x1 (0 : Int))
  (∀ g3 : G, Ex g2 g3 →
  R (.tuple ⟨[(.bool false), (.int .i64 x1)]⟩) g3)
  ((CallsP Try.prog 83 #[(.agg ⟨[(.slice b0a b0l b0c), (.int .i64 b1), (.int .i64 b2)]⟩), (.slice ya yl yc)] g2 fun v g4 =>
  ∃ x0_1 : Option Nat, ∃ x1_1 : Int, v = (.tuple ⟨[(.map x0_1), (.int .i64 x1_1)]⟩) ∧ ifB (!eqI x1_1 (0 : Int))
  (∀ g5 : G, Ex g4 g5 →
  R (.tuple ⟨[(.bool false), (.int .i64 x1_1)]⟩) g5)
  (ifB (!eqI ((xl : Nat) : Int) ((yl : Nat) : Int))
  (∀ g6 : G, Ex g4 g6 →
  R (.tuple ⟨[(.bool false), (.int .i64 (0 : Int))]⟩) g6)
  (∀ g7 : G, NewD g4 g7 122 [(.slice none 0 0)] →
  ∀ g8 : G, NewM g7 g8 →
  ∀ g9 : G, NewM g8 g9 →
  Enters Try.prog 89 ∧ ∃ M6 : Nat → Prop, (∀ b, b < g.w.heap.size → M6 b → nobody b) ∧ (CallsG Try.prog 89 ((⟨[(.slice xa xl xc), (.slice ya yl yc)]⟩ : Array Value) ++ ⟨[(.pointer (some ⟨g4.w.heap.size, 0, none⟩))]⟩) g9 M6 fun v g10 =>
  v = (.tuple ⟨[]⟩) ∧ ∃ Inv : Nat → G → Prop, ((∃ m0 : Nat, Inv m0 g10)) ∧
  ∀ m : Nat, ∀ g11 : G, Le g10 g11 → Inv m g11 →
  ∃ worka : Option Addr, ∃ workl : Nat, ∃ workc : Nat, g11.w.cell? ⟨g4.w.heap.size, 0, none⟩ = some (.slice worka workl workc) ∧ ifB (ltI (0 : Int) ((workl : Nat) : Int))
  (∃ worka_1 : Option Addr, ∃ workl_1 : Nat, ∃ workc_1 : Nat, g11.w.cell? ⟨g4.w.heap.size, 0, none⟩ = some (.slice worka_1 workl_1 workc_1) ∧ ∃ worka_2 : Option Addr, ∃ workl_2 : Nat, ∃ workc_2 : Nat, g11.w.cell? ⟨g4.w.heap.size, 0, none⟩ = some (.slice worka_2 workl_2 workc_2) ∧ InI64 (((workl_2 : Nat) : Int) - (1 : Int)) ∧ (0 ≤ (((workl_2 : Nat) : Int) - (1 : Int)) ∧ (((workl_2 : Nat) : Int) - (1 : Int)) < ((workl_1 : Nat) : Int)) ∧ derefP worka_1 fun ad => ∃ x0_2 : Bool, ∃ x1_2 : Int, ∃ x2 : Bool, ∃ x3 : Int, g11.w.cell? (Addr.add ad (Int.toNat (((workl_2 : Nat) : Int) - (1 : Int)) * 4)) = some (.bool x0_2) ∧ g11.w.cell? (Addr.add (Addr.add ad (Int.toNat (((workl_2 : Nat) : Int) - (1 : Int)) * 4)) 1) = some (.int .i64 x1_2) ∧ g11.w.cell? (Addr.add (Addr.add ad (Int.toNat (((workl_2 : Nat) : Int) - (1 : Int)) * 4)) 2) = some (.bool x2) ∧ g11.w.cell? (Addr.add (Addr.add ad (Int.toNat (((workl_2 : Nat) : Int) - (1 : Int)) * 4)) 3) = some (.int .i64 x3) ∧ ∀ g12 : G, Ex g11 g12 →
  ∃ worka_3 : Option Addr, ∃ workl_3 : Nat, ∃ workc_3 : Nat, g12.w.cell? ⟨g4.w.heap.size, 0, none⟩ = some (.slice worka_3 workl_3 workc_3) ∧ ∃ worka_4 : Option Addr, ∃ workl_4 : Nat, ∃ workc_4 : Nat, g12.w.cell? ⟨g4.w.heap.size, 0, none⟩ = some (.slice worka_4 workl_4 workc_4) ∧ InI64 (((workl_4 : Nat) : Int) - (1 : Int)) ∧ (0 ≤ (((workl_4 : Nat) : Int) - (1 : Int)) ∧ (((workl_4 : Nat) : Int) - (1 : Int)) ≤ ((workc_3 : Nat) : Int)) ∧ stOk g12.w ⟨g4.w.heap.size, 0, none⟩ 1 ∧ ¬ g12.X (Addr.block ⟨g4.w.heap.size, 0, none⟩) ∧ mutAt g12 ⟨g4.w.heap.size, 0, none⟩ 1 ∧ ((Addr.block ⟨g4.w.heap.size, 0, none⟩) < g.w.heap.size → nobody (Addr.block ⟨g4.w.heap.size, 0, none⟩)) ∧ ∀ g13 : G, StG false g12 ⟨g4.w.heap.size, 0, none⟩ [(.slice (slAddr worka_3 workc_3 0 4) ((Int.toNat (((workl_4 : Nat) : Int) - (1 : Int))) - 0) (workc_3 - 0))] g13 →
  ifB (!(x0_2 == x2))
  (∀ g14 : G, Ex g13 g14 →
  R (.tuple ⟨[(.bool false), (.int .i64 (0 : Int))]⟩) g14)
  (ifB (!x0_2)
  (ifB (!eqI x1_2 x3)
  (∀ g15 : G, Ex g13 g15 →
  R (.tuple ⟨[(.bool false), (.int .i64 (0 : Int))]⟩) g15)
  ((∃ m_1 : Nat, m_1 < m ∧ Inv m_1 g13)))
  (∃ x0_3 : Int, ∃ x1_3 : Bool, ∃ wo1 : World, Sem.run Try.prog (Instr.lookup 115 (.map (some g7.w.heap.size)) (.int .i64 x1_2) true) g13.w = .ok (.tuple ⟨[(.int .i64 x0_3), (.bool x1_3)]⟩) wo1 ∧ ∃ g16 : G, g16.w = wo1 ∧ Stp g.w.heap.size nobody g13 g16 ∧ ∃ x0_4 : Int, ∃ x1_4 : Bool, ∃ wo2 : World, Sem.run Try.prog (Instr.lookup 115 (.map (some g8.w.heap.size)) (.int .i64 x3) true) g16.w = .ok (.tuple ⟨[(.int .i64 x0_4), (.bool x1_4)]⟩) wo2 ∧ ∃ g17 : G, g17.w = wo2 ∧ Stp g.w.heap.size nobody g16 g17 ∧ ∀ J : Bool → G → Prop,
  (∀ v_1 : Bool, ∀ g18 : G, (ifB v_1
  (ifB (!x1_3)
  (∀ g19 : G, Ex g18 g19 →
  R (.tuple ⟨[(.bool false), (.int .i64 (0 : Int))]⟩) g19)
  (ifB (!x1_4)
  (∀ g20 : G, Ex g18 g20 →
  R (.tuple ⟨[(.bool false), (.int .i64 (0 : Int))]⟩) g20)
  (ifB (!eqI x0_3 x3)
  (∀ g21 : G, Ex g18 g21 →
  R (.tuple ⟨[(.bool false), (.int .i64 (0 : Int))]⟩) g21)
  (ifB (!eqI x0_4 x1_2)
  (∀ g22 : G, Ex g18 g22 →
  R (.tuple ⟨[(.bool false), (.int .i64 (0 : Int))]⟩) g22)
  ((∃ m_1 : Nat, m_1 < m ∧ Inv m_1 g18))))))
  (∀ g23 : G, Ex g18 g23 →
  ∃ MR1 : Nat → Prop, (∀ b, MR1 b → ¬ g23.X b) ∧ ∃ wo3 : World, Sem.run Try.prog (Instr.mapUpdate 115 (.map (some g7.w.heap.size)) (.int .i64 x1_2) (.int .i64 x3)) g23.w = .ok () wo3 ∧ ∃ g24 : G, g24.w = wo3 ∧ Stp g.w.heap.size nobody g23 g24 ∧ SameBut MR1 g23 g24 ∧ ∃ wo4 : World, Sem.run Try.prog (Instr.mapUpdate 115 (.map (some g8.w.heap.size)) (.int .i64 x3) (.int .i64 x1_2)) g24.w = .ok () wo4 ∧ ∃ g25 : G, g25.w = wo4 ∧ Stp g.w.heap.size nobody g24 g25 ∧ ∀ g26 : G, Ex g25 g26 →
  ∃ MR2 : Nat → Prop, (∀ b, MR2 b → ¬ g26.X b) ∧ (0 ≤ x1_2 ∧ x1_2 ≤ ((a0l : Nat) : Int)) ∧ (0 ≤ x3 ∧ x3 ≤ ((b0l : Nat) : Int)) ∧ (CallsP Try.prog 90 #[(.agg ⟨[(.slice a0a a0l a0c), (.int .i64 a1), (.int .i64 a2)]⟩), (.int .i64 x1_2)] g26 fun v g27 =>
  ∃ x : Int, v = (.int .i64 x) ∧ (0 ≤ x ∧ x ≤ (((a0c - (Int.toNat x1_2)) : Nat) : Int)) ∧ (CallsP Try.prog 90 #[(.agg ⟨[(.slice b0a b0l b0c), (.int .i64 b1), (.int .i64 b2)]⟩), (.int .i64 x3)] g27 fun v g28 =>
  ∃ x_1 : Int, v = (.int .i64 x_1) ∧ (0 ≤ x_1 ∧ x_1 ≤ (((b0c - (Int.toNat x3)) : Nat) : Int)) ∧ ∀ g29 : G, Ex g28 g29 →
  ∃ MR3 : Nat → Prop, (∀ b, MR3 b → ¬ g29.X b) ∧ (0 ≤ (3 : Int) ∧ (3 : Int) ≤ ((((a0c - (Int.toNat x1_2)) - 0) : Nat) : Int)) ∧ (0 ≤ (3 : Int) ∧ (3 : Int) ≤ ((((b0c - (Int.toNat x3)) - 0) : Nat) : Int)) ∧ (CallsP Try.prog 91 #[(.slice (slAddr (slAddr (slAddr a0a a0c (Int.toNat x1_2) 2) (a0c - (Int.toNat x1_2)) 0 2) ((a0c - (Int.toNat x1_2)) - 0) 0 2) ((Int.toNat (3 : Int)) - 0) (((a0c - (Int.toNat x1_2)) - 0) - 0)), (.slice (slAddr (slAddr (slAddr b0a b0c (Int.toNat x3) 2) (b0c - (Int.toNat x3)) 0 2) ((b0c - (Int.toNat x3)) - 0) 0 2) ((Int.toNat (3 : Int)) - 0) (((b0c - (Int.toNat x3)) - 0) - 0))] g29 fun v g30 =>
  ∃ x_2 : Bool, v = (.bool x_2) ∧ ifB (!x_2)
  (∀ g31 : G, Ex g30 g31 →
  R (.tuple ⟨[(.bool false), (.int .i64 (0 : Int))]⟩) g31)
  (∀ g32 : G, Ex g30 g32 →
  ∃ MR4 : Nat → Prop, (∀ b, MR4 b → ¬ g32.X b) ∧ (0 ≤ (3 : Int) ∧ (3 : Int) ≤ ((((Int.toNat x) - 0) : Nat) : Int)) ∧ (0 ≤ (3 : Int) ∧ (3 : Int) ≤ ((((Int.toNat x_1) - 0) : Nat) : Int)) ∧ Enters Try.prog 89 ∧ ∃ M5 : Nat → Prop, (∀ b, b < g.w.heap.size → M5 b → nobody b) ∧ (CallsG Try.prog 89 ((⟨[(.slice (slAddr (slAddr (slAddr a0a a0c (Int.toNat x1_2) 2) (a0c - (Int.toNat x1_2)) 0 2) ((a0c - (Int.toNat x1_2)) - 0) (Int.toNat (3 : Int)) 2) (((Int.toNat x) - 0) - (Int.toNat (3 : Int))) (((a0c - (Int.toNat x1_2)) - 0) - (Int.toNat (3 : Int)))), (.slice (slAddr (slAddr (slAddr b0a b0c (Int.toNat x3) 2) (b0c - (Int.toNat x3)) 0 2) ((b0c - (Int.toNat x3)) - 0) (Int.toNat (3 : Int)) 2) (((Int.toNat x_1) - 0) - (Int.toNat (3 : Int))) (((b0c - (Int.toNat x3)) - 0) - (Int.toNat (3 : Int))))]⟩ : Array Value) ++ ⟨[(.pointer (some ⟨g4.w.heap.size, 0, none⟩))]⟩) g32 M5 fun v g33 =>
  v = (.tuple ⟨[]⟩) ∧ (∃ m_1 : Nat, m_1 < m ∧ Inv m_1 g33)))))))) → J v_1 g18) →
  ifB x1_3
  (J true g17)
  (J x1_4 g17))))
  (∀ g34 : G, Ex g11 g34 →
  R (.tuple ⟨[(.bool true), (.int .i64 (0 : Int))]⟩) g34)))))))
theorem F53_eq (a0a : Option Addr) (a0l : Nat) (a0c : Nat) (a1 : Int) (a2 : Int) (xa : Option Addr) (xl : Nat) (xc : Nat) (b0a : Option Addr) (b0l : Nat) (b0c : Nat) (b1 : Int) (b2 : Int) (ya : Option Addr) (yl : Nat) (yc : Nat) (g : G) (R : Value → G → Prop) : fnG cfg53 177 [.tmp 8, .tmp 9] c53 an53 [(.agg ⟨[(.slice a0a a0l a0c), (.int .i64 a1), (.int .i64 a2)]⟩), (.slice xa xl xc), (.agg ⟨[(.slice b0a b0l b0c), (.int .i64 b1), (.int .i64 b2)]⟩), (.slice ya yl yc)] g nobody R = F53 a0a a0l a0c a1 a2 xa xl xc b0a b0l b0c b1 b2 ya yl yc g R := by kernel_rfl
theorem call53 (a0a : Option Addr) (a0l : Nat) (a0c : Nat) (a1 : Int) (a2 : Int) (xa : Option Addr) (xl : Nat) (xc : Nat) (b0a : Option Addr) (b0l : Nat) (b0c : Nat) (b1 : Int) (b2 : Int) (ya : Option Addr) (yl : Nat) (yc : Nat) (g : G) (R : Value → G → Prop) (hF : F53 a0a a0l a0c a1 a2 xa xl xc b0a b0l b0c b1 b2 ya yl yc g R) : CallsG Try.prog 53 #[(.agg ⟨[(.slice a0a a0l a0c), (.int .i64 a1), (.int .i64 a2)]⟩), (.slice xa xl xc), (.agg ⟨[(.slice b0a b0l b0c), (.int .i64 b1), (.int .i64 b2)]⟩), (.slice ya yl yc)] g nobody R :=
  fn_soundG (c := cfg53) TTok FNSok mixed Try.func53 (show Try.f53.body = some c53 by kernel_rfl) (show Try.f53.ntmps = 177 by kernel_rfl) (show Try.f53.results.toList = [.tmp 8, .tmp 9] by kernel_rfl) rfl ((F53_eq a0a a0l a0c a1 a2 xa xl xc b0a b0l b0c b1 b2 ya yl yc g R).mpr hF)

/- 54 pilaster/pilasterref50.Same -/
noncomputable def c54 : Code := match Try.f54.body with
  | some c => c
  | none => .skip
noncomputable def cfg54 : Cfg := ⟨Try.prog, TT, FNS, [4, 6, 9, 11], [(4, 4), (6, 6), (9, 9), (11, 11), (30, 9), (31, 11)], [], TCH, false, false⟩
def an54 : AnnG := (.seq .leaf (.seq (.seq .leaf (.cond (.seq .leaf .leaf) .leaf)) (.seq .leaf (.seq .leaf (.seq .leaf (.seq .leaf (.seq .leaf .leaf)))))))
def F54 (a0a : Option Addr) (a0l : Nat) (a0c : Nat) (a1 : Int) (a2 : Int) (xa : Option Addr) (xl : Nat) (xc : Nat) (b0a : Option Addr) (b0l : Nat) (b0c : Nat) (b1 : Int) (b2 : Int) (ya : Option Addr) (yl : Nat) (yc : Nat) (g : G) (R : Value → G → Prop) : Prop :=
  ifB (!eqI ((xl : Nat) : Int) ((yl : Nat) : Int))
  (∀ g1 : G, Ex g g1 →
  R (.bool false) g1)
  (∀ g2 : G, Ex g g2 →
  (CallsP Try.prog 49 #[(.agg ⟨[(.slice a0a a0l a0c), (.int .i64 a1), (.int .i64 a2)]⟩), (.slice xa xl xc)] g2 fun v g3 =>
  ∃ x00a : Option Addr, ∃ x00l : Nat, ∃ x00c : Nat, ∃ x01 : Int, ∃ x02 : Int, ∃ x1a : Option Addr, ∃ x1l : Nat, ∃ x1c : Nat, v = (.tuple ⟨[(.agg ⟨[(.slice x00a x00l x00c), (.int .i64 x01), (.int .i64 x02)]⟩), (.slice x1a x1l x1c)]⟩) ∧ ∀ g4 : G, Ex g3 g4 →
  (CallsP Try.prog 49 #[(.agg ⟨[(.slice b0a b0l b0c), (.int .i64 b1), (.int .i64 b2)]⟩), (.slice ya yl yc)] g4 fun v g5 =>
  ∃ x00a_1 : Option Addr, ∃ x00l_1 : Nat, ∃ x00c_1 : Nat, ∃ x01_1 : Int, ∃ x02_1 : Int, ∃ x1a_1 : Option Addr, ∃ x1l_1 : Nat, ∃ x1c_1 : Nat, v = (.tuple ⟨[(.agg ⟨[(.slice x00a_1 x00l_1 x00c_1), (.int .i64 x01_1), (.int .i64 x02_1)]⟩), (.slice x1a_1 x1l_1 x1c_1)]⟩) ∧ ∀ g6 : G, Ex g5 g6 →
  (CallsP Try.prog 20 #[(.agg ⟨[(.slice x00a x00l x00c), (.int .i64 x01), (.int .i64 (0 : Int))]⟩), (.agg ⟨[(.slice x00a_1 x00l_1 x00c_1), (.int .i64 x01_1), (.int .i64 (0 : Int))]⟩)] g6 fun v g7 =>
  ∃ x : Bool, v = (.bool x) ∧ ifB x
  ((CallsP Try.prog 39 #[(.slice x1a x1l x1c), (.slice x1a_1 x1l_1 x1c_1)] g7 fun v g8 =>
  ∃ x_1 : Bool, v = (.bool x_1) ∧ ∀ g9 : G, Ex g8 g9 →
  R (.bool x_1) g9))
  (∀ g10 : G, Ex g7 g10 →
  R (.bool false) g10)))))
theorem F54_eq (a0a : Option Addr) (a0l : Nat) (a0c : Nat) (a1 : Int) (a2 : Int) (xa : Option Addr) (xl : Nat) (xc : Nat) (b0a : Option Addr) (b0l : Nat) (b0c : Nat) (b1 : Int) (b2 : Int) (ya : Option Addr) (yl : Nat) (yc : Nat) (g : G) (R : Value → G → Prop) : fnG cfg54 40 [.tmp 8] c54 an54 [(.agg ⟨[(.slice a0a a0l a0c), (.int .i64 a1), (.int .i64 a2)]⟩), (.slice xa xl xc), (.agg ⟨[(.slice b0a b0l b0c), (.int .i64 b1), (.int .i64 b2)]⟩), (.slice ya yl yc)] g nobody R = F54 a0a a0l a0c a1 a2 xa xl xc b0a b0l b0c b1 b2 ya yl yc g R := by kernel_rfl
theorem call54 (a0a : Option Addr) (a0l : Nat) (a0c : Nat) (a1 : Int) (a2 : Int) (xa : Option Addr) (xl : Nat) (xc : Nat) (b0a : Option Addr) (b0l : Nat) (b0c : Nat) (b1 : Int) (b2 : Int) (ya : Option Addr) (yl : Nat) (yc : Nat) (g : G) (R : Value → G → Prop) (hF : F54 a0a a0l a0c a1 a2 xa xl xc b0a b0l b0c b1 b2 ya yl yc g R) : CallsG Try.prog 54 #[(.agg ⟨[(.slice a0a a0l a0c), (.int .i64 a1), (.int .i64 a2)]⟩), (.slice xa xl xc), (.agg ⟨[(.slice b0a b0l b0c), (.int .i64 b1), (.int .i64 b2)]⟩), (.slice ya yl yc)] g nobody R :=
  fn_soundG (c := cfg54) TTok FNSok mixed Try.func54 (show Try.f54.body = some c54 by kernel_rfl) (show Try.f54.ntmps = 40 by kernel_rfl) (show Try.f54.results.toList = [.tmp 8] by kernel_rfl) rfl ((F54_eq a0a a0l a0c a1 a2 xa xl xc b0a b0l b0c b1 b2 ya yl yc g R).mpr hF)

/- 55 pilaster/pilasterlaw50.nodes -/
noncomputable def c55 : Code := match Try.f55.body with
  | some c => c
  | none => .skip
noncomputable def cfg55 : Cfg := ⟨Try.prog, TT, FNS, [2, 7], [(2, 2), (7, 7), (8, 2)], [], TCH, false, false⟩
def an55 : AnnG := (.seq .leaf (.seq .leaf (.seq (.seq .leaf (.blk (.loop ⟨[(5, .int .i64), (11, .int .i64)], [], []⟩ (.seq .leaf (.seq (.cond .leaf .leaf) (.seq (.blk (.seq .leaf (.join ⟨[], [], []⟩ (.seq .leaf (.cond (.seq .leaf .leaf) .leaf)) .leaf))) .leaf)))))) (.seq .leaf .leaf))))
def F55 (v0 : Int) (v1 : Int) (v2 : ByteArray) (v3a : Option Addr) (v3l : Nat) (v3c : Nat) (v4a : Option Addr) (v4l : Nat) (v4c : Nat) (depth : Int) (g : G) (R : Value → G → Prop) : Prop :=
  ∃ Inv : Nat → Int → Int → G → Prop, (∀ g1 : G, Ex g g1 →
  (∃ m0 : Nat, Inv m0 (1 : Int) (0 : Int) g1)) ∧
  ∀ m : Nat, ∀ n : Int, ∀ v_1 : Int, ∀ g2 : G, Le g g2 → Inv m n v_1 g2 →
  ifB (ltI v_1 ((v4l : Nat) : Int))
  ((0 ≤ v_1 ∧ v_1 < ((v4l : Nat) : Int)) ∧ derefP v4a fun ad => ∃ x0 : Int, ∃ x1 : Int, ∃ x2 : ByteArray, ∃ x3a : Option Addr, ∃ x3l : Nat, ∃ x3c : Nat, ∃ x4a : Option Addr, ∃ x4l : Nat, ∃ x4c : Nat, g2.w.cell? (Addr.add ad (Int.toNat v_1 * 5)) = some (.int .i64 x0) ∧ g2.w.cell? (Addr.add (Addr.add ad (Int.toNat v_1 * 5)) 1) = some (.int .i64 x1) ∧ g2.w.cell? (Addr.add (Addr.add ad (Int.toNat v_1 * 5)) 2) = some (.string x2) ∧ g2.w.cell? (Addr.add (Addr.add ad (Int.toNat v_1 * 5)) 3) = some (.slice x3a x3l x3c) ∧ g2.w.cell? (Addr.add (Addr.add ad (Int.toNat v_1 * 5)) 4) = some (.slice x4a x4l x4c) ∧ ∀ J : G → Prop,
  (∀ g3 : G, (InI64 (depth - (1 : Int)) ∧ (CallsP Try.prog 55 #[(.agg ⟨[(.int .i64 x0), (.int .i64 x1), (.string x2), (.slice x3a x3l x3c), (.slice x4a x4l x4c)]⟩), (.int .i64 (depth - (1 : Int)))] g3 fun v g4 =>
  ∃ x : Int, v = (.int .i64 x) ∧ InI64 (n + x) ∧ InI64 (v_1 + (1 : Int)) ∧ (∃ m_1 : Nat, m_1 < m ∧ Inv m_1 (n + x) (v_1 + (1 : Int)) g4))) → J g3) →
  ifB (ltI (60 : Int) n)
  (∀ g5 : G, Ex g2 g5 →
  R (.int .i64 (61 : Int)) g5)
  (ifB (eqI depth (0 : Int))
  (∀ g6 : G, Ex g2 g6 →
  R (.int .i64 (61 : Int)) g6)
  (∀ g7 : G, Ex g2 g7 →
  J g7)))
  (∀ g8 : G, Ex g2 g8 →
  R (.int .i64 n) g8)
theorem F55_eq (v0 : Int) (v1 : Int) (v2 : ByteArray) (v3a : Option Addr) (v3l : Nat) (v3c : Nat) (v4a : Option Addr) (v4l : Nat) (v4c : Nat) (depth : Int) (g : G) (R : Value → G → Prop) : fnG cfg55 29 [.tmp 4] c55 an55 [(.agg ⟨[(.int .i64 v0), (.int .i64 v1), (.string v2), (.slice v3a v3l v3c), (.slice v4a v4l v4c)]⟩), (.int .i64 depth)] g nobody R = F55 v0 v1 v2 v3a v3l v3c v4a v4l v4c depth g R := by kernel_rfl
theorem call55 (v0 : Int) (v1 : Int) (v2 : ByteArray) (v3a : Option Addr) (v3l : Nat) (v3c : Nat) (v4a : Option Addr) (v4l : Nat) (v4c : Nat) (depth : Int) (g : G) (R : Value → G → Prop) (hF : F55 v0 v1 v2 v3a v3l v3c v4a v4l v4c depth g R) : CallsG Try.prog 55 #[(.agg ⟨[(.int .i64 v0), (.int .i64 v1), (.string v2), (.slice v3a v3l v3c), (.slice v4a v4l v4c)]⟩), (.int .i64 depth)] g nobody R :=
  fn_soundG (c := cfg55) TTok FNSok mixed Try.func55 (show Try.f55.body = some c55 by kernel_rfl) (show Try.f55.ntmps = 29 by kernel_rfl) (show Try.f55.results.toList = [.tmp 4] by kernel_rfl) rfl ((F55_eq v0 v1 v2 v3a v3l v3c v4a v4l v4c depth g R).mpr hF)

/- 56 pilaster/collect.Live -/
noncomputable def c56 : Code := match Try.f56.body with
  | some c => c
  | none => .skip
noncomputable def cfg56 : Cfg := ⟨Try.prog, TT, FNS, [2], [(2, 2)], [], TCH, false, false⟩
def an56 : AnnG := (.seq .leaf (.seq (.seq .leaf (.seq .leaf (.cond (.seq .leaf .leaf) .leaf))) (.seq .leaf (.seq .leaf .leaf))))
def F56 (h0a : Option Addr) (h0l : Nat) (h0c : Nat) (h1 : Int) (h2 : Int) (rootsa : Option Addr) (rootsl : Nat) (rootsc : Nat) (g : G) (R : Value → G → Prop) : Prop :=
  ∀ g1 : G, Ex g g1 →
  (CallsP Try.prog 83 #[(.agg ⟨[(.slice h0a h0l h0c), (.int .i64 h1), (.int .i64 h2)]⟩), (.slice rootsa rootsl rootsc)] g1 fun v g2 =>
  ∃ x0 : Option Nat, ∃ x1 : Int, v = (.tuple ⟨[(.map x0), (.int .i64 x1)]⟩) ∧ ifB (!eqI x1 (0 : Int))
  (∀ g3 : G, Ex g2 g3 →
  R (.tuple ⟨[(.int .i64 (0 : Int)), (.int .i64 x1)]⟩) g3)
  ((CallsP Try.prog 84 #[(.agg ⟨[(.slice h0a h0l h0c), (.int .i64 h1), (.int .i64 h2)]⟩), (.slice rootsa rootsl rootsc)] g2 fun v g4 =>
  ∃ x0_1 : Option Addr, ∃ x1a : Option Addr, ∃ x1l : Nat, ∃ x1c : Nat, v = (.tuple ⟨[(.pointer x0_1), (.slice x1a x1l x1c)]⟩) ∧ derefP x0_1 fun ad => ∃ xa : Option Addr, ∃ xl : Nat, ∃ xc : Nat, g4.w.cell? (Addr.add ad 3) = some (.slice xa xl xc) ∧ ∀ g5 : G, Ex g4 g5 →
  R (.tuple ⟨[(.int .i64 ((xl : Nat) : Int)), (.int .i64 (0 : Int))]⟩) g5)))
theorem F56_eq (h0a : Option Addr) (h0l : Nat) (h0c : Nat) (h1 : Int) (h2 : Int) (rootsa : Option Addr) (rootsl : Nat) (rootsc : Nat) (g : G) (R : Value → G → Prop) : fnG cfg56 31 [.tmp 4, .tmp 5] c56 an56 [(.agg ⟨[(.slice h0a h0l h0c), (.int .i64 h1), (.int .i64 h2)]⟩), (.slice rootsa rootsl rootsc)] g nobody R = F56 h0a h0l h0c h1 h2 rootsa rootsl rootsc g R := by kernel_rfl
theorem call56 (h0a : Option Addr) (h0l : Nat) (h0c : Nat) (h1 : Int) (h2 : Int) (rootsa : Option Addr) (rootsl : Nat) (rootsc : Nat) (g : G) (R : Value → G → Prop) (hF : F56 h0a h0l h0c h1 h2 rootsa rootsl rootsc g R) : CallsG Try.prog 56 #[(.agg ⟨[(.slice h0a h0l h0c), (.int .i64 h1), (.int .i64 h2)]⟩), (.slice rootsa rootsl rootsc)] g nobody R :=
  fn_soundG (c := cfg56) TTok FNSok mixed Try.func56 (show Try.f56.body = some c56 by kernel_rfl) (show Try.f56.ntmps = 31 by kernel_rfl) (show Try.f56.results.toList = [.tmp 4, .tmp 5] by kernel_rfl) rfl ((F56_eq h0a h0l h0c h1 h2 rootsa rootsl rootsc g R).mpr hF)

/- 58 pilaster/pilasterref50.Reachable -/
noncomputable def c58 : Code := match Try.f58.body with
  | some c => c
  | none => .skip
noncomputable def cfg58 : Cfg := ⟨Try.prog, TT, FNS, [2], [(2, 2)], [], TCH, false, false⟩
def an58 : AnnG := (.seq .leaf (.seq .leaf (.seq .leaf (.seq .leaf (.seq (.seq .leaf (.blk (.loop ⟨[(7, .sl), (8, .int .i64)], [], []⟩ (.seq (.seq .leaf (.cond .leaf .leaf)) (.seq (.blk (.seq .leaf (.cond .leaf .leaf))) .leaf))))) (.seq .leaf .leaf))))))
def F58 (h0a : Option Addr) (h0l : Nat) (h0c : Nat) (h1 : Int) (h2 : Int) (rootsa : Option Addr) (rootsl : Nat) (rootsc : Nat) (g : G) (R : Value → G → Prop) : Prop :=
  ∀ g1 : G, Ex g g1 →
  (CallsP Try.prog 85 #[(.agg ⟨[(.slice h0a h0l h0c), (.int .i64 h1), (.int .i64 h2)]⟩), (.slice rootsa rootsl rootsc)] g1 fun v g2 =>
  ∃ la : Option Addr, ∃ ll : Nat, ∃ lc : Nat, v = (.slice la ll lc) ∧ (CallsP Try.prog 36 #[(.agg ⟨[(.slice h0a h0l h0c), (.int .i64 h1), (.int .i64 h2)]⟩)] g2 fun v g3 =>
  ∃ alla : Option Addr, ∃ alll : Nat, ∃ allc : Nat, v = (.slice alla alll allc) ∧ ∃ Inv : Nat → Option Addr → Nat → Nat → Int → G → Prop, ((∃ m0 : Nat, Inv m0 none 0 0 (0 : Int) g3)) ∧
  ∀ m : Nat, ∀ outa : Option Addr, ∀ outl : Nat, ∀ outc : Nat, ∀ i : Int, ∀ g4 : G, Le g3 g4 → Inv m outa outl outc i g4 →
  ifB (ltI i ((alll : Nat) : Int))
  ((0 ≤ i ∧ i < ((alll : Nat) : Int)) ∧ derefP alla fun ad => ∃ x : Int, g4.w.cell? (Addr.add ad (Int.toNat i * 1)) = some (.int .i64 x) ∧ (CallsP Try.prog 93 #[(.slice la ll lc), (.int .i64 x)] g4 fun v g5 =>
  ∃ x_1 : Int, v = (.int .i64 x_1) ∧ ifB (leI (0 : Int) x_1)
  ((0 ≤ i ∧ i < ((alll : Nat) : Int)) ∧ derefP alla fun ad_1 => ∃ x_2 : Int, g5.w.cell? (Addr.add ad_1 (Int.toNat i * 1)) = some (.int .i64 x_2) ∧ ∀ g6 : G, NewL g5 g6 3 [(.int .i64 x_2)] →
  ∃ outa_1 : Option Addr, ∃ outl_1 : Nat, ∃ outc_1 : Nat, ∃ wo1 : World, Sem.run Try.prog (Builtin.append_ #[55, 55] 55 #[(.slice outa outl outc), (.slice (some ⟨g5.w.heap.size, 0, none⟩) 1 1)]) g6.w = .ok (.slice outa_1 outl_1 outc_1) wo1 ∧ ∃ g7 : G, g7.w = wo1 ∧ Stp g.w.heap.size nobody g6 g7 ∧ InI64 (i + (1 : Int)) ∧ (∃ m_1 : Nat, m_1 < m ∧ Inv m_1 outa_1 outl_1 outc_1 (i + (1 : Int)) g7))
  (InI64 (i + (1 : Int)) ∧ (∃ m_1 : Nat, m_1 < m ∧ Inv m_1 outa outl outc (i + (1 : Int)) g5))))
  (∀ g8 : G, Ex g4 g8 →
  R (.slice outa outl outc) g8)))
theorem F58_eq (h0a : Option Addr) (h0l : Nat) (h0c : Nat) (h1 : Int) (h2 : Int) (rootsa : Option Addr) (rootsl : Nat) (rootsc : Nat) (g : G) (R : Value → G → Prop) : fnG cfg58 35 [.tmp 4] c58 an58 [(.agg ⟨[(.slice h0a h0l h0c), (.int .i64 h1), (.int .i64 h2)]⟩), (.slice rootsa rootsl rootsc)] g nobody R = F58 h0a h0l h0c h1 h2 rootsa rootsl rootsc g R := by kernel_rfl
theorem call58 (h0a : Option Addr) (h0l : Nat) (h0c : Nat) (h1 : Int) (h2 : Int) (rootsa : Option Addr) (rootsl : Nat) (rootsc : Nat) (g : G) (R : Value → G → Prop) (hF : F58 h0a h0l h0c h1 h2 rootsa rootsl rootsc g R) : CallsG Try.prog 58 #[(.agg ⟨[(.slice h0a h0l h0c), (.int .i64 h1), (.int .i64 h2)]⟩), (.slice rootsa rootsl rootsc)] g nobody R :=
  fn_soundG (c := cfg58) TTok FNSok mixed Try.func58 (show Try.f58.body = some c58 by kernel_rfl) (show Try.f58.ntmps = 35 by kernel_rfl) (show Try.f58.results.toList = [.tmp 4] by kernel_rfl) rfl ((F58_eq h0a h0l h0c h1 h2 rootsa rootsl rootsc g R).mpr hF)

/- 82 pilaster/pilasterlaw50.example -/
noncomputable def c82 : Code := match Try.f82.body with
  | some c => c
  | none => .skip
noncomputable def cfg82 : Cfg := ⟨Try.prog, TT, FNS, [0, 1, 2, 3, 5], [(0, 0), (1, 1), (2, 2), (3, 3), (5, 5)], [], TCH, false, false⟩
def an82 : AnnG := (.seq .leaf (.seq .leaf (.seq .leaf (.seq .leaf (.seq .leaf (.seq (.treeP false [0, 1] 3 (.quiet 0 (.quiet 1 (.eff 2 .fin .fin)))) .leaf))))))
def F82 (g : G) (R : Value → G → Prop) : Prop :=
  ∀ g1 : G, Ex g g1 →
  ∀ g2 : G, Ex g1 g2 →
  (CallsP Try.prog 25 #[(.agg ⟨[(.slice none 0 0), (.int .i64 (0 : Int)), (.int .i64 (100 : Int))]⟩), (.string (bs [97]))] g2 fun v g3 =>
  ∃ x00a : Option Addr, ∃ x00l : Nat, ∃ x00c : Nat, ∃ x01 : Int, ∃ x02 : Int, ∃ x10 : Bool, ∃ x11 : Int, ∃ x2 : Int, v = (.tuple ⟨[(.agg ⟨[(.slice x00a x00l x00c), (.int .i64 x01), (.int .i64 x02)]⟩), (.agg ⟨[(.bool x10), (.int .i64 x11)]⟩), (.int .i64 x2)]⟩) ∧ ∀ g4 : G, Ex g3 g4 →
  (CallsP Try.prog 25 #[(.agg ⟨[(.slice x00a x00l x00c), (.int .i64 x01), (.int .i64 x02)]⟩), (.string (bs [98]))] g4 fun v g5 =>
  ∃ x00a_1 : Option Addr, ∃ x00l_1 : Nat, ∃ x00c_1 : Nat, ∃ x01_1 : Int, ∃ x02_1 : Int, ∃ x10_1 : Bool, ∃ x11_1 : Int, ∃ x2_1 : Int, v = (.tuple ⟨[(.agg ⟨[(.slice x00a_1 x00l_1 x00c_1), (.int .i64 x01_1), (.int .i64 x02_1)]⟩), (.agg ⟨[(.bool x10_1), (.int .i64 x11_1)]⟩), (.int .i64 x2_1)]⟩) ∧ ∀ g6 : G, Ex g5 g6 →
  ∀ g7 : G, NewL g6 g7 41 [(.bool x10_1), (.int .i64 x11_1), (.bool x10_1), (.int .i64 x11_1)] →
  (CallsP Try.prog 30 #[(.agg ⟨[(.slice x00a_1 x00l_1 x00c_1), (.int .i64 x01_1), (.int .i64 x02_1)]⟩), (.int .i64 (1 : Int)), (.int .i64 (0 : Int)), (.slice (some ⟨g6.w.heap.size, 0, none⟩) 2 2)] g7 fun v g8 =>
  ∃ x00a_2 : Option Addr, ∃ x00l_2 : Nat, ∃ x00c_2 : Nat, ∃ x01_2 : Int, ∃ x02_2 : Int, ∃ x10_2 : Bool, ∃ x11_2 : Int, ∃ x2_2 : Int, v = (.tuple ⟨[(.agg ⟨[(.slice x00a_2 x00l_2 x00c_2), (.int .i64 x01_2), (.int .i64 x02_2)]⟩), (.agg ⟨[(.bool x10_2), (.int .i64 x11_2)]⟩), (.int .i64 x2_2)]⟩) ∧ ∀ g9 : G, Ex g8 g9 →
  ∀ g10 : G, Ex g9 g10 →
  R (.tuple ⟨[(.agg ⟨[(.slice x00a_2 x00l_2 x00c_2), (.int .i64 x01_2), (.int .i64 x02_2)]⟩), (.agg ⟨[(.bool x10_2), (.int .i64 x11_2)]⟩)]⟩) g10)))
theorem F82_eq (g : G) (R : Value → G → Prop) : fnG cfg82 31 [.cell 0 24, .cell 1 41] c82 an82 [] g nobody R = F82 g R := by kernel_rfl
theorem call82 (g : G) (R : Value → G → Prop) (hF : F82 g R) : CallsG Try.prog 82 #[] g nobody R :=
  fn_soundG (c := cfg82) TTok FNSok mixed Try.func82 (show Try.f82.body = some c82 by kernel_rfl) (show Try.f82.ntmps = 31 by kernel_rfl) (show Try.f82.results.toList = [.cell 0 24, .cell 1 41] by kernel_rfl) rfl ((F82_eq g R).mpr hF)

/- 83 pilaster/collect.check -/
noncomputable def c83 : Code := match Try.f83.body with
  | some c => c
  | none => .skip
noncomputable def cfg83 : Cfg := ⟨Try.prog, TT, FNS, [2], [(2, 2)], [8], TCH, false, false⟩
def an83 : AnnG := (.seq .leaf (.seq .leaf (.seq (.blk (.seq .leaf (.cond (.seq .leaf .leaf) (.seq .leaf (.cond (.seq .leaf .leaf) .leaf))))) (.seq .leaf (.seq (.seq .leaf (.blk (.loop ⟨[(27, .int .i64)], [], []⟩ (.seq .leaf (.seq (.cond .leaf .leaf) (.seq (.blk (.seq .leaf .leaf)) .leaf)))))) (.seq (.seq .leaf (.cond (.seq .leaf .leaf) .leaf)) (.seq .leaf .leaf)))))))
def F83 (h0a : Option Addr) (h0l : Nat) (h0c : Nat) (h1 : Int) (h2 : Int) (la : Option Addr) (ll : Nat) (lc : Nat) (g : G) (R : Value → G → Prop) : Prop :=
  ∀ g1 : G, Ex g g1 →
  (CallsP Try.prog 34 #[(.agg ⟨[(.slice h0a h0l h0c), (.int .i64 h1), (.int .i64 h2)]⟩)] g1 fun v g2 =>
  ∃ x0a : Option Addr, ∃ x0l : Nat, ∃ x0c : Nat, ∃ x1 : Int, v = (.tuple ⟨[(.slice x0a x0l x0c), (.int .i64 x1)]⟩) ∧ ifB (!eqI x1 (0 : Int))
  (∀ g3 : G, Ex g2 g3 →
  R (.tuple ⟨[(.map none), (.int .i64 x1)]⟩) g3)
  (ifB (ltI (65536 : Int) ((ll : Nat) : Int))
  (∀ g4 : G, Ex g2 g4 →
  R (.tuple ⟨[(.map none), (.int .i64 (5 : Int))]⟩) g4)
  (∀ g5 : G, NewM g2 g5 →
  ∀ g6 : G, NewD g5 g6 109 [(.map none)] →
  stOk g6.w ⟨g5.w.heap.size, 0, none⟩ 1 ∧ ¬ g6.X (Addr.block ⟨g5.w.heap.size, 0, none⟩) ∧ mutAt g6 ⟨g5.w.heap.size, 0, none⟩ 1 ∧ ((Addr.block ⟨g5.w.heap.size, 0, none⟩) < g.w.heap.size → nobody (Addr.block ⟨g5.w.heap.size, 0, none⟩)) ∧ ∀ g7 : G, StG true g6 ⟨g5.w.heap.size, 0, none⟩ [(.map (some g2.w.heap.size))] g7 →
  ∃ Inv : Nat → Int → G → Prop, ((∃ m0 : Nat, Inv m0 (0 : Int) g7)) ∧
  ∀ m : Nat, ∀ v_1 : Int, ∀ g8 : G, Le g7 g8 → Inv m v_1 g8 →
  ifB (ltI v_1 ((x0l : Nat) : Int))
  ((0 ≤ v_1 ∧ v_1 < ((x0l : Nat) : Int)) ∧ derefP x0a fun ad => ∃ n : Int, g8.w.cell? (Addr.add ad (Int.toNat v_1 * 1)) = some (.int .i64 n) ∧ ∃ starts : Option Nat, g8.w.cell? ⟨g5.w.heap.size, 0, none⟩ = some (.map starts) ∧ ∃ wo1 : World, Sem.run Try.prog (Instr.mapUpdate 109 (.map starts) (.int .i64 n) (.bool true)) g8.w = .ok () wo1 ∧ ∃ g9 : G, g9.w = wo1 ∧ Stp g.w.heap.size nobody g8 g9 ∧ InI64 (v_1 + (1 : Int)) ∧ (∃ m_1 : Nat, m_1 < m ∧ Inv m_1 (v_1 + (1 : Int)) g9))
  ((CallsP Try.prog 76 #[(.slice la ll lc), (.func (.func 105) #[] ⟨[(.pointer (some ⟨g5.w.heap.size, 0, none⟩))]⟩)] g8 fun v g10 =>
  ∃ x : Bool, v = (.bool x) ∧ ifB x
  (∀ g11 : G, Ex g10 g11 →
  R (.tuple ⟨[(.map none), (.int .i64 (2 : Int))]⟩) g11)
  (∃ starts_1 : Option Nat, g10.w.cell? ⟨g5.w.heap.size, 0, none⟩ = some (.map starts_1) ∧ ∀ g12 : G, Ex g10 g12 →
  R (.tuple ⟨[(.map starts_1), (.int .i64 (0 : Int))]⟩) g12))))))
theorem F83_eq (h0a : Option Addr) (h0l : Nat) (h0c : Nat) (h1 : Int) (h2 : Int) (la : Option Addr) (ll : Nat) (lc : Nat) (g : G) (R : Value → G → Prop) : fnG cfg83 38 [.tmp 4, .tmp 5] c83 an83 [(.agg ⟨[(.slice h0a h0l h0c), (.int .i64 h1), (.int .i64 h2)]⟩), (.slice la ll lc)] g nobody R = F83 h0a h0l h0c h1 h2 la ll lc g R := by kernel_rfl
theorem call83 (h0a : Option Addr) (h0l : Nat) (h0c : Nat) (h1 : Int) (h2 : Int) (la : Option Addr) (ll : Nat) (lc : Nat) (g : G) (R : Value → G → Prop) (hF : F83 h0a h0l h0c h1 h2 la ll lc g R) : CallsG Try.prog 83 #[(.agg ⟨[(.slice h0a h0l h0c), (.int .i64 h1), (.int .i64 h2)]⟩), (.slice la ll lc)] g nobody R :=
  fn_soundG (c := cfg83) TTok FNSok mixed Try.func83 (show Try.f83.body = some c83 by kernel_rfl) (show Try.f83.ntmps = 38 by kernel_rfl) (show Try.f83.results.toList = [.tmp 4, .tmp 5] by kernel_rfl) rfl ((F83_eq h0a h0l h0c h1 h2 la ll lc g R).mpr hF)

/- 84 pilaster/collect.collect -/
noncomputable def c84 : Code := match Try.f84.body with
  | some c => c
  | none => .skip
noncomputable def cfg84 : Cfg := ⟨Try.prog, TT, FNS, [2, 9, 13], [(2, 2), (9, 9), (13, 13), (15, 2)], [], TCH, false, false⟩
def an84 : AnnG := (.seq .leaf (.seq .leaf (.seq .leaf (.seq (.seq .leaf (.blk (.loop ⟨[(7, .sl), (23, .int .i64)], [], []⟩ (.seq .leaf (.seq (.cond .leaf .leaf) (.seq (.blk (.seq .leaf .leaf)) .leaf)))))) (.seq (.seq .leaf (.blk (.loop ⟨[(10, .int .i64)], [], []⟩ (.seq (.seq .leaf (.cond .leaf .leaf)) (.blk (.seq .leaf (.seq (.seq .leaf (.blk (.loop ⟨[(12, .int .i64)], [], []⟩ (.seq (.seq .leaf (.cond .leaf .leaf)) (.seq (.blk (.seq .leaf (.tree 7 (.quiet 0 (.quiet 1 (.quiet 2 (.quiet 3 (.quiet 4 (.quiet 5 (.quiet 6 .fin)))))))))) .leaf))))) .leaf))))))) (.seq .leaf (.seq .leaf .leaf)))))))
def F84 (h0a : Option Addr) (h0l : Nat) (h0c : Nat) (h1 : Int) (h2 : Int) (rootsa : Option Addr) (rootsl : Nat) (rootsc : Nat) (g : G) (R : Value → G → Prop) : Prop :=
  ∀ g1 : G, Ex g g1 →
  ∀ g2 : G, NewM g1 g2 →
  ∀ g3 : G, NewD g2 g3 117 ([(.slice h0a h0l h0c), (.int .i64 h1), (.int .i64 h2), (.slice none 0 0), (.int .i64 (0 : Int)), (.int .i64 h2), (.map (some g1.w.heap.size))] : List Value) →
  ∃ Inv : Nat → Option Addr → Nat → Nat → Int → G → Prop, ((∃ m0 : Nat, Inv m0 none 0 0 (0 : Int) g3)) ∧
  ∀ m : Nat, ∀ outa : Option Addr, ∀ outl : Nat, ∀ outc : Nat, ∀ v_1 : Int, ∀ g4 : G, Le g3 g4 → Inv m outa outl outc v_1 g4 →
  ifB (ltI v_1 ((rootsl : Nat) : Int))
  ((0 ≤ v_1 ∧ v_1 < ((rootsl : Nat) : Int)) ∧ derefP rootsa fun ad => ∃ x0 : Bool, ∃ x1 : Int, g4.w.cell? (Addr.add ad (Int.toNat v_1 * 2)) = some (.bool x0) ∧ g4.w.cell? (Addr.add (Addr.add ad (Int.toNat v_1 * 2)) 1) = some (.int .i64 x1) ∧ ∀ g5 : G, Ex g4 g5 →
  ∃ M1 : Nat → Prop, (∀ b, b < g.w.heap.size → M1 b → nobody b) ∧ (CallsG Try.prog 106 #[(.pointer (some ⟨g2.w.heap.size, 0, none⟩)), (.agg ⟨[(.bool x0), (.int .i64 x1)]⟩)] g5 M1 fun v g6 =>
  ∃ x0_1 : Bool, ∃ x1_1 : Int, v = (.agg ⟨[(.bool x0_1), (.int .i64 x1_1)]⟩) ∧ ∀ g7 : G, NewL g6 g7 41 [(.bool x0_1), (.int .i64 x1_1)] →
  ∃ outa_1 : Option Addr, ∃ outl_1 : Nat, ∃ outc_1 : Nat, ∃ wo1 : World, Sem.run Try.prog (Builtin.append_ #[22, 22] 22 #[(.slice outa outl outc), (.slice (some ⟨g6.w.heap.size, 0, none⟩) 1 1)]) g7.w = .ok (.slice outa_1 outl_1 outc_1) wo1 ∧ ∃ g8 : G, g8.w = wo1 ∧ Stp g.w.heap.size nobody g7 g8 ∧ InI64 (v_1 + (1 : Int)) ∧ (∃ m_1 : Nat, m_1 < m ∧ Inv m_1 outa_1 outl_1 outc_1 (v_1 + (1 : Int)) g8)))
  (∃ Inv_1 : Nat → Int → G → Prop, ((∃ m0 : Nat, Inv_1 m0 (0 : Int) g4)) ∧
  ∀ m_2 : Nat, ∀ at0 : Int, ∀ g9 : G, Le g4 g9 → Inv_1 m_2 at0 g9 →
  ∃ xa : Option Addr, ∃ xl : Nat, ∃ xc : Nat, g9.w.cell? (Addr.add ⟨g2.w.heap.size, 0, none⟩ 3) = some (.slice xa xl xc) ∧ ifB (ltI at0 ((xl : Nat) : Int))
  (∃ x0a : Option Addr, ∃ x0l : Nat, ∃ x0c : Nat, ∃ x1_2 : Int, ∃ x2 : Int, g9.w.cell? (Addr.add ⟨g2.w.heap.size, 0, none⟩ 3) = some (.slice x0a x0l x0c) ∧ g9.w.cell? (Addr.add (Addr.add ⟨g2.w.heap.size, 0, none⟩ 3) 1) = some (.int .i64 x1_2) ∧ g9.w.cell? (Addr.add (Addr.add ⟨g2.w.heap.size, 0, none⟩ 3) 2) = some (.int .i64 x2) ∧ (CallsP Try.prog 90 #[(.agg ⟨[(.slice x0a x0l x0c), (.int .i64 x1_2), (.int .i64 x2)]⟩), (.int .i64 at0)] g9 fun v g10 =>
  ∃ n : Int, v = (.int .i64 n) ∧ InI64 (at0 + (3 : Int)) ∧ ∃ Inv_2 : Nat → Int → G → Prop, ((∃ m0 : Nat, Inv_2 m0 (at0 + (3 : Int)) g10)) ∧
  ∀ m_4 : Nat, ∀ i : Int, ∀ g11 : G, Le g10 g11 → Inv_2 m_4 i g11 →
  InI64 (at0 + n) ∧ ifB (ltI i (at0 + n))
  (∃ xa_1 : Option Addr, ∃ xl_1 : Nat, ∃ xc_1 : Nat, g11.w.cell? (Addr.add ⟨g2.w.heap.size, 0, none⟩ 3) = some (.slice xa_1 xl_1 xc_1) ∧ (0 ≤ i ∧ i < ((xl_1 : Nat) : Int)) ∧ derefP xa_1 fun ad_1 => ∃ x0_2 : Bool, ∃ x1_3 : Int, g11.w.cell? (Addr.add ad_1 (Int.toNat i * 2)) = some (.bool x0_2) ∧ g11.w.cell? (Addr.add (Addr.add ad_1 (Int.toNat i * 2)) 1) = some (.int .i64 x1_3) ∧ ∃ M2 : Nat → Prop, (∀ b, b < g.w.heap.size → M2 b → nobody b) ∧ (CallsG Try.prog 106 #[(.pointer (some ⟨g2.w.heap.size, 0, none⟩)), (.agg ⟨[(.bool x0_2), (.int .i64 x1_3)]⟩)] g11 M2 fun v g12 =>
  ∃ x0_3 : Bool, ∃ x1_4 : Int, v = (.agg ⟨[(.bool x0_3), (.int .i64 x1_4)]⟩) ∧ ∀ g13 : G, Ex g12 g13 →
  ∃ xa_2 : Option Addr, ∃ xl_2 : Nat, ∃ xc_2 : Nat, g13.w.cell? (Addr.add ⟨g2.w.heap.size, 0, none⟩ 3) = some (.slice xa_2 xl_2 xc_2) ∧ (0 ≤ i ∧ i < ((xl_2 : Nat) : Int)) ∧ derefP xa_2 fun ad_2 => stOk g13.w (Addr.add ad_2 (Int.toNat i * 2)) 2 ∧ ¬ g13.X (Addr.block (Addr.add ad_2 (Int.toNat i * 2))) ∧ mutAt g13 (Addr.add ad_2 (Int.toNat i * 2)) 2 ∧ ((Addr.block (Addr.add ad_2 (Int.toNat i * 2))) < g.w.heap.size → nobody (Addr.block (Addr.add ad_2 (Int.toNat i * 2)))) ∧ ∀ g14 : G, StG false g13 (Addr.add ad_2 (Int.toNat i * 2)) [(.bool x0_3), (.int .i64 x1_4)] g14 →
  InI64 (i + (1 : Int)) ∧ (∃ m_5 : Nat, m_5 < m_4 ∧ Inv_2 m_5 (i + (1 : Int)) g14)))
  (InI64 (at0 + n) ∧ (∃ m_3 : Nat, m_3 < m_2 ∧ Inv_1 m_3 (at0 + n) g11))))
  (∃ xa_3 : Option Addr, ∃ xl_3 : Nat, ∃ xc_3 : Nat, g9.w.cell? (Addr.add ⟨g2.w.heap.size, 0, none⟩ 3) = some (.slice xa_3 xl_3 xc_3) ∧ stOk g9.w (Addr.add (Addr.add ⟨g2.w.heap.size, 0, none⟩ 3) 1) 1 ∧ ¬ g9.X (Addr.block (Addr.add (Addr.add ⟨g2.w.heap.size, 0, none⟩ 3) 1)) ∧ mutAt g9 (Addr.add (Addr.add ⟨g2.w.heap.size, 0, none⟩ 3) 1) 1 ∧ ((Addr.block (Addr.add (Addr.add ⟨g2.w.heap.size, 0, none⟩ 3) 1)) < g.w.heap.size → nobody (Addr.block (Addr.add (Addr.add ⟨g2.w.heap.size, 0, none⟩ 3) 1))) ∧ ∀ g15 : G, StG false g9 (Addr.add (Addr.add ⟨g2.w.heap.size, 0, none⟩ 3) 1) [(.int .i64 ((xl_3 : Nat) : Int))] g15 →
  ∀ g16 : G, Ex g15 g16 →
  R (.tuple ⟨[(.pointer (some ⟨g2.w.heap.size, 0, none⟩)), (.slice outa outl outc)]⟩) g16))
theorem F84_eq (h0a : Option Addr) (h0l : Nat) (h0c : Nat) (h1 : Int) (h2 : Int) (rootsa : Option Addr) (rootsl : Nat) (rootsc : Nat) (g : G) (R : Value → G → Prop) : fnG cfg84 90 [.tmp 4, .tmp 5] c84 an84 [(.agg ⟨[(.slice h0a h0l h0c), (.int .i64 h1), (.int .i64 h2)]⟩), (.slice rootsa rootsl rootsc)] g nobody R = F84 h0a h0l h0c h1 h2 rootsa rootsl rootsc g R := by kernel_rfl
theorem call84 (h0a : Option Addr) (h0l : Nat) (h0c : Nat) (h1 : Int) (h2 : Int) (rootsa : Option Addr) (rootsl : Nat) (rootsc : Nat) (g : G) (R : Value → G → Prop) (hF : F84 h0a h0l h0c h1 h2 rootsa rootsl rootsc g R) : CallsG Try.prog 84 #[(.agg ⟨[(.slice h0a h0l h0c), (.int .i64 h1), (.int .i64 h2)]⟩), (.slice rootsa rootsl rootsc)] g nobody R :=
  fn_soundG (c := cfg84) TTok FNSok mixed Try.func84 (show Try.f84.body = some c84 by kernel_rfl) (show Try.f84.ntmps = 90 by kernel_rfl) (show Try.f84.results.toList = [.tmp 4, .tmp 5] by kernel_rfl) rfl ((F84_eq h0a h0l h0c h1 h2 rootsa rootsl rootsc g R).mpr hF)

/- 85 pilaster/pilasterref50.Order -/
noncomputable def c85 : Code := match Try.f85.body with
  | some c => c
  | none => .skip
noncomputable def cfg85 : Cfg := ⟨Try.prog, TT, FNS, [2], [(2, 2)], [], TCH, false, false⟩
def an85 : AnnG := (.seq .leaf (.seq .leaf (.seq (.seq .leaf (.blk (.loop ⟨[(5, .sl), (6, .int .i64)], [], []⟩ (.seq (.seq .leaf (.cond .leaf .leaf)) (.seq (.blk (.seq (.tree 12 (.quiet 0 (.quiet 1 (.quiet 2 (.quiet 3 (.quiet 4 (.eff 5 (.quiet 6 (.quiet 7 (.quiet 8 (.quiet 9 (.quiet 10 (.quiet 11 .fin)))))) .fin))))))) .leaf)) .leaf))))) (.seq .leaf .leaf))))
def F85 (h0a : Option Addr) (h0l : Nat) (h0c : Nat) (h1 : Int) (h2 : Int) (rootsa : Option Addr) (rootsl : Nat) (rootsc : Nat) (g : G) (R : Value → G → Prop) : Prop :=
  ∀ g1 : G, Ex g g1 →
  ∃ M2 : Nat → Prop, (∀ b, b < g.w.heap.size → M2 b → nobody b) ∧ (CallsG Try.prog 107 #[(.slice none 0 0), (.slice rootsa rootsl rootsc)] g1 M2 fun v g2 =>
  ∃ la : Option Addr, ∃ ll : Nat, ∃ lc : Nat, v = (.slice la ll lc) ∧ ∃ Inv : Nat → Option Addr → Nat → Nat → Int → G → Prop, ((∃ m0 : Nat, Inv m0 la ll lc (0 : Int) g2)) ∧
  ∀ m : Nat, ∀ la_1 : Option Addr, ∀ ll_1 : Nat, ∀ lc_1 : Nat, ∀ i : Int, ∀ g3 : G, Le g2 g3 → Inv m la_1 ll_1 lc_1 i g3 →
  ifB (ltI i ((ll_1 : Nat) : Int))
  (∀ g4 : G, Ex g3 g4 →
  (0 ≤ i ∧ i < ((ll_1 : Nat) : Int)) ∧ derefP la_1 fun ad => ∃ x : Int, g4.w.cell? (Addr.add ad (Int.toNat i * 1)) = some (.int .i64 x) ∧ (CallsP Try.prog 38 #[(.agg ⟨[(.slice h0a h0l h0c), (.int .i64 h1), (.int .i64 h2)]⟩), (.int .i64 x)] g4 fun v g5 =>
  ∃ x0 : Int, ∃ x1 : Int, ∃ x2a : Option Addr, ∃ x2l : Nat, ∃ x2c : Nat, v = (.tuple ⟨[(.int .i64 x0), (.int .i64 x1), (.slice x2a x2l x2c)]⟩) ∧ ∃ M1 : Nat → Prop, (∀ b, b < g.w.heap.size → M1 b → nobody b) ∧ (CallsG Try.prog 107 #[(.slice la_1 ll_1 lc_1), (.slice x2a x2l x2c)] g5 M1 fun v g6 =>
  ∃ la_2 : Option Addr, ∃ ll_2 : Nat, ∃ lc_2 : Nat, v = (.slice la_2 ll_2 lc_2) ∧ InI64 (i + (1 : Int)) ∧ (∃ m_1 : Nat, m_1 < m ∧ Inv m_1 la_2 ll_2 lc_2 (i + (1 : Int)) g6))))
  (∀ g7 : G, Ex g3 g7 →
  R (.slice la_1 ll_1 lc_1) g7))
theorem F85_eq (h0a : Option Addr) (h0l : Nat) (h0c : Nat) (h1 : Int) (h2 : Int) (rootsa : Option Addr) (rootsl : Nat) (rootsc : Nat) (g : G) (R : Value → G → Prop) : fnG cfg85 32 [.tmp 4] c85 an85 [(.agg ⟨[(.slice h0a h0l h0c), (.int .i64 h1), (.int .i64 h2)]⟩), (.slice rootsa rootsl rootsc)] g nobody R = F85 h0a h0l h0c h1 h2 rootsa rootsl rootsc g R := by kernel_rfl
theorem call85 (h0a : Option Addr) (h0l : Nat) (h0c : Nat) (h1 : Int) (h2 : Int) (rootsa : Option Addr) (rootsl : Nat) (rootsc : Nat) (g : G) (R : Value → G → Prop) (hF : F85 h0a h0l h0c h1 h2 rootsa rootsl rootsc g R) : CallsG Try.prog 85 #[(.agg ⟨[(.slice h0a h0l h0c), (.int .i64 h1), (.int .i64 h2)]⟩), (.slice rootsa rootsl rootsc)] g nobody R :=
  fn_soundG (c := cfg85) TTok FNSok mixed Try.func85 (show Try.f85.body = some c85 by kernel_rfl) (show Try.f85.ntmps = 32 by kernel_rfl) (show Try.f85.results.toList = [.tmp 4] by kernel_rfl) rfl ((F85_eq h0a h0l h0c h1 h2 rootsa rootsl rootsc g R).mpr hF)

/- 86 (pilaster/pilasterref50.moves).all -/
noncomputable def c86 : Code := match Try.f86.body with
  | some c => c
  | none => .skip
noncomputable def cfg86 : Cfg := ⟨Try.prog, TT, FNS, [2, 7], [(2, 2), (7, 7), (18, 7), (20, 2), (22, 2), (24, 7), (29, 7)], [], TCH, false, false⟩
def an86 : AnnG := (.seq .leaf (.seq .leaf (.seq (.seq .leaf (.blk (.loop ⟨[(5, .sl), (6, .int .i64)], [], []⟩ (.seq (.seq .leaf (.cond .leaf .leaf)) (.seq (.blk (.seq .leaf (.seq (.seq .leaf (.cond (.treeP false [7] 7 (.quiet 0 (.quiet 1 (.quiet 2 (.quiet 3 (.quiet 4 (.eff 5 (.eff 6 .fin .fin) .fin))))))) .leaf)) .leaf))) .leaf))))) (.seq .leaf .leaf))))
def F86 (m0a : Option Addr) (m0l : Nat) (m0c : Nat) (m1a : Option Addr) (m1l : Nat) (m1c : Nat) (la : Option Addr) (ll : Nat) (lc : Nat) (g : G) (R : Value → G → Prop) : Prop :=
  ∃ Inv : Nat → Option Addr → Nat → Nat → Int → G → Prop, (∀ g1 : G, Ex g g1 →
  (∃ m0 : Nat, Inv m0 none 0 0 (0 : Int) g1)) ∧
  ∀ m : Nat, ∀ outa : Option Addr, ∀ outl : Nat, ∀ outc : Nat, ∀ i : Int, ∀ g2 : G, Le g g2 → Inv m outa outl outc i g2 →
  ifB (ltI i ((ll : Nat) : Int))
  ((0 ≤ i ∧ i < ((ll : Nat) : Int)) ∧ derefP la fun ad => ∃ x0 : Bool, ∃ x1 : Int, g2.w.cell? (Addr.add ad (Int.toNat i * 2)) = some (.bool x0) ∧ g2.w.cell? (Addr.add (Addr.add ad (Int.toNat i * 2)) 1) = some (.int .i64 x1) ∧ ifB x0
  (∀ g3 : G, Ex g2 g3 →
  ∀ g4 : G, Ex g3 g4 →
  (CallsP Try.prog 93 #[(.slice m0a m0l m0c), (.int .i64 x1)] g4 fun v g5 =>
  ∃ x : Int, v = (.int .i64 x) ∧ (0 ≤ x ∧ x < ((m1l : Nat) : Int)) ∧ derefP m1a fun ad_1 => ∃ x_1 : Int, g5.w.cell? (Addr.add ad_1 (Int.toNat x * 1)) = some (.int .i64 x_1) ∧ ∀ g6 : G, Ex g5 g6 →
  ∀ g7 : G, NewL g6 g7 41 [(.bool x0), (.int .i64 x_1)] →
  ∃ outa_1 : Option Addr, ∃ outl_1 : Nat, ∃ outc_1 : Nat, ∃ wo1 : World, Sem.run Try.prog (Builtin.append_ #[22, 22] 22 #[(.slice outa outl outc), (.slice (some ⟨g6.w.heap.size, 0, none⟩) 1 1)]) g7.w = .ok (.slice outa_1 outl_1 outc_1) wo1 ∧ ∃ g8 : G, g8.w = wo1 ∧ Stp g.w.heap.size nobody g7 g8 ∧ InI64 (i + (1 : Int)) ∧ (∃ m_1 : Nat, m_1 < m ∧ Inv m_1 outa_1 outl_1 outc_1 (i + (1 : Int)) g8)))
  (∀ g9 : G, Ex g2 g9 →
  ∀ g10 : G, NewL g9 g10 41 [(.bool x0), (.int .i64 x1)] →
  ∃ outa_2 : Option Addr, ∃ outl_2 : Nat, ∃ outc_2 : Nat, ∃ wo2 : World, Sem.run Try.prog (Builtin.append_ #[22, 22] 22 #[(.slice outa outl outc), (.slice (some ⟨g9.w.heap.size, 0, none⟩) 1 1)]) g10.w = .ok (.slice outa_2 outl_2 outc_2) wo2 ∧ ∃ g11 : G, g11.w = wo2 ∧ Stp g.w.heap.size nobody g10 g11 ∧ InI64 (i + (1 : Int)) ∧ (∃ m_1 : Nat, m_1 < m ∧ Inv m_1 outa_2 outl_2 outc_2 (i + (1 : Int)) g11)))
  (∀ g12 : G, Ex g2 g12 →
  R (.slice outa outl outc) g12)
theorem F86_eq (m0a : Option Addr) (m0l : Nat) (m0c : Nat) (m1a : Option Addr) (m1l : Nat) (m1c : Nat) (la : Option Addr) (ll : Nat) (lc : Nat) (g : G) (R : Value → G → Prop) : fnG cfg86 35 [.tmp 4] c86 an86 [(.agg ⟨[(.slice m0a m0l m0c), (.slice m1a m1l m1c)]⟩), (.slice la ll lc)] g nobody R = F86 m0a m0l m0c m1a m1l m1c la ll lc g R := by kernel_rfl
theorem call86 (m0a : Option Addr) (m0l : Nat) (m0c : Nat) (m1a : Option Addr) (m1l : Nat) (m1c : Nat) (la : Option Addr) (ll : Nat) (lc : Nat) (g : G) (R : Value → G → Prop) (hF : F86 m0a m0l m0c m1a m1l m1c la ll lc g R) : CallsG Try.prog 86 #[(.agg ⟨[(.slice m0a m0l m0c), (.slice m1a m1l m1c)]⟩), (.slice la ll lc)] g nobody R :=
  fn_soundG (c := cfg86) TTok FNSok mixed Try.func86 (show Try.f86.body = some c86 by kernel_rfl) (show Try.f86.ntmps = 35 by kernel_rfl) (show Try.f86.results.toList = [.tmp 4] by kernel_rfl) rfl ((F86_eq m0a m0l m0c m1a m1l m1c la ll lc g R).mpr hF)

/- 89 pilaster/collect.Same$1 -/
noncomputable def c89 : Code := match Try.f89.body with
  | some c => c
  | none => .skip
noncomputable def cfg89 : Cfg := ⟨Try.prog, TT, FNS, [], [], [], TCH, false, false⟩
def an89 : AnnG := (.seq .leaf (.blk (.loop ⟨[(8, .int .i64)], [], []⟩ (.seq .leaf (.seq (.cond .leaf .leaf) (.seq (.blk (.seq .leaf (.tree 11 (.quiet 0 (.quiet 1 (.quiet 2 (.quiet 3 (.quiet 4 (.quiet 5 (.quiet 6 (.quiet 7 (.quiet 8 (.eff 9 (.eff 10 .fin .fin) .fin))))))))))))) .leaf))))))
def F89 (la : Option Addr) (ll : Nat) (lc : Nat) (ma : Option Addr) (ml : Nat) (mc : Nat) (c0 : Option Addr) (g : G) (M : Nat → Prop) (R : Value → G → Prop) : Prop :=
  ∃ Inv : Nat → Int → G → Prop, ((∃ m0 : Nat, Inv m0 (0 : Int) g)) ∧
  ∀ m : Nat, ∀ v_1 : Int, ∀ g1 : G, Le g g1 → Inv m v_1 g1 →
  ifB (ltI v_1 ((ll : Nat) : Int))
  (∀ g2 : G, Ex g1 g2 →
  derefP c0 fun ad => ∃ xa : Option Addr, ∃ xl : Nat, ∃ xc : Nat, g2.w.cell? ad = some (.slice xa xl xc) ∧ (0 ≤ v_1 ∧ v_1 < ((ll : Nat) : Int)) ∧ derefP la fun ad_1 => ∃ x0 : Bool, ∃ x1 : Int, g2.w.cell? (Addr.add ad_1 (Int.toNat v_1 * 2)) = some (.bool x0) ∧ g2.w.cell? (Addr.add (Addr.add ad_1 (Int.toNat v_1 * 2)) 1) = some (.int .i64 x1) ∧ (0 ≤ v_1 ∧ v_1 < ((ml : Nat) : Int)) ∧ derefP ma fun ad_2 => ∃ x0_1 : Bool, ∃ x1_1 : Int, g2.w.cell? (Addr.add ad_2 (Int.toNat v_1 * 2)) = some (.bool x0_1) ∧ g2.w.cell? (Addr.add (Addr.add ad_2 (Int.toNat v_1 * 2)) 1) = some (.int .i64 x1_1) ∧ ∀ g3 : G, NewL g2 g3 124 [(.bool x0), (.int .i64 x1), (.bool x0_1), (.int .i64 x1_1)] →
  ∃ xa_1 : Option Addr, ∃ xl_1 : Nat, ∃ xc_1 : Nat, ∃ wo1 : World, Sem.run Try.prog (Builtin.append_ #[122, 122] 122 #[(.slice xa xl xc), (.slice (some ⟨g2.w.heap.size, 0, none⟩) 1 1)]) g3.w = .ok (.slice xa_1 xl_1 xc_1) wo1 ∧ ∃ g4 : G, g4.w = wo1 ∧ Stp g.w.heap.size M g3 g4 ∧ derefP c0 fun ad_3 => stOk g4.w ad_3 1 ∧ ¬ g4.X (Addr.block ad_3) ∧ mutAt g4 ad_3 1 ∧ ((Addr.block ad_3) < g.w.heap.size → M (Addr.block ad_3)) ∧ ∀ g5 : G, StG false g4 ad_3 [(.slice xa_1 xl_1 xc_1)] g5 →
  InI64 (v_1 + (1 : Int)) ∧ (∃ m_1 : Nat, m_1 < m ∧ Inv m_1 (v_1 + (1 : Int)) g5))
  (∀ g6 : G, Ex g1 g6 →
  R (.tuple ⟨[]⟩) g6)
theorem F89_eq (la : Option Addr) (ll : Nat) (lc : Nat) (ma : Option Addr) (ml : Nat) (mc : Nat) (c0 : Option Addr) (g : G) (M : Nat → Prop) (R : Value → G → Prop) : fnG cfg89 24 [] c89 an89 [(.slice la ll lc), (.slice ma ml mc), (.pointer c0)] g M R = F89 la ll lc ma ml mc c0 g M R := by kernel_rfl
theorem call89 (la : Option Addr) (ll : Nat) (lc : Nat) (ma : Option Addr) (ml : Nat) (mc : Nat) (c0 : Option Addr) (g : G) (M : Nat → Prop) (R : Value → G → Prop) (hF : F89 la ll lc ma ml mc c0 g M R) : CallsG Try.prog 89 #[(.slice la ll lc), (.slice ma ml mc), (.pointer c0)] g M R :=
  fn_soundG (c := cfg89) TTok FNSok mixed Try.func89 (show Try.f89.body = some c89 by kernel_rfl) (show Try.f89.ntmps = 24 by kernel_rfl) (show Try.f89.results.toList = [] by kernel_rfl) rfl ((F89_eq la ll lc ma ml mc c0 g M R).mpr hF)

/- 90 pilaster/collect.length -/
noncomputable def c90 : Code := match Try.f90.body with
  | some c => c
  | none => .skip
noncomputable def cfg90 : Cfg := ⟨Try.prog, TT, FNS, [2], [(2, 2), (5, 2)], [], TCH, false, false⟩
def an90 : AnnG := (.seq .leaf (.seq .leaf .leaf))
def F90 (h0a : Option Addr) (h0l : Nat) (h0c : Nat) (h1 : Int) (h2 : Int) (at0 : Int) (g : G) (R : Value → G → Prop) : Prop :=
  InI64 (at0 + (2 : Int)) ∧ (0 ≤ (at0 + (2 : Int)) ∧ (at0 + (2 : Int)) < ((h0l : Nat) : Int)) ∧ derefP h0a fun ad => ∀ g1 : G, Ex g g1 →
  ∃ x : Int, g1.w.cell? (Addr.add (Addr.add ad (Int.toNat (at0 + (2 : Int)) * 2)) 1) = some (.int .i64 x) ∧ InI64 ((3 : Int) + x) ∧ ∀ g2 : G, Ex g1 g2 →
  R (.int .i64 ((3 : Int) + x)) g2
theorem F90_eq (h0a : Option Addr) (h0l : Nat) (h0c : Nat) (h1 : Int) (h2 : Int) (at0 : Int) (g : G) (R : Value → G → Prop) : fnG cfg90 13 [.tmp 4] c90 an90 [(.agg ⟨[(.slice h0a h0l h0c), (.int .i64 h1), (.int .i64 h2)]⟩), (.int .i64 at0)] g nobody R = F90 h0a h0l h0c h1 h2 at0 g R := by kernel_rfl
theorem call90 (h0a : Option Addr) (h0l : Nat) (h0c : Nat) (h1 : Int) (h2 : Int) (at0 : Int) (g : G) (R : Value → G → Prop) (hF : F90 h0a h0l h0c h1 h2 at0 g R) : CallsG Try.prog 90 #[(.agg ⟨[(.slice h0a h0l h0c), (.int .i64 h1), (.int .i64 h2)]⟩), (.int .i64 at0)] g nobody R :=
  fn_soundG (c := cfg90) TTok FNSok mixed Try.func90 (show Try.f90.body = some c90 by kernel_rfl) (show Try.f90.ntmps = 13 by kernel_rfl) (show Try.f90.results.toList = [.tmp 4] by kernel_rfl) rfl ((F90_eq h0a h0l h0c h1 h2 at0 g R).mpr hF)

/- 93 pilaster/pilasterref50.place -/
noncomputable def c93 : Code := match Try.f93.body with
  | some c => c
  | none => .skip
noncomputable def cfg93 : Cfg := ⟨Try.prog, TT, FNS, [], [], [], TCH, false, false⟩
def an93 : AnnG := (.seq .leaf (.seq (.seq .leaf (.blk (.loop ⟨[(5, .int .i64)], [], []⟩ (.seq (.seq .leaf (.cond .leaf .leaf)) (.seq (.blk (.seq .leaf (.cond (.seq .leaf .leaf) .leaf))) .leaf))))) (.seq .leaf .leaf)))
def F93 (la : Option Addr) (ll : Nat) (lc : Nat) (n : Int) (g : G) (R : Value → G → Prop) : Prop :=
  ∃ Inv : Nat → Int → G → Prop, ((∃ m0 : Nat, Inv m0 (0 : Int) g)) ∧
  ∀ m : Nat, ∀ i : Int, ∀ g1 : G, Le g g1 → Inv m i g1 →
  ifB (ltI i ((ll : Nat) : Int))
  ((0 ≤ i ∧ i < ((ll : Nat) : Int)) ∧ derefP la fun ad => ∃ x : Int, g1.w.cell? (Addr.add ad (Int.toNat i * 1)) = some (.int .i64 x) ∧ ifB (eqI x n)
  (∀ g2 : G, Ex g1 g2 →
  R (.int .i64 i) g2)
  (InI64 (i + (1 : Int)) ∧ (∃ m_1 : Nat, m_1 < m ∧ Inv m_1 (i + (1 : Int)) g1)))
  (∀ g3 : G, Ex g1 g3 →
  R (.int .i64 (-1 : Int)) g3)
theorem F93_eq (la : Option Addr) (ll : Nat) (lc : Nat) (n : Int) (g : G) (R : Value → G → Prop) : fnG cfg93 19 [.tmp 4] c93 an93 [(.slice la ll lc), (.int .i64 n)] g nobody R = F93 la ll lc n g R := by kernel_rfl
theorem call93 (la : Option Addr) (ll : Nat) (lc : Nat) (n : Int) (g : G) (R : Value → G → Prop) (hF : F93 la ll lc n g R) : CallsG Try.prog 93 #[(.slice la ll lc), (.int .i64 n)] g nobody R :=
  fn_soundG (c := cfg93) TTok FNSok mixed Try.func93 (show Try.f93.body = some c93 by kernel_rfl) (show Try.f93.ntmps = 19 by kernel_rfl) (show Try.f93.results.toList = [.tmp 4] by kernel_rfl) rfl ((F93_eq la ll lc n g R).mpr hF)

/- 105 pilaster/collect.check$1 -/
noncomputable def c105 : Code := match Try.f105.body with
  | some c => c
  | none => .skip
noncomputable def cfg105 : Cfg := ⟨Try.prog, TT, FNS, [2], [(2, 2), (4, 2), (7, 2), (11, 2), (15, 2)], [], TCH, false, false⟩
def an105 : AnnG := (.seq .leaf (.seq (.seq .leaf (.cond (.seq .leaf .leaf) .leaf)) (.seq .leaf .leaf)))
def F105 (w0 : Bool) (w1 : Int) (c0 : Option Addr) (g : G) (R : Value → G → Prop) : Prop :=
  ifB w0
  (∀ g1 : G, Ex g g1 →
  derefP c0 fun ad => ∃ x : Option Nat, g1.w.cell? ad = some (.map x) ∧ ∃ x_1 : Bool, ∃ wo1 : World, Sem.run Try.prog (Instr.lookup 109 (.map x) (.int .i64 w1) false) g1.w = .ok (.bool x_1) wo1 ∧ ∃ g2 : G, g2.w = wo1 ∧ Stp g.w.heap.size nobody g1 g2 ∧ ∀ g3 : G, Ex g2 g3 →
  R (.bool (!x_1)) g3)
  (ifB (ltI w1 (-4503599627370496 : Int))
  (∀ g4 : G, Ex g g4 →
  R (.bool true) g4)
  (∀ g5 : G, Ex g g5 →
  R (.bool (ltI (4503599627370496 : Int) w1)) g5))
theorem F105_eq (w0 : Bool) (w1 : Int) (c0 : Option Addr) (g : G) (R : Value → G → Prop) : fnG cfg105 19 [.tmp 3] c105 an105 [(.agg ⟨[(.bool w0), (.int .i64 w1)]⟩), (.pointer c0)] g nobody R = F105 w0 w1 c0 g R := by kernel_rfl
theorem call105 (w0 : Bool) (w1 : Int) (c0 : Option Addr) (g : G) (R : Value → G → Prop) (hF : F105 w0 w1 c0 g R) : CallsG Try.prog 105 #[(.agg ⟨[(.bool w0), (.int .i64 w1)]⟩), (.pointer c0)] g nobody R :=
  fn_soundG (c := cfg105) TTok FNSok mixed Try.func105 (show Try.f105.body = some c105 by kernel_rfl) (show Try.f105.ntmps = 19 by kernel_rfl) (show Try.f105.results.toList = [.tmp 3] by kernel_rfl) rfl ((F105_eq w0 w1 c0 g R).mpr hF)

/- 106 (*pilaster/collect.collector).forward -/
noncomputable def c106 : Code := match Try.f106.body with
  | some c => c
  | none => .skip
noncomputable def cfg106 : Cfg := ⟨Try.prog, TT, FNS, [3, 4], [(3, 3), (4, 4), (7, 3), (16, 3), (33, 3), (47, 3), (49, 3), (55, 3)], [], TCH, false, false⟩
def an106 : AnnG := (.seq .leaf (.seq (.seq .leaf (.cond (.seq .leaf .leaf) .leaf)) (.seq (.treeB 11 (.quiet 0 (.quiet 1 (.quiet 2 (.quiet 3 (.quiet 4 (.quiet 5 (.eff 6 (.quiet 7 (.quiet 8 (.quiet 9 (.quiet 10 .fin)))) .fin)))))))) (.seq (.seq .leaf (.cond (.seq .leaf (.seq (.treeB 7 (.quiet 0 (.quiet 1 (.quiet 2 (.quiet 3 (.quiet 4 (.quiet 5 (.quiet 6 .fin)))))))) (.treeB 25 (.quiet 0 (.quiet 1 (.quiet 2 (.quiet 3 (.quiet 4 (.quiet 5 (.quiet 6 (.quiet 7 (.quiet 8 (.quiet 9 (.quiet 10 (.quiet 11 (.quiet 12 (.quiet 13 (.quiet 14 (.quiet 15 (.quiet 16 (.quiet 17 (.quiet 18 (.quiet 19 (.quiet 20 (.eff 21 (.quiet 22 (.quiet 23 (.eff 24 .fin .fin))) .fin))))))))))))))))))))))))) .leaf)) (.seq .leaf .leaf)))))
def F106 (c : Option Addr) (w0 : Bool) (w1 : Int) (g : G) (M : Nat → Prop) (R : Value → G → Prop) : Prop :=
  ifB (!w0)
  (∀ g1 : G, Ex g g1 →
  R (.agg ⟨[(.bool w0), (.int .i64 w1)]⟩) g1)
  (∀ g2 : G, Ex g g2 →
  ∃ MR1 : Nat → Prop, (∀ b, MR1 b → ¬ g2.X b) ∧ derefP c fun ad => ¬ MR1 (Addr.block (Addr.add ad 6)) ∧ ∃ x : Option Nat, g2.w.cell? (Addr.add ad 6) = some (.map x) ∧ ∃ x0 : Int, ∃ x1 : Bool, ∃ wo1 : World, Sem.run Try.prog (Instr.lookup 115 (.map x) (.int .i64 w1) true) g2.w = .ok (.tuple ⟨[(.int .i64 x0), (.bool x1)]⟩) wo1 ∧ ∃ g3 : G, g3.w = wo1 ∧ Stp g.w.heap.size M g2 g3 ∧ SameBut MR1 g2 g3 ∧ ifB (!x1)
  (derefP c fun ad_1 => ∃ xa : Option Addr, ∃ xl : Nat, ∃ xc : Nat, g3.w.cell? (Addr.add ad_1 3) = some (.slice xa xl xc) ∧ ∀ g4 : G, Ex g3 g4 →
  ∃ MR2 : Nat → Prop, (∀ b, MR2 b → ¬ g4.X b) ∧ derefP c fun ad_2 => ¬ MR2 (Addr.block (Addr.add ad_2 6)) ∧ ∃ x_1 : Option Nat, g4.w.cell? (Addr.add ad_2 6) = some (.map x_1) ∧ ∃ wo2 : World, Sem.run Try.prog (Instr.mapUpdate 115 (.map x_1) (.int .i64 w1) (.int .i64 ((xl : Nat) : Int))) g4.w = .ok () wo2 ∧ ∃ g5 : G, g5.w = wo2 ∧ Stp g.w.heap.size M g4 g5 ∧ ∀ g6 : G, Ex g5 g6 →
  ∃ MR3 : Nat → Prop, (∀ b, MR3 b → ¬ g6.X b) ∧ derefP c fun ad_3 => ¬ MR3 (Addr.block (Addr.add ad_3 3)) ∧ ∃ xa_1 : Option Addr, ∃ xl_1 : Nat, ∃ xc_1 : Nat, g6.w.cell? (Addr.add ad_3 3) = some (.slice xa_1 xl_1 xc_1) ∧ derefP c fun ad_4 => ¬ MR3 (Addr.block ad_4) ∧ ∃ xa_2 : Option Addr, ∃ xl_2 : Nat, ∃ xc_2 : Nat, g6.w.cell? ad_4 = some (.slice xa_2 xl_2 xc_2) ∧ derefP c fun ad_5 => ¬ MR3 (Addr.block ad_5) ∧ ∃ x0a : Option Addr, ∃ x0l : Nat, ∃ x0c : Nat, ∃ x1_1 : Int, ∃ x2 : Int, g6.w.cell? ad_5 = some (.slice x0a x0l x0c) ∧ g6.w.cell? (Addr.add ad_5 1) = some (.int .i64 x1_1) ∧ g6.w.cell? (Addr.add ad_5 2) = some (.int .i64 x2) ∧ (CallsP Try.prog 90 #[(.agg ⟨[(.slice x0a x0l x0c), (.int .i64 x1_1), (.int .i64 x2)]⟩), (.int .i64 w1)] g6 fun v g7 =>
  ∃ x_2 : Int, v = (.int .i64 x_2) ∧ InI64 (w1 + x_2) ∧ (0 ≤ (w1 + x_2) ∧ (w1 + x_2) ≤ ((xc_2 : Nat) : Int)) ∧ (0 ≤ w1 ∧ w1 ≤ (((Int.toNat (w1 + x_2)) : Nat) : Int)) ∧ ∃ xa_3 : Option Addr, ∃ xl_3 : Nat, ∃ xc_3 : Nat, ∃ wo3 : World, Sem.run Try.prog (Builtin.append_ #[22, 22] 22 #[(.slice xa_1 xl_1 xc_1), (.slice (slAddr xa_2 xc_2 (Int.toNat w1) 2) ((Int.toNat (w1 + x_2)) - (Int.toNat w1)) (xc_2 - (Int.toNat w1)))]) g7.w = .ok (.slice xa_3 xl_3 xc_3) wo3 ∧ ∃ g8 : G, g8.w = wo3 ∧ Stp g.w.heap.size M g7 g8 ∧ SameBut MR3 g6 g8 ∧ derefP c fun ad_6 => stOk g8.w (Addr.add ad_6 3) 1 ∧ ¬ g8.X (Addr.block (Addr.add ad_6 3)) ∧ mutAt g8 (Addr.add ad_6 3) 1 ∧ ((Addr.block (Addr.add ad_6 3)) < g.w.heap.size → M (Addr.block (Addr.add ad_6 3))) ∧ ∀ g9 : G, StG false g8 (Addr.add ad_6 3) [(.slice xa_3 xl_3 xc_3)] g9 →
  ∀ g10 : G, Ex g9 g10 →
  R (.agg ⟨[(.bool true), (.int .i64 ((xl : Nat) : Int))]⟩) g10))
  (∀ g11 : G, Ex g3 g11 →
  R (.agg ⟨[(.bool true), (.int .i64 x0)]⟩) g11))
theorem F106_eq (c : Option Addr) (w0 : Bool) (w1 : Int) (g : G) (M : Nat → Prop) (R : Value → G → Prop) : fnG cfg106 66 [.cell 4 41] c106 an106 [(.pointer c), (.agg ⟨[(.bool w0), (.int .i64 w1)]⟩)] g M R = F106 c w0 w1 g M R := by kernel_rfl
theorem call106 (c : Option Addr) (w0 : Bool) (w1 : Int) (g : G) (M : Nat → Prop) (R : Value → G → Prop) (hF : F106 c w0 w1 g M R) : CallsG Try.prog 106 #[(.pointer c), (.agg ⟨[(.bool w0), (.int .i64 w1)]⟩)] g M R :=
  fn_soundG (c := cfg106) TTok FNSok mixed Try.func106 (show Try.f106.body = some c106 by kernel_rfl) (show Try.f106.ntmps = 66 by kernel_rfl) (show Try.f106.results.toList = [.cell 4 41] by kernel_rfl) rfl ((F106_eq c w0 w1 g M R).mpr hF)

/- 107 pilaster/pilasterref50.found -/
noncomputable def c107 : Code := match Try.f107.body with
  | some c => c
  | none => .skip
noncomputable def cfg107 : Cfg := ⟨Try.prog, TT, FNS, [], [], [], TCH, false, false⟩
def an107 : AnnG := (.seq .leaf (.seq (.seq .leaf (.blk (.loop ⟨[(0, .sl), (5, .int .i64)], [], []⟩ (.seq (.seq .leaf (.cond .leaf .leaf)) (.seq (.blk (.join ⟨[(26, .bool)], [], []⟩ .leaf (.cond .leaf .leaf))) .leaf))))) (.seq .leaf .leaf)))
def F107 (la : Option Addr) (ll : Nat) (lc : Nat) (wordsa : Option Addr) (wordsl : Nat) (wordsc : Nat) (g : G) (M : Nat → Prop) (R : Value → G → Prop) : Prop :=
  ∃ Inv : Nat → Option Addr → Nat → Nat → Int → G → Prop, ((∃ m0 : Nat, Inv m0 la ll lc (0 : Int) g)) ∧
  ∀ m : Nat, ∀ la_1 : Option Addr, ∀ ll_1 : Nat, ∀ lc_1 : Nat, ∀ i : Int, ∀ g1 : G, Le g g1 → Inv m la_1 ll_1 lc_1 i g1 →
  ifB (ltI i ((wordsl : Nat) : Int))
  (∀ J : Bool → G → Prop,
  (∀ v_1 : Bool, ∀ g2 : G, (ifB v_1
  ((0 ≤ i ∧ i < ((wordsl : Nat) : Int)) ∧ derefP wordsa fun ad => ∃ x : Int, g2.w.cell? (Addr.add (Addr.add ad (Int.toNat i * 2)) 1) = some (.int .i64 x) ∧ ∀ g3 : G, NewL g2 g3 3 [(.int .i64 x)] →
  ∃ la_2 : Option Addr, ∃ ll_2 : Nat, ∃ lc_2 : Nat, ∃ wo1 : World, Sem.run Try.prog (Builtin.append_ #[55, 55] 55 #[(.slice la_1 ll_1 lc_1), (.slice (some ⟨g2.w.heap.size, 0, none⟩) 1 1)]) g3.w = .ok (.slice la_2 ll_2 lc_2) wo1 ∧ ∃ g4 : G, g4.w = wo1 ∧ Stp g.w.heap.size M g3 g4 ∧ InI64 (i + (1 : Int)) ∧ (∃ m_1 : Nat, m_1 < m ∧ Inv m_1 la_2 ll_2 lc_2 (i + (1 : Int)) g4))
  (InI64 (i + (1 : Int)) ∧ (∃ m_1 : Nat, m_1 < m ∧ Inv m_1 la_1 ll_1 lc_1 (i + (1 : Int)) g2))) → J v_1 g2) →
  (0 ≤ i ∧ i < ((wordsl : Nat) : Int)) ∧ derefP wordsa fun ad_1 => ∃ x_1 : Bool, g1.w.cell? (Addr.add ad_1 (Int.toNat i * 2)) = some (.bool x_1) ∧ ifB x_1
  ((0 ≤ i ∧ i < ((wordsl : Nat) : Int)) ∧ derefP wordsa fun ad_2 => ∃ x_2 : Int, g1.w.cell? (Addr.add (Addr.add ad_2 (Int.toNat i * 2)) 1) = some (.int .i64 x_2) ∧ (CallsP Try.prog 93 #[(.slice la_1 ll_1 lc_1), (.int .i64 x_2)] g1 fun v g5 =>
  ∃ x_3 : Int, v = (.int .i64 x_3) ∧ J (ltI x_3 (0 : Int)) g5))
  (J false g1))
  (∀ g6 : G, Ex g1 g6 →
  R (.slice la_1 ll_1 lc_1) g6)
theorem F107_eq (la : Option Addr) (ll : Nat) (lc : Nat) (wordsa : Option Addr) (wordsl : Nat) (wordsc : Nat) (g : G) (M : Nat → Prop) (R : Value → G → Prop) : fnG cfg107 36 [.tmp 4] c107 an107 [(.slice la ll lc), (.slice wordsa wordsl wordsc)] g M R = F107 la ll lc wordsa wordsl wordsc g M R := by kernel_rfl
theorem call107 (la : Option Addr) (ll : Nat) (lc : Nat) (wordsa : Option Addr) (wordsl : Nat) (wordsc : Nat) (g : G) (M : Nat → Prop) (R : Value → G → Prop) (hF : F107 la ll lc wordsa wordsl wordsc g M R) : CallsG Try.prog 107 #[(.slice la ll lc), (.slice wordsa wordsl wordsc)] g M R :=
  fn_soundG (c := cfg107) TTok FNSok mixed Try.func107 (show Try.f107.body = some c107 by kernel_rfl) (show Try.f107.ntmps = 36 by kernel_rfl) (show Try.f107.results.toList = [.tmp 4] by kernel_rfl) rfl ((F107_eq la ll lc wordsa wordsl wordsc g M R).mpr hF)
end Go.Proofs.Ytcpclpkcanikiaa.P50
