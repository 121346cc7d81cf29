/- Printed by a program (wip/tools/gen2.py): for each function its condition as a plain formula, and that the formula gives the call. -/
import Derived.Test.YtmkdbndniffkfaaDoorProg
import Derived.Test.YtmkdbndniffkfaaDoorVda
namespace Go.Proofs.YtmkdbndniffkfaaDoor
open Go Go.Vc Go.RowKit
set_option maxRecDepth 100000
set_option linter.unusedVariables false
def TT : List TI := [
  ⟨0, .tuple #[], 1, 0, some (.tuple ⟨[]⟩), (.tup [])⟩,
  ⟨3, .int .i64, 1, 8, some (.int .i64 (0 : Int)), (.e (.one (.int .i64)))⟩,
  ⟨4, .bool, 1, 1, some (.bool false), (.e (.one (.bool)))⟩,
  ⟨5, .int .u8, 1, 1, some (.int .u8 (0 : Int)), (.e (.one (.int .u8)))⟩,
  ⟨9, .string, 1, 16, some (.string (bs [])), (.e (.one (.str)))⟩,
  ⟨21, .int .i32, 1, 4, some (.int .i32 (0 : Int)), (.e (.one (.int .i32)))⟩,
  ⟨22, .slice 34, 1, 24, some (.slice none 0 0), (.e (.one (.sl)))⟩,
  ⟨25, .slice 30, 1, 24, some (.slice none 0 0), (.e (.one (.sl)))⟩,
  ⟨26, .int .i64, 1, 8, some (.int .i64 (0 : Int)), (.e (.one (.int .i64)))⟩,
  ⟨27, .tuple #[25, 26], 1, 0, some (.tuple ⟨[(.slice none 0 0), (.int .i64 (0 : Int))]⟩), (.tup [(.one (.sl)), (.one (.int .i64))])⟩,
  ⟨29, .map 9 3, 1, 8, some (.map none), (.e (.one (.map)))⟩,
  ⟨30, .slice 9, 1, 24, some (.slice none 0 0), (.e (.one (.sl)))⟩,
  ⟨32, .slice 44, 1, 24, some (.slice none 0 0), (.e (.one (.sl)))⟩,
  ⟨34, .struct #[{ name := "Name", type := 9, offset := 0, embedded := false, tag := "", pkgPath := "", byteOffset := 0 }, { name := "Imports", type := 30, offset := 1, embedded := false, tag := "", pkgPath := "", byteOffset := 16 }, { name := "Decls", type := 32, offset := 2, embedded := false, tag := "", pkgPath := "", byteOffset := 40 }], 3, 64, some (.agg ⟨[(.string (bs [])), (.slice none 0 0), (.slice none 0 0)]⟩), (.e (.agg [(.str), (.sl), (.sl)]))⟩,
  ⟨35, .tuple #[3, 4], 1, 0, some (.tuple ⟨[(.int .i64 (0 : Int)), (.bool false)]⟩), (.tup [(.one (.int .i64)), (.one (.bool))])⟩,
  ⟨36, .tuple #[30, 26], 1, 0, some (.tuple ⟨[(.slice none 0 0), (.int .i64 (0 : Int))]⟩), (.tup [(.one (.sl)), (.one (.int .i64))])⟩,
  ⟨40, .func #[9] #[4] false, 1, 8, some .nilFunc, (.e (.one (.fn)))⟩,
  ⟨44, .struct #[{ name := "Op", type := 3, offset := 0, embedded := false, tag := "", pkgPath := "", byteOffset := 0 }, { name := "N", type := 3, offset := 1, embedded := false, tag := "", pkgPath := "", byteOffset := 8 }, { name := "S", type := 9, offset := 2, embedded := false, tag := "", pkgPath := "", byteOffset := 16 }, { name := "Names", type := 30, offset := 3, embedded := false, tag := "", pkgPath := "", byteOffset := 32 }, { name := "L", type := 32, offset := 4, embedded := false, tag := "", pkgPath := "", byteOffset := 56 }], 5, 80, some (.agg ⟨[(.int .i64 (0 : Int)), (.int .i64 (0 : Int)), (.string (bs [])), (.slice none 0 0), (.slice none 0 0)]⟩), (.e (.agg [(.int .i64), (.int .i64), (.str), (.sl), (.sl)]))⟩,
  ⟨46, .func #[44] #[4] false, 1, 8, some .nilFunc, (.e (.one (.fn)))⟩,
  ⟨47, .pointer 52, 1, 8, some (.pointer none), (.e (.one (.ptr)))⟩,
  ⟨48, .tuple #[47, 26], 1, 0, some (.tuple ⟨[(.pointer none), (.int .i64 (0 : Int))]⟩), (.tup [(.one (.ptr)), (.one (.int .i64))])⟩,
  ⟨50, .map 9 30, 1, 8, some (.map none), (.e (.one (.map)))⟩,
  ⟨52, .struct #[{ name := "order", type := 30, offset := 0, embedded := false, tag := "", pkgPath := "pilaster/recompile", byteOffset := 0 }, { name := "imports", type := 50, offset := 1, embedded := false, tag := "", pkgPath := "pilaster/recompile", byteOffset := 24 }], 2, 32, some (.agg ⟨[(.slice none 0 0), (.map none)]⟩), (.e (.agg [(.sl), (.map)]))⟩,
  ⟨56, .map 9 57, 1, 8, some (.map none), (.e (.one (.map)))⟩,
  ⟨57, .map 9 4, 1, 8, some (.map none), (.e (.one (.map)))⟩,
  ⟨58, .func #[56, 9] #[4] false, 1, 8, some .nilFunc, (.e (.one (.fn)))⟩,
  ⟨68, .func #[34] #[4] false, 1, 8, some .nilFunc, (.e (.one (.fn)))⟩,
  ⟨69, .tuple #[30, 4], 1, 0, some (.tuple ⟨[(.slice none 0 0), (.bool false)]⟩), (.tup [(.one (.sl)), (.one (.bool))])⟩,
  ⟨72, .func #[40] #[] false, 1, 8, some .nilFunc, (.e (.one (.fn)))⟩,
  ⟨82, .int .u32, 1, 4, some (.int .u32 (0 : Int)), (.e (.one (.int .u32)))⟩,
  ⟨91, .pointer 3, 1, 8, some (.pointer none), (.e (.one (.ptr)))⟩,
  ⟨94, .int .i64, 1, 8, some (.int .i64 (0 : Int)), (.e (.one (.int .i64)))⟩,
  ⟨100, .slice 5, 1, 24, some (.slice none 0 0), (.e (.one (.sl)))⟩,
  ⟨102, .func #[44, 3, 4] #[4] false, 1, 8, some .nilFunc, (.e (.one (.fn)))⟩,
  ⟨105, .struct #[{ name := "n", type := 4, offset := 0, embedded := false, tag := "", pkgPath := "pilaster/syntax", byteOffset := 0 }, { name := "s", type := 4, offset := 1, embedded := false, tag := "", pkgPath := "pilaster/syntax", byteOffset := 1 }, { name := "names", type := 4, offset := 2, embedded := false, tag := "", pkgPath := "pilaster/syntax", byteOffset := 2 }], 3, 3, some (.agg ⟨[(.bool false), (.bool false), (.bool false)]⟩), (.e (.agg [(.bool), (.bool), (.bool)]))⟩,
  ⟨112, .tuple #[9, 4], 1, 0, some (.tuple ⟨[(.string (bs [])), (.bool false)]⟩), (.tup [(.one (.str)), (.one (.bool))])⟩,
  ⟨114, .slice 3, 1, 24, some (.slice none 0 0), (.e (.one (.sl)))⟩,
  ⟨118, .array 256 5, 256, 256, some (.agg ⟨[(.int .u8 (0 : Int)), (.int .u8 (0 : Int)), (.int .u8 (0 : Int)), (.int .u8 (0 : Int)), (.int .u8 (0 : Int)), (.int .u8 (0 : Int)), (.int .u8 (0 : Int)), (.int .u8 (0 : Int)), (.int .u8 (0 : Int)), (.int .u8 (0 : Int)), (.int .u8 (0 : Int)), (.int .u8 (0 : Int)), (.int .u8 (0 : Int)), (.int .u8 (0 : Int)), (.int .u8 (0 : Int)), (.int .u8 (0 : Int)), (.int .u8 (0 : Int)), (.int .u8 (0 : Int)), (.int .u8 (0 : Int)), (.int .u8 (0 : Int)), (.int .u8 (0 : Int)), (.int .u8 (0 : Int)), (.int .u8 (0 : Int)), (.int .u8 (0 : Int)), (.int .u8 (0 : Int)), (.int .u8 (0 : Int)), (.int .u8 (0 : Int)), (.int .u8 (0 : Int)), (.int .u8 (0 : Int)), (.int .u8 (0 : Int)), (.int .u8 (0 : Int)), (.int .u8 (0 : Int)), (.int .u8 (0 : Int)), (.int .u8 (0 : Int)), (.int .u8 (0 : Int)), (.int .u8 (0 : Int)), (.int .u8 (0 : Int)), (.int .u8 (0 : Int)), (.int .u8 (0 : Int)), (.int .u8 (0 : Int)), (.int .u8 (0 : Int)), (.int .u8 (0 : Int)), (.int .u8 (0 : Int)), (.int .u8 (0 : Int)), (.int .u8 (0 : Int)), (.int .u8 (0 : Int)), (.int .u8 (0 : Int)), (.int .u8 (0 : Int)), (.int .u8 (0 : Int)), (.int .u8 (0 : Int)), (.int .u8 (0 : Int)), (.int .u8 (0 : Int)), (.int .u8 (0 : Int)), (.int .u8 (0 : Int)), (.int .u8 (0 : Int)), (.int .u8 (0 : Int)), (.int .u8 (0 : Int)), (.int .u8 (0 : Int)), (.int .u8 (0 : Int)), (.int .u8 (0 : Int)), (.int .u8 (0 : Int)), (.int .u8 (0 : Int)), (.int .u8 (0 : Int)), (.int .u8 (0 : Int)), (.int .u8 (0 : Int)), (.int .u8 (0 : Int)), (.int .u8 (0 : Int)), (.int .u8 (0 : Int)), (.int .u8 (0 : Int)), (.int .u8 (0 : Int)), (.int .u8 (0 : Int)), (.int .u8 (0 : Int)), (.int .u8 (0 : Int)), (.int .u8 (0 : Int)), (.int .u8 (0 : Int)), (.int .u8 (0 : Int)), (.int .u8 (0 : Int)), (.int .u8 (0 : Int)), (.int .u8 (0 : Int)), (.int .u8 (0 : Int)), (.int .u8 (0 : Int)), (.int .u8 (0 : Int)), (.int .u8 (0 : Int)), (.int .u8 (0 : Int)), (.int .u8 (0 : Int)), (.int .u8 (0 : Int)), (.int .u8 (0 : Int)), (.int .u8 (0 : Int)), (.int .u8 (0 : Int)), (.int .u8 (0 : Int)), (.int .u8 (0 : Int)), (.int .u8 (0 : Int)), (.int .u8 (0 : Int)), (.int .u8 (0 : Int)), (.int .u8 (0 : Int)), (.int .u8 (0 : Int)), (.int .u8 (0 : Int)), (.int .u8 (0 : Int)), (.int .u8 (0 : Int)), (.int .u8 (0 : Int)), (.int .u8 (0 : Int)), (.int .u8 (0 : Int)), (.int .u8 (0 : Int)), (.int .u8 (0 : Int)), (.int .u8 (0 : Int)), (.int .u8 (0 : Int)), (.int .u8 (0 : Int)), (.int .u8 (0 : Int)), (.int .u8 (0 : Int)), (.int .u8 (0 : Int)), (.int .u8 (0 : Int)), (.int .u8 (0 : Int)), (.int .u8 (0 : Int)), (.int .u8 (0 : Int)), (.int .u8 (0 : Int)), (.int .u8 (0 : Int)), (.int .u8 (0 : Int)), (.int .u8 (0 : Int)), (.int .u8 (0 : Int)), (.int .u8 (0 : Int)), (.int .u8 (0 : Int)), (.int .u8 (0 : Int)), (.int .u8 (0 : Int)), (.int .u8 (0 : Int)), (.int .u8 (0 : Int)), (.int .u8 (0 : Int)), (.int .u8 (0 : Int)), (.int .u8 (0 : Int)), (.int .u8 (0 : Int)), (.int .u8 (0 : Int)), (.int .u8 (0 : Int)), (.int .u8 (0 : Int)), (.int .u8 (0 : Int)), (.int .u8 (0 : Int)), (.int .u8 (0 : Int)), (.int .u8 (0 : Int)), (.int .u8 (0 : Int)), (.int .u8 (0 : Int)), (.int .u8 (0 : Int)), (.int .u8 (0 : Int)), (.int .u8 (0 : Int)), (.int .u8 (0 : Int)), (.int .u8 (0 : Int)), (.int .u8 (0 : Int)), (.int .u8 (0 : Int)), (.int .u8 (0 : Int)), (.int .u8 (0 : Int)), (.int .u8 (0 : Int)), (.int .u8 (0 : Int)), (.int .u8 (0 : Int)), (.int .u8 (0 : Int)), (.int .u8 (0 : Int)), (.int .u8 (0 : Int)), (.int .u8 (0 : Int)), (.int .u8 (0 : Int)), (.int .u8 (0 : Int)), (.int .u8 (0 : Int)), (.int .u8 (0 : Int)), (.int .u8 (0 : Int)), (.int .u8 (0 : Int)), (.int .u8 (0 : Int)), (.int .u8 (0 : Int)), (.int .u8 (0 : Int)), (.int .u8 (0 : Int)), (.int .u8 (0 : Int)), (.int .u8 (0 : Int)), (.int .u8 (0 : Int)), (.int .u8 (0 : Int)), (.int .u8 (0 : Int)), (.int .u8 (0 : Int)), (.int .u8 (0 : Int)), (.int .u8 (0 : Int)), (.int .u8 (0 : Int)), (.int .u8 (0 : Int)), (.int .u8 (0 : Int)), (.int .u8 (0 : Int)), (.int .u8 (0 : Int)), (.int .u8 (0 : Int)), (.int .u8 (0 : Int)), (.int .u8 (0 : Int)), (.int .u8 (0 : Int)), (.int .u8 (0 : Int)), (.int .u8 (0 : Int)), (.int .u8 (0 : Int)), (.int .u8 (0 : Int)), (.int .u8 (0 : Int)), (.int .u8 (0 : Int)), (.int .u8 (0 : Int)), (.int .u8 (0 : Int)), (.int .u8 (0 : Int)), (.int .u8 (0 : Int)), (.int .u8 (0 : Int)), (.int .u8 (0 : Int)), (.int .u8 (0 : Int)), (.int .u8 (0 : Int)), (.int .u8 (0 : Int)), (.int .u8 (0 : Int)), (.int .u8 (0 : Int)), (.int .u8 (0 : Int)), (.int .u8 (0 : Int)), (.int .u8 (0 : Int)), (.int .u8 (0 : Int)), (.int .u8 (0 : Int)), (.int .u8 (0 : Int)), (.int .u8 (0 : Int)), (.int .u8 (0 : Int)), (.int .u8 (0 : Int)), (.int .u8 (0 : Int)), (.int .u8 (0 : Int)), (.int .u8 (0 : Int)), (.int .u8 (0 : Int)), (.int .u8 (0 : Int)), (.int .u8 (0 : Int)), (.int .u8 (0 : Int)), (.int .u8 (0 : Int)), (.int .u8 (0 : Int)), (.int .u8 (0 : Int)), (.int .u8 (0 : Int)), (.int .u8 (0 : Int)), (.int .u8 (0 : Int)), (.int .u8 (0 : Int)), (.int .u8 (0 : Int)), (.int .u8 (0 : Int)), (.int .u8 (0 : Int)), (.int .u8 (0 : Int)), (.int .u8 (0 : Int)), (.int .u8 (0 : Int)), (.int .u8 (0 : Int)), (.int .u8 (0 : Int)), (.int .u8 (0 : Int)), (.int .u8 (0 : Int)), (.int .u8 (0 : Int)), (.int .u8 (0 : Int)), (.int .u8 (0 : Int)), (.int .u8 (0 : Int)), (.int .u8 (0 : Int)), (.int .u8 (0 : Int)), (.int .u8 (0 : Int)), (.int .u8 (0 : Int)), (.int .u8 (0 : Int)), (.int .u8 (0 : Int)), (.int .u8 (0 : Int)), (.int .u8 (0 : Int)), (.int .u8 (0 : Int)), (.int .u8 (0 : Int)), (.int .u8 (0 : Int)), (.int .u8 (0 : Int)), (.int .u8 (0 : Int)), (.int .u8 (0 : Int)), (.int .u8 (0 : Int)), (.int .u8 (0 : Int)), (.int .u8 (0 : Int)), (.int .u8 (0 : Int)), (.int .u8 (0 : Int)), (.int .u8 (0 : Int)), (.int .u8 (0 : Int))]⟩), (.e (.arr 256))⟩,
  ⟨120, .func #[21] #[4] false, 1, 8, some .nilFunc, (.e (.one (.fn)))⟩,
  ⟨121, .slice 123, 1, 24, some (.slice none 0 0), (.e (.one (.sl)))⟩,
  ⟨123, .struct #[{ name := "start", type := 3, offset := 0, embedded := false, tag := "", pkgPath := "strings", byteOffset := 0 }, { name := "end", type := 3, offset := 1, embedded := false, tag := "", pkgPath := "strings", byteOffset := 8 }], 2, 16, some (.agg ⟨[(.int .i64 (0 : Int)), (.int .i64 (0 : Int))]⟩), (.e (.agg [(.int .i64), (.int .i64)]))⟩,
  ⟨125, .pointer 129, 1, 8, some (.pointer none), (.e (.one (.ptr)))⟩]
theorem TTok : TOk Tryd.prog TT := tok_of (by kernel_rfl)
def FNS : List Nat := [4, 5, 6, 7, 8, 9, 10, 11, 13, 14, 15, 17, 18, 19, 20, 21, 24, 25, 27, 28, 32, 33, 35, 36, 37, 51, 52, 53, 54, 61, 62, 63, 64, 66, 67, 69, 70, 72, 73, 74, 75, 76, 78, 79, 80, 81, 82, 83, 85, 88, 90, 91, 92, 93, 94, 96]
theorem FNSok : FOk Tryd.prog FNS := fok_of (by kernel_rfl)
theorem mixed : Tryd.prog.follows .mixedOrders = true := by kernel_rfl
def TCH : List Nat := [15, 19, 27, 68, 71]
def PNF : List Nat := []

/- 3 pilaster/pilasterlaw41.RecompileLevels -/
noncomputable def c3 : Code := match Tryd.f3.body with
  | some c => c
  | none => .skip
noncomputable def cfg3 : Cfg := ⟨Tryd.prog, TT, FNS, [12, 21], [(12, 12), (21, 21), (92, 12), (99, 12), (118, 12), (133, 21), (140, 21), (153, 12), (157, 21), (163, 21)], [18], TCH, false, false, none, PNF, false⟩
def an3 : AnnG := (.seq .leaf (.join ⟨[], [], []⟩ (.seq .leaf (.cond (.seq .leaf .leaf) .leaf)) (.seq .leaf (.seq (.seq .leaf (.cond (.seq .leaf .leaf) .leaf)) (.seq .leaf (.seq .leaf (.seq (.seq .leaf (.blk (.loop ⟨[(6, .int .i64), (47, .int .i64)], [], []⟩ (.seq .leaf (.seq (.cond .leaf .leaf) (.seq (.blk (.seq .leaf (.join ⟨[], [], []⟩ (.seq .leaf (.cond (.seq .leaf .leaf) .leaf)) (.seq .leaf (.blk (.loop ⟨[(6, .int .i64), (62, .int .i64)], [], []⟩ (.seq .leaf (.seq (.cond .leaf .leaf) (.seq (.blk (.seq .leaf (.seq .leaf .leaf))) .leaf))))))))) .leaf)))))) (.join ⟨[], [], []⟩ (.seq .leaf (.cond (.seq .leaf .leaf) .leaf)) (.seq (.seq .leaf (.blk (.loop ⟨[(86, .int .i64)], [], []⟩ (.seq .leaf (.seq (.cond .leaf .leaf) (.seq (.blk (.seq .leaf (.seq .leaf (.seq (.seq .leaf (.cond (.seq .leaf .leaf) .leaf)) (.seq .leaf (.seq (.seq .leaf (.blk (.loop ⟨[(15, .int .i64), (102, .int .i64)], [], []⟩ (.seq .leaf (.seq (.cond .leaf .leaf) (.seq (.blk (.seq .leaf .leaf)) .leaf)))))) (.seq (.seq .leaf (.cond (.seq .leaf .leaf) .leaf)) (.seq .leaf (.seq (.seq .leaf (.cond (.seq .leaf .leaf) .leaf)) (.seq .leaf (.blk (.loop ⟨[(127, .int .i64)], [], []⟩ (.seq .leaf (.seq (.cond .leaf .leaf) (.seq (.blk (.seq .leaf (.seq .leaf (.seq .leaf (.join ⟨[], [], []⟩ (.seq (.tree 14 (.quiet 0 (.quiet 1 (.quiet 2 (.quiet 3 (.quiet 4 (.quiet 5 (.quiet 6 (.quiet 7 (.quiet 8 (.quiet 9 (.quiet 11 (.quiet 12 (.quiet 13 (.eff 10 .fin .fin))))))))))))))) (.cond (.seq .leaf .leaf) .leaf)) (.seq .leaf (.cond (.seq .leaf .leaf) .leaf))))))) .leaf))))))))))))))) .leaf)))))) (.seq .leaf .leaf))))))))))
def F3 (la : Option Addr) (ll : Nat) (lc : Nat) (g : G) (R : Value → G → Prop) : Prop :=
  ∀ J : G → Prop,
  (∀ g1 : G, ((CallsP Tryd.prog 6 #[(.slice la ll lc)] g1 fun v g2 =>
  ∃ x0a : Option Addr, ∃ x0l : Nat, ∃ x0c : Nat, ∃ x1 : Int, v = (.tuple ⟨[(.slice x0a x0l x0c), (.int .i64 x1)]⟩) ∧ ifB (!eqI x1 (0 : Int))
  (∀ g3 : G, Ex g2 g3 →
  R (.bool (eqI ((x0l : Nat) : Int) (0 : Int))) g3)
  (∀ g4 : G, NewM g2 g4 →
  ∃ Inv : Nat → Int → Int → G → Prop, ((∃ m0 : Nat, Inv m0 (0 : Int) (0 : Int) g4)) ∧
  ∀ m : Nat, ∀ n : Int, ∀ v_1 : Int, ∀ g5 : G, Le g4 g5 → Inv m n v_1 g5 →
  ifB (ltI v_1 ((x0l : Nat) : Int))
  ((0 ≤ v_1 ∧ v_1 < ((x0l : Nat) : Int)) ∧ derefP x0a fun ad => ∃ rowa : Option Addr, ∃ rowl : Nat, ∃ rowc : Nat, g5.w.cell? (Addr.add ad (Int.toNat v_1 * 1)) = some (.slice rowa rowl rowc) ∧ ∀ J_1 : G → Prop,
  (∀ g6 : G, (∃ Inv_1 : Nat → Int → Int → G → Prop, ((∃ m0 : Nat, Inv_1 m0 n (0 : Int) g6)) ∧
  ∀ m_2 : Nat, ∀ n_1 : Int, ∀ v_2 : Int, ∀ g7 : G, Le g6 g7 → Inv_1 m_2 n_1 v_2 g7 →
  ifB (ltI v_2 ((rowl : Nat) : Int))
  ((0 ≤ v_2 ∧ v_2 < ((rowl : Nat) : Int)) ∧ derefP rowa fun ad_1 => ∃ s : ByteArray, g7.w.cell? (Addr.add ad_1 (Int.toNat v_2 * 1)) = some (.string s) ∧ ∃ wo1 : World, Sem.run Tryd.prog (Instr.mapUpdate 29 (.map (some g2.w.heap.size)) (.string s) (.int .i64 v_1)) g7.w = .ok () wo1 ∧ ∃ g8 : G, g8.w = wo1 ∧ Stp g.w.heap.size nobody g7 g8 ∧ InI64 (n_1 + (1 : Int)) ∧ InI64 (v_2 + (1 : Int)) ∧ (∃ m_3 : Nat, m_3 < m_2 ∧ Inv_1 m_3 (n_1 + (1 : Int)) (v_2 + (1 : Int)) g8))
  (InI64 (v_1 + (1 : Int)) ∧ (∃ m_1 : Nat, m_1 < m ∧ Inv m_1 n_1 (v_1 + (1 : Int)) g7))) → J_1 g6) →
  ifB (eqI ((rowl : Nat) : Int) (0 : Int))
  (∀ g9 : G, Ex g5 g9 →
  R (.bool false) g9)
  ((CallsP Tryd.prog 7 #[(.slice rowa rowl rowc)] g5 fun v g10 =>
  ∃ x : Bool, v = (.bool x) ∧ ifB (!x)
  (∀ g11 : G, Ex g10 g11 →
  R (.bool false) g11)
  (J_1 g10))))
  (∀ J_2 : G → Prop,
  (∀ g12 : G, (∃ Inv_2 : Nat → Int → G → Prop, ((∃ m0 : Nat, Inv_2 m0 (0 : Int) g12)) ∧
  ∀ m_4 : Nat, ∀ v_3 : Int, ∀ g13 : G, Le g12 g13 → Inv_2 m_4 v_3 g13 →
  ifB (ltI v_3 ((ll : Nat) : Int))
  ((0 ≤ v_3 ∧ v_3 < ((ll : Nat) : Int)) ∧ derefP la fun ad_2 => ∃ x0 : ByteArray, ∃ x1a : Option Addr, ∃ x1l : Nat, ∃ x1c : Nat, ∃ x2a : Option Addr, ∃ x2l : Nat, ∃ x2c : Nat, g13.w.cell? (Addr.add ad_2 (Int.toNat v_3 * 3)) = some (.string x0) ∧ g13.w.cell? (Addr.add (Addr.add ad_2 (Int.toNat v_3 * 3)) 1) = some (.slice x1a x1l x1c) ∧ g13.w.cell? (Addr.add (Addr.add ad_2 (Int.toNat v_3 * 3)) 2) = some (.slice x2a x2l x2c) ∧ ∀ g14 : G, Ex g13 g14 →
  ∃ x0_1 : Int, ∃ x1_1 : Bool, ∃ wo2 : World, Sem.run Tryd.prog (Instr.lookup 29 (.map (some g2.w.heap.size)) (.string x0) true) g14.w = .ok (.tuple ⟨[(.int .i64 x0_1), (.bool x1_1)]⟩) wo2 ∧ ∃ g15 : G, g15.w = wo2 ∧ Stp g.w.heap.size nobody g14 g15 ∧ ifB (!x1_1)
  (∀ g16 : G, Ex g15 g16 →
  R (.bool false) g16)
  (∃ Inv_3 : Nat → Int → Int → G → Prop, ((∃ m0 : Nat, Inv_3 m0 (-1 : Int) (0 : Int) g15)) ∧
  ∀ m_6 : Nat, ∀ top : Int, ∀ v_4 : Int, ∀ g17 : G, Le g15 g17 → Inv_3 m_6 top v_4 g17 →
  ifB (ltI v_4 ((x1l : Nat) : Int))
  ((0 ≤ v_4 ∧ v_4 < ((x1l : Nat) : Int)) ∧ derefP x1a fun ad_3 => ∃ s_1 : ByteArray, g17.w.cell? (Addr.add ad_3 (Int.toNat v_4 * 1)) = some (.string s_1) ∧ ∃ x_1 : Int, ∃ wo3 : World, Sem.run Tryd.prog (Instr.lookup 29 (.map (some g2.w.heap.size)) (.string s_1) false) g17.w = .ok (.int .i64 x_1) wo3 ∧ ∃ g18 : G, g18.w = wo3 ∧ Stp g.w.heap.size nobody g17 g18 ∧ InI64 (v_4 + (1 : Int)) ∧ (∃ m_7 : Nat, m_7 < m_6 ∧ Inv_3 m_7 (maxI top x_1) (v_4 + (1 : Int)) g18))
  (InI64 (top + (1 : Int)) ∧ ifB (!eqI x0_1 (top + (1 : Int)))
  (∀ g19 : G, Ex g17 g19 →
  R (.bool false) g19)
  ((CallsP Tryd.prog 8 #[(.slice la ll lc), (.string x0)] g17 fun v g20 =>
  ∃ x0a_1 : Option Addr, ∃ x0l_1 : Nat, ∃ x0c_1 : Nat, ∃ x1_2 : Int, v = (.tuple ⟨[(.slice x0a_1 x0l_1 x0c_1), (.int .i64 x1_2)]⟩) ∧ ∀ g21 : G, NewD g20 g21 30 [(.slice none 0 0)] →
  stOk g21.w ⟨g20.w.heap.size, 0, none⟩ 1 ∧ ¬ g21.X (Addr.block ⟨g20.w.heap.size, 0, none⟩) ∧ mutAt g21 ⟨g20.w.heap.size, 0, none⟩ 1 ∧ ((Addr.block ⟨g20.w.heap.size, 0, none⟩) < g.w.heap.size → nobody (Addr.block ⟨g20.w.heap.size, 0, none⟩)) ∧ ∀ g22 : G, StG true g21 ⟨g20.w.heap.size, 0, none⟩ [(.slice x0a_1 x0l_1 x0c_1)] g22 →
  ifB (!eqI x1_2 (0 : Int))
  (∀ g23 : G, Ex g22 g23 →
  R (.bool false) g23)
  (∃ Inv_4 : Nat → Int → G → Prop, ((∃ m0 : Nat, Inv_4 m0 (0 : Int) g22)) ∧
  ∀ m_8 : Nat, ∀ v_5 : Int, ∀ g24 : G, Le g22 g24 → Inv_4 m_8 v_5 g24 →
  ifB (ltI v_5 ((ll : Nat) : Int))
  ((0 ≤ v_5 ∧ v_5 < ((ll : Nat) : Int)) ∧ derefP la fun ad_4 => ∃ x0_2 : ByteArray, ∃ x1a_1 : Option Addr, ∃ x1l_1 : Nat, ∃ x1c_1 : Nat, ∃ x2a_1 : Option Addr, ∃ x2l_1 : Nat, ∃ x2c_1 : Nat, g24.w.cell? (Addr.add ad_4 (Int.toNat v_5 * 3)) = some (.string x0_2) ∧ g24.w.cell? (Addr.add (Addr.add ad_4 (Int.toNat v_5 * 3)) 1) = some (.slice x1a_1 x1l_1 x1c_1) ∧ g24.w.cell? (Addr.add (Addr.add ad_4 (Int.toNat v_5 * 3)) 2) = some (.slice x2a_1 x2l_1 x2c_1) ∧ ∀ g25 : G, Ex g24 g25 →
  (CallsP Tryd.prog 9 #[(.slice la ll lc), (.string x0_2)] g25 fun v g26 =>
  ∃ x0a_2 : Option Addr, ∃ x0l_2 : Nat, ∃ x0c_2 : Nat, ∃ x1_3 : Int, v = (.tuple ⟨[(.slice x0a_2 x0l_2 x0c_2), (.int .i64 x1_3)]⟩) ∧ (CallsP Tryd.prog 8 #[(.slice la ll lc), (.string x0_2)] g26 fun v g27 =>
  ∃ x0a_3 : Option Addr, ∃ x0l_3 : Nat, ∃ x0c_3 : Nat, ∃ x1_4 : Int, v = (.tuple ⟨[(.slice x0a_3 x0l_3 x0c_3), (.int .i64 x1_4)]⟩) ∧ ∀ J_3 : G → Prop,
  (∀ g28 : G, (∃ needsa : Option Addr, ∃ needsl : Nat, ∃ needsc : Nat, g28.w.cell? ⟨g20.w.heap.size, 0, none⟩ = some (.slice needsa needsl needsc) ∧ (CallsP Tryd.prog 10 #[(.slice needsa needsl needsc), (.string x0_2)] g28 fun v g29 =>
  ∃ x_2 : Bool, v = (.bool x_2) ∧ ifB x_2
  ((CallsP Tryd.prog 11 #[(.slice x0a_3 x0l_3 x0c_3), (.func (.func 12) #[] ⟨[(.pointer (some ⟨g20.w.heap.size, 0, none⟩))]⟩)] g29 fun v g30 =>
  ∃ x_3 : Bool, v = (.bool x_3) ∧ ifB x_3
  (∀ g31 : G, Ex g30 g31 →
  R (.bool false) g31)
  (InI64 (v_5 + (1 : Int)) ∧ (∃ m_9 : Nat, m_9 < m_8 ∧ Inv_4 m_9 (v_5 + (1 : Int)) g30))))
  (InI64 (v_5 + (1 : Int)) ∧ (∃ m_9 : Nat, m_9 < m_8 ∧ Inv_4 m_9 (v_5 + (1 : Int)) g29)))) → J_3 g28) →
  ∀ g32 : G, Ex g27 g32 →
  ifB (!eqI x1_3 (0 : Int))
  (∀ g33 : G, Ex g32 g33 →
  R (.bool false) g33)
  (ifB (!eqI x1_4 (0 : Int))
  (∀ g34 : G, Ex g32 g34 →
  R (.bool false) g34)
  (∃ needsa_1 : Option Addr, ∃ needsl_1 : Nat, ∃ needsc_1 : Nat, g32.w.cell? ⟨g20.w.heap.size, 0, none⟩ = some (.slice needsa_1 needsl_1 needsc_1) ∧ (CallsP Tryd.prog 10 #[(.slice x0a_2 x0l_2 x0c_2), (.string x0)] g32 fun v g35 =>
  ∃ x_4 : Bool, v = (.bool x_4) ∧ (CallsP Tryd.prog 10 #[(.slice needsa_1 needsl_1 needsc_1), (.string x0_2)] g35 fun v g36 =>
  ∃ x_5 : Bool, v = (.bool x_5) ∧ ifB (!(x_4 == x_5))
  (∀ g37 : G, Ex g36 g37 →
  R (.bool false) g37)
  (J_3 g36))))))))
  (InI64 (v_3 + (1 : Int)) ∧ (∃ m_5 : Nat, m_5 < m_4 ∧ Inv_2 m_5 (v_3 + (1 : Int)) g24))))))))
  (∀ g38 : G, Ex g13 g38 →
  R (.bool true) g38)) → J_2 g12) →
  ifB (!eqI n ((ll : Nat) : Int))
  (∀ g39 : G, Ex g5 g39 →
  R (.bool false) g39)
  (∃ x_6 : Int, ∃ wo4 : World, Sem.run Tryd.prog (Builtin.len_ #[29] 3 #[(.map (some g2.w.heap.size))]) g5.w = .ok (.int .i64 x_6) wo4 ∧ ∃ g40 : G, g40.w = wo4 ∧ Stp g.w.heap.size nobody g5 g40 ∧ ifB (!eqI x_6 ((ll : Nat) : Int))
  (∀ g41 : G, Ex g40 g41 →
  R (.bool false) g41)
  (J_2 g40)))))) → J g1) →
  (CallsP Tryd.prog 4 #[] g fun v g42 =>
  ∃ x_7 : Bool, v = (.bool x_7) ∧ ifB (!x_7)
  ((CallsP Tryd.prog 4 #[] g42 fun v g43 =>
  ∃ x_8 : Bool, v = (.bool x_8) ∧ ∀ g44 : G, Ex g43 g44 →
  R (.bool x_8) g44))
  ((CallsP Tryd.prog 5 #[(.slice la ll lc)] g42 fun v g45 =>
  ∃ x_9 : Bool, v = (.bool x_9) ∧ ifB (!x_9)
  ((CallsP Tryd.prog 4 #[] g45 fun v g46 =>
  ∃ x_10 : Bool, v = (.bool x_10) ∧ ∀ g47 : G, Ex g46 g47 →
  R (.bool x_10) g47))
  (J g45))))
theorem F3_eq (la : Option Addr) (ll : Nat) (lc : Nat) (g : G) (R : Value → G → Prop) : fnG cfg3 173 [.tmp 2] c3 an3 [(.slice la ll lc)] g nobody R = F3 la ll lc g R := by kernel_rfl
theorem call3 (la : Option Addr) (ll : Nat) (lc : Nat) (g : G) (R : Value → G → Prop) (hF : F3 la ll lc g R) : CallsG Tryd.prog 3 #[(.slice la ll lc)] g nobody R :=
  fn_soundG (c := cfg3) TTok FNSok mixed Tryd.func3 (show Tryd.f3.body = some c3 by kernel_rfl) (show Tryd.f3.ntmps = 173 by kernel_rfl) (show Tryd.f3.results.toList = [.tmp 2] by kernel_rfl) rfl ((F3_eq la ll lc g R ).mpr hF)

/- 4 pilaster/pilasterlaw41.awake -/
noncomputable def c4 : Code := match Tryd.f4.body with
  | some c => c
  | none => .skip
noncomputable def cfg4 : Cfg := ⟨Tryd.prog, TT, FNS, [], [], [], TCH, false, false, none, PNF, false⟩
def an4 : AnnG := (.seq .leaf (.seq .leaf (.seq .leaf (.seq .leaf (.seq .leaf (.seq .leaf .leaf))))))
def F4 (g : G) (R : Value → G → Prop) : Prop :=
  ∀ g1 : G, NewL g g1 9 [(.string (bs [66]))] →
  ∀ g2 : G, NewL g1 g2 9 [(.string (bs [65]))] →
  ∀ g3 : G, NewL g2 g3 34 [(.string (bs [67])), (.slice (some ⟨g.w.heap.size, 0, none⟩) 1 1), (.slice none 0 0), (.string (bs [65])), (.slice none 0 0), (.slice none 0 0), (.string (bs [66])), (.slice (some ⟨g1.w.heap.size, 0, none⟩) 1 1), (.slice none 0 0)] →
  (CallsP Tryd.prog 6 #[(.slice (some ⟨g2.w.heap.size, 0, none⟩) 3 3)] g3 fun v g4 =>
  ∃ x0a : Option Addr, ∃ x0l : Nat, ∃ x0c : Nat, ∃ x1 : Int, v = (.tuple ⟨[(.slice x0a x0l x0c), (.int .i64 x1)]⟩) ∧ (CallsP Tryd.prog 8 #[(.slice (some ⟨g2.w.heap.size, 0, none⟩) 3 3), (.string (bs [67]))] g4 fun v g5 =>
  ∃ x0a_1 : Option Addr, ∃ x0l_1 : Nat, ∃ x0c_1 : Nat, ∃ x1_1 : Int, v = (.tuple ⟨[(.slice x0a_1 x0l_1 x0c_1), (.int .i64 x1_1)]⟩) ∧ (CallsP Tryd.prog 9 #[(.slice (some ⟨g2.w.heap.size, 0, none⟩) 3 3), (.string (bs [65]))] g5 fun v g6 =>
  ∃ x0a_2 : Option Addr, ∃ x0l_2 : Nat, ∃ x0c_2 : Nat, ∃ x1_2 : Int, v = (.tuple ⟨[(.slice x0a_2 x0l_2 x0c_2), (.int .i64 x1_2)]⟩) ∧ ifB (eqI x1 (0 : Int))
  (ifB (eqI ((x0l : Nat) : Int) (3 : Int))
  ((0 ≤ (1 : Int) ∧ (1 : Int) < ((x0l : Nat) : Int)) ∧ derefP x0a fun ad => ∃ xa : Option Addr, ∃ xl : Nat, ∃ xc : Nat, g6.w.cell? (Addr.add ad (Int.toNat (1 : Int) * 1)) = some (.slice xa xl xc) ∧ ∀ g7 : G, NewL g6 g7 9 [(.string (bs [66]))] →
  (CallsP Tryd.prog 13 #[(.slice xa xl xc), (.slice (some ⟨g6.w.heap.size, 0, none⟩) 1 1)] g7 fun v g8 =>
  ∃ x : Bool, v = (.bool x) ∧ ifB x
  (ifB (eqI x1_1 (0 : Int))
  (∀ g9 : G, NewL g8 g9 9 [(.string (bs [65])), (.string (bs [66]))] →
  (CallsP Tryd.prog 13 #[(.slice x0a_1 x0l_1 x0c_1), (.slice (some ⟨g8.w.heap.size, 0, none⟩) 2 2)] g9 fun v g10 =>
  ∃ x_1 : Bool, v = (.bool x_1) ∧ ifB x_1
  (ifB (eqI x1_2 (0 : Int))
  (∀ g11 : G, NewL g10 g11 9 [(.string (bs [66])), (.string (bs [67]))] →
  (CallsP Tryd.prog 13 #[(.slice x0a_2 x0l_2 x0c_2), (.slice (some ⟨g10.w.heap.size, 0, none⟩) 2 2)] g11 fun v g12 =>
  ∃ x_2 : Bool, v = (.bool x_2) ∧ ∀ g13 : G, Ex g12 g13 →
  R (.bool x_2) g13))
  (∀ g14 : G, Ex g10 g14 →
  R (.bool false) g14))
  (∀ g15 : G, Ex g10 g15 →
  R (.bool false) g15)))
  (∀ g16 : G, Ex g8 g16 →
  R (.bool false) g16))
  (∀ g17 : G, Ex g8 g17 →
  R (.bool false) g17)))
  (∀ g18 : G, Ex g6 g18 →
  R (.bool false) g18))
  (∀ g19 : G, Ex g6 g19 →
  R (.bool false) g19))))
theorem F4_eq (g : G) (R : Value → G → Prop) : fnG cfg4 61 [.tmp 0] c4 an4 [] g nobody R = F4 g R := by kernel_rfl
theorem call4 (g : G) (R : Value → G → Prop) (hF : F4 g R) : CallsG Tryd.prog 4 #[] g nobody R :=
  fn_soundG (c := cfg4) TTok FNSok mixed Tryd.func4 (show Tryd.f4.body = some c4 by kernel_rfl) (show Tryd.f4.ntmps = 61 by kernel_rfl) (show Tryd.f4.results.toList = [.tmp 0] by kernel_rfl) rfl ((F4_eq g R ).mpr hF)

/- 5 pilaster/pilasterlaw41.few -/
noncomputable def c5 : Code := match Tryd.f5.body with
  | some c => c
  | none => .skip
noncomputable def cfg5 : Cfg := ⟨Tryd.prog, TT, FNS, [5], [(5, 5), (12, 5), (17, 5), (22, 5), (28, 5), (32, 5)], [], TCH, false, false, none, PNF, false⟩
def an5 : AnnG := (.seq .leaf (.seq .leaf (.seq (.seq .leaf (.blk (.loop ⟨[(3, .int .i64), (8, .int .i64)], [], []⟩ (.seq .leaf (.seq (.cond .leaf .leaf) (.seq (.blk (.seq .leaf (.join ⟨[], [], []⟩ (.seq .leaf (.cond (.seq .leaf .leaf) .leaf)) (.seq .leaf (.cond .leaf .leaf))))) .leaf)))))) (.seq .leaf .leaf))))
def F5 (la : Option Addr) (ll : Nat) (lc : Nat) (g : G) (R : Value → G → Prop) : Prop :=
  ∃ Inv : Nat → Int → Int → G → Prop, ((∃ m0 : Nat, Inv m0 (0 : Int) (0 : Int) g)) ∧
  ∀ m : Nat, ∀ wide : Int, ∀ v_1 : Int, ∀ g1 : G, Le g g1 → Inv m wide v_1 g1 →
  ifB (ltI v_1 ((ll : Nat) : Int))
  ((0 ≤ v_1 ∧ v_1 < ((ll : Nat) : Int)) ∧ derefP la fun ad => ∃ x0 : ByteArray, ∃ x1a : Option Addr, ∃ x1l : Nat, ∃ x1c : Nat, ∃ x2a : Option Addr, ∃ x2l : Nat, ∃ x2c : Nat, g1.w.cell? (Addr.add ad (Int.toNat v_1 * 3)) = some (.string x0) ∧ g1.w.cell? (Addr.add (Addr.add ad (Int.toNat v_1 * 3)) 1) = some (.slice x1a x1l x1c) ∧ g1.w.cell? (Addr.add (Addr.add ad (Int.toNat v_1 * 3)) 2) = some (.slice x2a x2l x2c) ∧ ∀ J : G → Prop,
  (∀ g2 : G, (ifB (ltI (2 : Int) ((x1l : Nat) : Int))
  (InI64 (wide + (1 : Int)) ∧ InI64 (v_1 + (1 : Int)) ∧ (∃ m_1 : Nat, m_1 < m ∧ Inv m_1 (wide + (1 : Int)) (v_1 + (1 : Int)) g2))
  (InI64 (v_1 + (1 : Int)) ∧ (∃ m_1 : Nat, m_1 < m ∧ Inv m_1 wide (v_1 + (1 : Int)) g2))) → J g2) →
  ifB (ltI (100 : Int) ((x0.size : Nat) : Int))
  (∀ g3 : G, Ex g1 g3 →
  R (.bool false) g3)
  (∀ g4 : G, Ex g1 g4 →
  (CallsP Tryd.prog 14 #[(.slice x1a x1l x1c)] g4 fun v g5 =>
  ∃ x : Bool, v = (.bool x) ∧ ifB x
  (∀ g6 : G, Ex g5 g6 →
  R (.bool false) g6)
  (ifB (ltI (10 : Int) ((x2l : Nat) : Int))
  (∀ g7 : G, Ex g5 g7 →
  R (.bool false) g7)
  (∃ M1 : Nat → Prop, (∀ b, b < g.w.heap.size → M1 b → nobody b) ∧ (CallsG Tryd.prog 15 #[(.slice x2a x2l x2c), (.func (.func 16) #[] #[])] g5 M1 fun v g8 =>
  ∃ x_1 : Bool, v = (.bool x_1) ∧ ifB x_1
  (∀ g9 : G, Ex g8 g9 →
  R (.bool false) g9)
  (J g8)))))))
  (ifB (leI ((ll : Nat) : Int) (20 : Int))
  (∀ g10 : G, Ex g1 g10 →
  R (.bool (leI wide (8 : Int))) g10)
  (∀ g11 : G, Ex g1 g11 →
  R (.bool false) g11))
theorem F5_eq (la : Option Addr) (ll : Nat) (lc : Nat) (g : G) (R : Value → G → Prop) : fnG cfg5 46 [.tmp 2] c5 an5 [(.slice la ll lc)] g nobody R = F5 la ll lc g R := by kernel_rfl
theorem call5 (la : Option Addr) (ll : Nat) (lc : Nat) (g : G) (R : Value → G → Prop) (hF : F5 la ll lc g R) : CallsG Tryd.prog 5 #[(.slice la ll lc)] g nobody R :=
  fn_soundG (c := cfg5) TTok FNSok mixed Tryd.func5 (show Tryd.f5.body = some c5 by kernel_rfl) (show Tryd.f5.ntmps = 46 by kernel_rfl) (show Tryd.f5.results.toList = [.tmp 2] by kernel_rfl) rfl ((F5_eq la ll lc g R ).mpr hF)

/- 6 pilaster/recompile.Levels -/
noncomputable def c6 : Code := match Tryd.f6.body with
  | some c => c
  | none => .skip
noncomputable def cfg6 : Cfg := ⟨Tryd.prog, TT, FNS, [], [], [], TCH, false, false, none, PNF, false⟩
def an6 : AnnG := (.seq .leaf (.seq .leaf (.seq (.seq .leaf (.cond (.seq .leaf .leaf) .leaf)) (.seq .leaf (.seq .leaf (.seq (.seq .leaf (.blk (.loop ⟨[(7, .sl), (29, .int .i64)], [], []⟩ (.seq .leaf (.seq (.cond .leaf .leaf) (.seq (.blk (.seq .leaf (.seq .leaf (.seq (.seq .leaf (.blk (.loop ⟨[(10, .int .i64), (40, .int .i64)], [], []⟩ (.seq .leaf (.seq (.cond .leaf .leaf) (.seq (.blk (.seq .leaf .leaf)) .leaf)))))) (.seq .leaf (.join ⟨[(7, .sl)], [], []⟩ (.seq .leaf (.cond .leaf .leaf)) .leaf)))))) .leaf)))))) (.seq (.seq .leaf (.blk (.loop ⟨[(74, .int .i64)], [], []⟩ (.seq .leaf (.seq (.cond .leaf .leaf) (.seq (.blk (.seq .leaf .leaf)) .leaf)))))) (.seq .leaf .leaf))))))))
def F6 (la : Option Addr) (ll : Nat) (lc : Nat) (g : G) (R : Value → G → Prop) : Prop :=
  (CallsP Tryd.prog 18 #[(.slice la ll lc)] g fun v g1 =>
  ∃ x0 : Option Addr, ∃ x1 : Int, v = (.tuple ⟨[(.pointer x0), (.int .i64 x1)]⟩) ∧ ifB (!eqI x1 (0 : Int))
  (∀ g2 : G, Ex g1 g2 →
  R (.tuple ⟨[(.slice none 0 0), (.int .i64 x1)]⟩) g2)
  (∀ g3 : G, NewM g1 g3 →
  derefP x0 fun ad => ∃ xa : Option Addr, ∃ xl : Nat, ∃ xc : Nat, g3.w.cell? ad = some (.slice xa xl xc) ∧ ∃ Inv : Nat → Option Addr → Nat → Nat → Int → G → Prop, ((∃ m0 : Nat, Inv m0 none 0 0 (0 : Int) g3)) ∧
  ∀ m : Nat, ∀ outa : Option Addr, ∀ outl : Nat, ∀ outc : Nat, ∀ v_1 : Int, ∀ g4 : G, Le g3 g4 → Inv m outa outl outc v_1 g4 →
  ifB (ltI v_1 ((xl : Nat) : Int))
  ((0 ≤ v_1 ∧ v_1 < ((xl : Nat) : Int)) ∧ derefP xa fun ad_1 => ∃ name : ByteArray, g4.w.cell? (Addr.add ad_1 (Int.toNat v_1 * 1)) = some (.string name) ∧ derefP x0 fun ad_2 => ∃ x : Option Nat, g4.w.cell? (Addr.add ad_2 1) = some (.map x) ∧ ∃ xa_1 : Option Addr, ∃ xl_1 : Nat, ∃ xc_1 : Nat, ∃ wo1 : World, Sem.run Tryd.prog (Instr.lookup 50 (.map x) (.string name) false) g4.w = .ok (.slice xa_1 xl_1 xc_1) wo1 ∧ ∃ g5 : G, g5.w = wo1 ∧ Stp g.w.heap.size nobody g4 g5 ∧ ∃ Inv_1 : Nat → Int → Int → G → Prop, ((∃ m0 : Nat, Inv_1 m0 (0 : Int) (0 : Int) g5)) ∧
  ∀ m_2 : Nat, ∀ n : Int, ∀ v_2 : Int, ∀ g6 : G, Le g5 g6 → Inv_1 m_2 n v_2 g6 →
  ifB (ltI v_2 ((xl_1 : Nat) : Int))
  ((0 ≤ v_2 ∧ v_2 < ((xl_1 : Nat) : Int)) ∧ derefP xa_1 fun ad_3 => ∃ s : ByteArray, g6.w.cell? (Addr.add ad_3 (Int.toNat v_2 * 1)) = some (.string s) ∧ ∃ x_1 : Int, ∃ wo2 : World, Sem.run Tryd.prog (Instr.lookup 29 (.map (some g1.w.heap.size)) (.string s) false) g6.w = .ok (.int .i64 x_1) wo2 ∧ ∃ g7 : G, g7.w = wo2 ∧ Stp g.w.heap.size nobody g6 g7 ∧ InI64 (x_1 + (1 : Int)) ∧ InI64 (v_2 + (1 : Int)) ∧ (∃ m_3 : Nat, m_3 < m_2 ∧ Inv_1 m_3 (maxI n (x_1 + (1 : Int))) (v_2 + (1 : Int)) g7))
  (∃ wo3 : World, Sem.run Tryd.prog (Instr.mapUpdate 29 (.map (some g1.w.heap.size)) (.string name) (.int .i64 n)) g6.w = .ok () wo3 ∧ ∃ g8 : G, g8.w = wo3 ∧ Stp g.w.heap.size nobody g6 g8 ∧ ∀ J : Option Addr → Nat → Nat → G → Prop,
  (∀ outa_1 : Option Addr, ∀ outl_1 : Nat, ∀ outc_1 : Nat, ∀ g9 : G, ((0 ≤ n ∧ n < ((outl_1 : Nat) : Int)) ∧ derefP outa_1 fun ad_4 => ∃ xa_2 : Option Addr, ∃ xl_2 : Nat, ∃ xc_2 : Nat, g9.w.cell? (Addr.add ad_4 (Int.toNat n * 1)) = some (.slice xa_2 xl_2 xc_2) ∧ ∀ g10 : G, NewL g9 g10 9 [(.string name)] →
  ∃ xa_3 : Option Addr, ∃ xl_3 : Nat, ∃ xc_3 : Nat, ∃ wo4 : World, Sem.run Tryd.prog (Builtin.append_ #[30, 30] 30 #[(.slice xa_2 xl_2 xc_2), (.slice (some ⟨g9.w.heap.size, 0, none⟩) 1 1)]) g10.w = .ok (.slice xa_3 xl_3 xc_3) wo4 ∧ ∃ g11 : G, g11.w = wo4 ∧ Stp g.w.heap.size nobody g10 g11 ∧ (0 ≤ n ∧ n < ((outl_1 : Nat) : Int)) ∧ derefP outa_1 fun ad_5 => stOk g11.w (Addr.add ad_5 (Int.toNat n * 1)) 1 ∧ ¬ g11.X (Addr.block (Addr.add ad_5 (Int.toNat n * 1))) ∧ mutAt g11 (Addr.add ad_5 (Int.toNat n * 1)) 1 ∧ ((Addr.block (Addr.add ad_5 (Int.toNat n * 1))) < g.w.heap.size → nobody (Addr.block (Addr.add ad_5 (Int.toNat n * 1)))) ∧ ∀ g12 : G, StG false g11 (Addr.add ad_5 (Int.toNat n * 1)) [(.slice xa_3 xl_3 xc_3)] g12 →
  InI64 (v_1 + (1 : Int)) ∧ (∃ m_1 : Nat, m_1 < m ∧ Inv m_1 outa_1 outl_1 outc_1 (v_1 + (1 : Int)) g12)) → J outa_1 outl_1 outc_1 g9) →
  ifB (eqI n ((outl : Nat) : Int))
  (∀ g13 : G, NewL g8 g13 30 [(.slice none 0 0)] →
  ∃ outa_2 : Option Addr, ∃ outl_2 : Nat, ∃ outc_2 : Nat, ∃ wo5 : World, Sem.run Tryd.prog (Builtin.append_ #[25, 25] 25 #[(.slice outa outl outc), (.slice (some ⟨g8.w.heap.size, 0, none⟩) 1 1)]) g13.w = .ok (.slice outa_2 outl_2 outc_2) wo5 ∧ ∃ g14 : G, g14.w = wo5 ∧ Stp g.w.heap.size nobody g13 g14 ∧ J outa_2 outl_2 outc_2 g14)
  (J outa outl outc g8)))
  (∃ Inv_2 : Nat → Int → G → Prop, ((∃ m0 : Nat, Inv_2 m0 (0 : Int) g4)) ∧
  ∀ m_4 : Nat, ∀ v_3 : Int, ∀ g15 : G, Le g4 g15 → Inv_2 m_4 v_3 g15 →
  ifB (ltI v_3 ((outl : Nat) : Int))
  ((0 ≤ v_3 ∧ v_3 < ((outl : Nat) : Int)) ∧ derefP outa fun ad_6 => ∃ namesa : Option Addr, ∃ namesl : Nat, ∃ namesc : Nat, g15.w.cell? (Addr.add ad_6 (Int.toNat v_3 * 1)) = some (.slice namesa namesl namesc) ∧ ∃ M1 : Nat → Prop, (∀ b, b < g.w.heap.size → M1 b → nobody b) ∧ (CallsG Tryd.prog 19 #[(.slice namesa namesl namesc)] g15 M1 fun v g16 =>
  v = (.tuple ⟨[]⟩) ∧ InI64 (v_3 + (1 : Int)) ∧ (∃ m_5 : Nat, m_5 < m_4 ∧ Inv_2 m_5 (v_3 + (1 : Int)) g16)))
  (∀ g17 : G, Ex g15 g17 →
  R (.tuple ⟨[(.slice outa outl outc), (.int .i64 (0 : Int))]⟩) g17))))
theorem F6_eq (la : Option Addr) (ll : Nat) (lc : Nat) (g : G) (R : Value → G → Prop) : fnG cfg6 82 [.tmp 2, .tmp 3] c6 an6 [(.slice la ll lc)] g nobody R = F6 la ll lc g R := by kernel_rfl
theorem call6 (la : Option Addr) (ll : Nat) (lc : Nat) (g : G) (R : Value → G → Prop) (hF : F6 la ll lc g R) : CallsG Tryd.prog 6 #[(.slice la ll lc)] g nobody R :=
  fn_soundG (c := cfg6) TTok FNSok mixed Tryd.func6 (show Tryd.f6.body = some c6 by kernel_rfl) (show Tryd.f6.ntmps = 82 by kernel_rfl) (show Tryd.f6.results.toList = [.tmp 2, .tmp 3] by kernel_rfl) rfl ((F6_eq la ll lc g R ).mpr hF)

/- 8 pilaster/recompile.Closure -/
noncomputable def c8 : Code := match Tryd.f8.body with
  | some c => c
  | none => .skip
noncomputable def cfg8 : Cfg := ⟨Tryd.prog, TT, FNS, [], [], [3], TCH, false, false, none, PNF, false⟩
def an8 : AnnG := (.seq .leaf (.seq .leaf .leaf))
def F8 (la : Option Addr) (ll : Nat) (lc : Nat) (name : ByteArray) (g : G) (R : Value → G → Prop) : Prop :=
  ∀ g1 : G, NewL g g1 9 ([(.string name)] : List Value) →
  ∃ name_1 : ByteArray, g1.w.cell? ⟨g.w.heap.size, 0, none⟩ = some (.string name_1) ∧ (CallsP Tryd.prog 21 #[(.slice la ll lc), (.string name_1), (.func (.func 22) #[] ⟨[(.pointer (some ⟨g.w.heap.size, 0, none⟩))]⟩)] g1 fun v g2 =>
  ∃ x0a : Option Addr, ∃ x0l : Nat, ∃ x0c : Nat, ∃ x1 : Int, v = (.tuple ⟨[(.slice x0a x0l x0c), (.int .i64 x1)]⟩) ∧ ∀ g3 : G, Ex g2 g3 →
  R (.tuple ⟨[(.slice x0a x0l x0c), (.int .i64 x1)]⟩) g3)
theorem F8_eq (la : Option Addr) (ll : Nat) (lc : Nat) (name : ByteArray) (g : G) (R : Value → G → Prop) : fnG cfg8 12 [.tmp 4, .tmp 5] c8 an8 [(.slice la ll lc), (.string name)] g nobody R = F8 la ll lc name g R := by kernel_rfl
theorem call8 (la : Option Addr) (ll : Nat) (lc : Nat) (name : ByteArray) (g : G) (R : Value → G → Prop) (hF : F8 la ll lc name g R) : CallsG Tryd.prog 8 #[(.slice la ll lc), (.string name)] g nobody R :=
  fn_soundG (c := cfg8) TTok FNSok mixed Tryd.func8 (show Tryd.f8.body = some c8 by kernel_rfl) (show Tryd.f8.ntmps = 12 by kernel_rfl) (show Tryd.f8.results.toList = [.tmp 4, .tmp 5] by kernel_rfl) rfl ((F8_eq la ll lc name g R ).mpr hF)

/- 9 pilaster/recompile.Users -/
noncomputable def c9 : Code := match Tryd.f9.body with
  | some c => c
  | none => .skip
noncomputable def cfg9 : Cfg := ⟨Tryd.prog, TT, FNS, [], [], [3], TCH, false, false, none, PNF, false⟩
def an9 : AnnG := (.seq .leaf (.seq .leaf .leaf))
def F9 (la : Option Addr) (ll : Nat) (lc : Nat) (name : ByteArray) (g : G) (R : Value → G → Prop) : Prop :=
  ∀ g1 : G, NewL g g1 9 ([(.string name)] : List Value) →
  ∃ name_1 : ByteArray, g1.w.cell? ⟨g.w.heap.size, 0, none⟩ = some (.string name_1) ∧ (CallsP Tryd.prog 21 #[(.slice la ll lc), (.string name_1), (.func (.func 23) #[] ⟨[(.pointer (some ⟨g.w.heap.size, 0, none⟩))]⟩)] g1 fun v g2 =>
  ∃ x0a : Option Addr, ∃ x0l : Nat, ∃ x0c : Nat, ∃ x1 : Int, v = (.tuple ⟨[(.slice x0a x0l x0c), (.int .i64 x1)]⟩) ∧ ∀ g3 : G, Ex g2 g3 →
  R (.tuple ⟨[(.slice x0a x0l x0c), (.int .i64 x1)]⟩) g3)
theorem F9_eq (la : Option Addr) (ll : Nat) (lc : Nat) (name : ByteArray) (g : G) (R : Value → G → Prop) : fnG cfg9 12 [.tmp 4, .tmp 5] c9 an9 [(.slice la ll lc), (.string name)] g nobody R = F9 la ll lc name g R := by kernel_rfl
theorem call9 (la : Option Addr) (ll : Nat) (lc : Nat) (name : ByteArray) (g : G) (R : Value → G → Prop) (hF : F9 la ll lc name g R) : CallsG Tryd.prog 9 #[(.slice la ll lc), (.string name)] g nobody R :=
  fn_soundG (c := cfg9) TTok FNSok mixed Tryd.func9 (show Tryd.f9.body = some c9 by kernel_rfl) (show Tryd.f9.ntmps = 12 by kernel_rfl) (show Tryd.f9.results.toList = [.tmp 4, .tmp 5] by kernel_rfl) rfl ((F9_eq la ll lc name g R ).mpr hF)

/- 10 slices.Contains[[]string,string] -/
noncomputable def c10 : Code := match Tryd.f10.body with
  | some c => c
  | none => .skip
noncomputable def cfg10 : Cfg := ⟨Tryd.prog, TT, FNS, [], [], [], TCH, false, false, none, PNF, false⟩
def an10 : AnnG := (.seq .leaf (.seq .leaf .leaf))
def F10 (sa : Option Addr) (sl : Nat) (sc : Nat) (v_1 : ByteArray) (g : G) (R : Value → G → Prop) : Prop :=
  (CallsP Tryd.prog 24 #[(.slice sa sl sc), (.string v_1)] g fun v g1 =>
  ∃ x : Int, v = (.int .i64 x) ∧ ∀ g2 : G, Ex g1 g2 →
  R (.bool (leI (0 : Int) x)) g2)
theorem F10_eq (sa : Option Addr) (sl : Nat) (sc : Nat) (v_1 : ByteArray) (g : G) (R : Value → G → Prop) : fnG cfg10 9 [.tmp 4] c10 an10 [(.slice sa sl sc), (.string v_1)] g nobody R = F10 sa sl sc v_1 g R := by kernel_rfl
theorem call10 (sa : Option Addr) (sl : Nat) (sc : Nat) (v_1 : ByteArray) (g : G) (R : Value → G → Prop) (hF : F10 sa sl sc v_1 g R) : CallsG Tryd.prog 10 #[(.slice sa sl sc), (.string v_1)] g nobody R :=
  fn_soundG (c := cfg10) TTok FNSok mixed Tryd.func10 (show Tryd.f10.body = some c10 by kernel_rfl) (show Tryd.f10.ntmps = 9 by kernel_rfl) (show Tryd.f10.results.toList = [.tmp 4] by kernel_rfl) rfl ((F10_eq sa sl sc v_1 g R ).mpr hF)

/- 11 slices.ContainsFunc[[]string,string] -/
noncomputable def c11 : Code := match Tryd.f11.body with
  | some c => c
  | none => .skip
noncomputable def cfg11 : Cfg := ⟨Tryd.prog, TT, FNS, [], [], [], TCH, false, false, none, PNF, false⟩
def an11 : AnnG := (.seq .leaf (.seq .leaf .leaf))
def F11 (sa : Option Addr) (sl : Nat) (sc : Nat) (ff : FuncId) (fc : Array Value) (g : G) (R : Value → G → Prop) : Prop :=
  (CallsP Tryd.prog 25 #[(.slice sa sl sc), (.func (.func ff) #[] fc)] g fun v g1 =>
  ∃ x : Int, v = (.int .i64 x) ∧ ∀ g2 : G, Ex g1 g2 →
  R (.bool (leI (0 : Int) x)) g2)
theorem F11_eq (sa : Option Addr) (sl : Nat) (sc : Nat) (ff : FuncId) (fc : Array Value) (g : G) (R : Value → G → Prop) : fnG cfg11 9 [.tmp 4] c11 an11 [(.slice sa sl sc), (.func (.func ff) #[] fc)] g nobody R = F11 sa sl sc ff fc g R := by kernel_rfl
theorem call11 (sa : Option Addr) (sl : Nat) (sc : Nat) (ff : FuncId) (fc : Array Value) (g : G) (R : Value → G → Prop) (hF : F11 sa sl sc ff fc g R) : CallsG Tryd.prog 11 #[(.slice sa sl sc), (.func (.func ff) #[] fc)] g nobody R :=
  fn_soundG (c := cfg11) TTok FNSok mixed Tryd.func11 (show Tryd.f11.body = some c11 by kernel_rfl) (show Tryd.f11.ntmps = 9 by kernel_rfl) (show Tryd.f11.results.toList = [.tmp 4] by kernel_rfl) rfl ((F11_eq sa sl sc ff fc g R ).mpr hF)

/- 12 pilaster/pilasterlaw41.RecompileLevels$1 -/
noncomputable def c12 : Code := match Tryd.f12.body with
  | some c => c
  | none => .skip
noncomputable def cfg12 : Cfg := ⟨Tryd.prog, TT, FNS, [], [], [], TCH, false, false, none, PNF, false⟩
def an12 : AnnG := (.seq .leaf (.seq .leaf .leaf))
def F12 (s : ByteArray) (c0 : Option Addr) (g : G) (R : Value → G → Prop) : Prop :=
  derefP c0 fun ad => ∃ xa : Option Addr, ∃ xl : Nat, ∃ xc : Nat, g.w.cell? ad = some (.slice xa xl xc) ∧ (CallsP Tryd.prog 10 #[(.slice xa xl xc), (.string s)] g fun v g1 =>
  ∃ x : Bool, v = (.bool x) ∧ ∀ g2 : G, Ex g1 g2 →
  R (.bool (!x)) g2)
theorem F12_eq (s : ByteArray) (c0 : Option Addr) (g : G) (R : Value → G → Prop) : fnG cfg12 8 [.tmp 3] c12 an12 [(.string s), (.pointer c0)] g nobody R = F12 s c0 g R := by kernel_rfl
theorem call12 (s : ByteArray) (c0 : Option Addr) (g : G) (R : Value → G → Prop) (hF : F12 s c0 g R) : CallsG Tryd.prog 12 #[(.string s), (.pointer c0)] g nobody R :=
  fn_soundG (c := cfg12) TTok FNSok mixed Tryd.func12 (show Tryd.f12.body = some c12 by kernel_rfl) (show Tryd.f12.ntmps = 8 by kernel_rfl) (show Tryd.f12.results.toList = [.tmp 3] by kernel_rfl) rfl ((F12_eq s c0 g R ).mpr hF)

/- 13 slices.Equal[[]string,string] -/
noncomputable def c13 : Code := match Tryd.f13.body with
  | some c => c
  | none => .skip
noncomputable def cfg13 : Cfg := ⟨Tryd.prog, TT, FNS, [], [], [], TCH, false, false, none, PNF, false⟩
def an13 : AnnG := (.seq .leaf (.seq (.seq .leaf (.cond (.seq .leaf .leaf) .leaf)) (.seq (.seq .leaf (.blk (.loop ⟨[(13, .int .i64)], [], []⟩ (.seq .leaf (.seq (.cond .leaf .leaf) (.seq (.blk (.seq .leaf (.seq (.tree 8 (.quiet 0 (.quiet 1 (.quiet 2 (.quiet 3 (.quiet 4 (.quiet 5 (.quiet 6 (.quiet 7 .fin))))))))) (.cond (.seq .leaf .leaf) .leaf)))) .leaf)))))) (.seq .leaf .leaf))))
def F13 (s1a : Option Addr) (s1l : Nat) (s1c : Nat) (s2a : Option Addr) (s2l : Nat) (s2c : Nat) (g : G) (R : Value → G → Prop) : Prop :=
  ifB (!eqI ((s1l : Nat) : Int) ((s2l : Nat) : Int))
  (∀ g1 : G, Ex g g1 →
  R (.bool false) g1)
  (∃ Inv : Nat → Int → G → Prop, ((∃ m0 : Nat, Inv m0 (0 : Int) g)) ∧
  ∀ m : Nat, ∀ v_1 : Int, ∀ g2 : G, Le g g2 → Inv m v_1 g2 →
  ifB (ltI v_1 ((s1l : Nat) : Int))
  (∀ g3 : G, Ex g2 g3 →
  (0 ≤ v_1 ∧ v_1 < ((s1l : Nat) : Int)) ∧ derefP s1a fun ad => ∃ x : ByteArray, g3.w.cell? (Addr.add ad (Int.toNat v_1 * 1)) = some (.string x) ∧ (0 ≤ v_1 ∧ v_1 < ((s2l : Nat) : Int)) ∧ derefP s2a fun ad_1 => ∃ x_1 : ByteArray, g3.w.cell? (Addr.add ad_1 (Int.toNat v_1 * 1)) = some (.string x_1) ∧ ifB (!strEq x x_1)
  (∀ g4 : G, Ex g3 g4 →
  R (.bool false) g4)
  (InI64 (v_1 + (1 : Int)) ∧ (∃ m_1 : Nat, m_1 < m ∧ Inv m_1 (v_1 + (1 : Int)) g3)))
  (∀ g5 : G, Ex g2 g5 →
  R (.bool true) g5))
theorem F13_eq (s1a : Option Addr) (s1l : Nat) (s1c : Nat) (s2a : Option Addr) (s2l : Nat) (s2c : Nat) (g : G) (R : Value → G → Prop) : fnG cfg13 26 [.tmp 4] c13 an13 [(.slice s1a s1l s1c), (.slice s2a s2l s2c)] g nobody R = F13 s1a s1l s1c s2a s2l s2c g R := by kernel_rfl
theorem call13 (s1a : Option Addr) (s1l : Nat) (s1c : Nat) (s2a : Option Addr) (s2l : Nat) (s2c : Nat) (g : G) (R : Value → G → Prop) (hF : F13 s1a s1l s1c s2a s2l s2c g R) : CallsG Tryd.prog 13 #[(.slice s1a s1l s1c), (.slice s2a s2l s2c)] g nobody R :=
  fn_soundG (c := cfg13) TTok FNSok mixed Tryd.func13 (show Tryd.f13.body = some c13 by kernel_rfl) (show Tryd.f13.ntmps = 26 by kernel_rfl) (show Tryd.f13.results.toList = [.tmp 4] by kernel_rfl) rfl ((F13_eq s1a s1l s1c s2a s2l s2c g R ).mpr hF)

/- 14 pilaster/pilasterlaw41.long -/
noncomputable def c14 : Code := match Tryd.f14.body with
  | some c => c
  | none => .skip
noncomputable def cfg14 : Cfg := ⟨Tryd.prog, TT, FNS, [], [], [], TCH, false, false, none, PNF, false⟩
def an14 : AnnG := (.seq .leaf (.seq .leaf .leaf))
def F14 (la : Option Addr) (ll : Nat) (lc : Nat) (g : G) (R : Value → G → Prop) : Prop :=
  ifB (ltI (20 : Int) ((ll : Nat) : Int))
  (∀ g1 : G, Ex g g1 →
  R (.bool true) g1)
  ((CallsP Tryd.prog 11 #[(.slice la ll lc), (.func (.func 26) #[] #[])] g fun v g2 =>
  ∃ x : Bool, v = (.bool x) ∧ ∀ g3 : G, Ex g2 g3 →
  R (.bool x) g3))
theorem F14_eq (la : Option Addr) (ll : Nat) (lc : Nat) (g : G) (R : Value → G → Prop) : fnG cfg14 10 [.tmp 2] c14 an14 [(.slice la ll lc)] g nobody R = F14 la ll lc g R := by kernel_rfl
theorem call14 (la : Option Addr) (ll : Nat) (lc : Nat) (g : G) (R : Value → G → Prop) (hF : F14 la ll lc g R) : CallsG Tryd.prog 14 #[(.slice la ll lc)] g nobody R :=
  fn_soundG (c := cfg14) TTok FNSok mixed Tryd.func14 (show Tryd.f14.body = some c14 by kernel_rfl) (show Tryd.f14.ntmps = 10 by kernel_rfl) (show Tryd.f14.results.toList = [.tmp 2] by kernel_rfl) rfl ((F14_eq la ll lc g R ).mpr hF)

/- 15 slices.ContainsFunc[[]pilaster/api.Syn,pilaster/api.Syn] -/
noncomputable def c15 : Code := match Tryd.f15.body with
  | some c => c
  | none => .skip
noncomputable def cfg15 : Cfg := ⟨Tryd.prog, TT, FNS, [], [], [], TCH, false, false, none, PNF, false⟩
def an15 : AnnG := (.seq .leaf (.seq .leaf .leaf))
def F15 (sa : Option Addr) (sl : Nat) (sc : Nat) (ff : FuncId) (fc : Array Value) (g : G) (M : Nat → Prop) (R : Value → G → Prop) : Prop :=
  ∃ M1 : Nat → Prop, (∀ b, b < g.w.heap.size → M1 b → M b) ∧ (CallsG Tryd.prog 27 #[(.slice sa sl sc), (.func (.func ff) #[] fc)] g M1 fun v g1 =>
  ∃ x : Int, v = (.int .i64 x) ∧ ∀ g2 : G, Ex g1 g2 →
  R (.bool (leI (0 : Int) x)) g2)
theorem F15_eq (sa : Option Addr) (sl : Nat) (sc : Nat) (ff : FuncId) (fc : Array Value) (g : G) (M : Nat → Prop) (R : Value → G → Prop) : fnG cfg15 9 [.tmp 4] c15 an15 [(.slice sa sl sc), (.func (.func ff) #[] fc)] g M R = F15 sa sl sc ff fc g M R := by kernel_rfl
theorem call15 (sa : Option Addr) (sl : Nat) (sc : Nat) (ff : FuncId) (fc : Array Value) (g : G) (M : Nat → Prop) (R : Value → G → Prop) (hF : F15 sa sl sc ff fc g M R) : CallsG Tryd.prog 15 #[(.slice sa sl sc), (.func (.func ff) #[] fc)] g M R :=
  fn_soundG (c := cfg15) TTok FNSok mixed Tryd.func15 (show Tryd.f15.body = some c15 by kernel_rfl) (show Tryd.f15.ntmps = 9 by kernel_rfl) (show Tryd.f15.results.toList = [.tmp 4] by kernel_rfl) rfl ((F15_eq sa sl sc ff fc g M R ).mpr hF)

/- 16 pilaster/pilasterlaw41.few$1 -/
noncomputable def c16 : Code := match Tryd.f16.body with
  | some c => c
  | none => .skip
noncomputable def cfg16 : Cfg := ⟨Tryd.prog, TT, FNS, [1], [(1, 1)], [], TCH, false, false, none, PNF, false⟩
def an16 : AnnG := (.seq .leaf (.seq .leaf .leaf))
def F16 (t0 : Int) (t1 : Int) (t2 : ByteArray) (t3a : Option Addr) (t3l : Nat) (t3c : Nat) (t4a : Option Addr) (t4l : Nat) (t4c : Nat) (g : G) (R : Value → G → Prop) : Prop :=
  ∀ g1 : G, Ex g g1 →
  (CallsP Tryd.prog 17 #[(.agg ⟨[(.int .i64 t0), (.int .i64 t1), (.string t2), (.slice t3a t3l t3c), (.slice t4a t4l t4c)]⟩), (.int .i64 (60 : Int)), (.int .i64 (1 : Int))] g1 fun v g2 =>
  ∃ x : Int, v = (.int .i64 x) ∧ ∀ g3 : G, Ex g2 g3 →
  R (.bool (leI (60 : Int) x)) g3)
theorem F16_eq (t0 : Int) (t1 : Int) (t2 : ByteArray) (t3a : Option Addr) (t3l : Nat) (t3c : Nat) (t4a : Option Addr) (t4l : Nat) (t4c : Nat) (g : G) (R : Value → G → Prop) : fnG cfg16 6 [.tmp 2] c16 an16 [(.agg ⟨[(.int .i64 t0), (.int .i64 t1), (.string t2), (.slice t3a t3l t3c), (.slice t4a t4l t4c)]⟩)] g nobody R = F16 t0 t1 t2 t3a t3l t3c t4a t4l t4c g R := by kernel_rfl
theorem call16 (t0 : Int) (t1 : Int) (t2 : ByteArray) (t3a : Option Addr) (t3l : Nat) (t3c : Nat) (t4a : Option Addr) (t4l : Nat) (t4c : Nat) (g : G) (R : Value → G → Prop) (hF : F16 t0 t1 t2 t3a t3l t3c t4a t4l t4c g R) : CallsG Tryd.prog 16 #[(.agg ⟨[(.int .i64 t0), (.int .i64 t1), (.string t2), (.slice t3a t3l t3c), (.slice t4a t4l t4c)]⟩)] g nobody R :=
  fn_soundG (c := cfg16) TTok FNSok mixed Tryd.func16 (show Tryd.f16.body = some c16 by kernel_rfl) (show Tryd.f16.ntmps = 6 by kernel_rfl) (show Tryd.f16.results.toList = [.tmp 2] by kernel_rfl) rfl ((F16_eq t0 t1 t2 t3a t3l t3c t4a t4l t4c g R ).mpr hF)

/- 17 pilaster/pilasterlaw41.size -/
noncomputable def c17 : Code := match Tryd.f17.body with
  | some c => c
  | none => .skip
noncomputable def cfg17 : Cfg := ⟨Tryd.prog, TT, FNS, [3, 9], [(3, 3), (9, 9), (13, 3), (19, 3), (25, 3)], [], TCH, false, false, none, PNF, false⟩
def an17 : AnnG := (.seq .leaf (.join ⟨[], [], []⟩ (.seq .leaf (.cond (.seq .leaf .leaf) .leaf)) (.seq .leaf (.seq (.seq .leaf (.blk (.loop ⟨[(7, .int .i64), (28, .int .i64)], [], []⟩ (.seq .leaf (.seq (.cond .leaf .leaf) (.seq (.blk (.seq .leaf (.seq (.seq .leaf (.cond (.seq .leaf .leaf) .leaf)) .leaf))) .leaf)))))) (.seq .leaf .leaf)))))
def F17 (t0 : Int) (t1 : Int) (t2 : ByteArray) (t3a : Option Addr) (t3l : Nat) (t3c : Nat) (t4a : Option Addr) (t4l : Nat) (t4c : Nat) (most : Int) (depth : Int) (g : G) (R : Value → G → Prop) : Prop :=
  ∀ J : G → Prop,
  (∀ g1 : G, (∃ Inv : Nat → Int → Int → G → Prop, ((∃ m0 : Nat, Inv m0 (1 : Int) (0 : Int) g1)) ∧
  ∀ m : Nat, ∀ n : Int, ∀ v_1 : Int, ∀ g2 : G, Le g1 g2 → Inv m n v_1 g2 →
  ifB (ltI v_1 ((t4l : Nat) : Int))
  ((0 ≤ v_1 ∧ v_1 < ((t4l : Nat) : Int)) ∧ derefP t4a fun ad => ∃ x0 : Int, ∃ x1 : Int, ∃ x2 : ByteArray, ∃ x3a : Option Addr, ∃ x3l : Nat, ∃ x3c : Nat, ∃ x4a : Option Addr, ∃ x4l : Nat, ∃ x4c : Nat, g2.w.cell? (Addr.add ad (Int.toNat v_1 * 5)) = some (.int .i64 x0) ∧ g2.w.cell? (Addr.add (Addr.add ad (Int.toNat v_1 * 5)) 1) = some (.int .i64 x1) ∧ g2.w.cell? (Addr.add (Addr.add ad (Int.toNat v_1 * 5)) 2) = some (.string x2) ∧ g2.w.cell? (Addr.add (Addr.add ad (Int.toNat v_1 * 5)) 3) = some (.slice x3a x3l x3c) ∧ g2.w.cell? (Addr.add (Addr.add ad (Int.toNat v_1 * 5)) 4) = some (.slice x4a x4l x4c) ∧ ifB (leI most n)
  (∀ g3 : G, Ex g2 g3 →
  R (.int .i64 most) g3)
  (InI64 (most - n) ∧ InI64 (depth + (1 : Int)) ∧ ∀ g4 : G, Ex g2 g4 →
  (CallsP Tryd.prog 17 #[(.agg ⟨[(.int .i64 x0), (.int .i64 x1), (.string x2), (.slice x3a x3l x3c), (.slice x4a x4l x4c)]⟩), (.int .i64 (most - n)), (.int .i64 (depth + (1 : Int)))] g4 fun v g5 =>
  ∃ x : Int, v = (.int .i64 x) ∧ InI64 (n + x) ∧ InI64 (v_1 + (1 : Int)) ∧ (∃ m_1 : Nat, m_1 < m ∧ Inv m_1 (n + x) (v_1 + (1 : Int)) g5))))
  (∀ g6 : G, Ex g2 g6 →
  R (.int .i64 (minI n most)) g6)) → J g1) →
  ifB (ltI (30 : Int) depth)
  (∀ g7 : G, Ex g g7 →
  R (.int .i64 most) g7)
  (ifB (ltI (300 : Int) ((t2.size : Nat) : Int))
  (∀ g8 : G, Ex g g8 →
  R (.int .i64 most) g8)
  (ifB (ltI (30 : Int) ((t3l : Nat) : Int))
  (∀ g9 : G, Ex g g9 →
  R (.int .i64 most) g9)
  (∀ g10 : G, Ex g g10 →
  J g10)))
theorem F17_eq (t0 : Int) (t1 : Int) (t2 : ByteArray) (t3a : Option Addr) (t3l : Nat) (t3c : Nat) (t4a : Option Addr) (t4l : Nat) (t4c : Nat) (most : Int) (depth : Int) (g : G) (R : Value → G → Prop) : fnG cfg17 49 [.tmp 6] c17 an17 [(.agg ⟨[(.int .i64 t0), (.int .i64 t1), (.string t2), (.slice t3a t3l t3c), (.slice t4a t4l t4c)]⟩), (.int .i64 most), (.int .i64 depth)] g nobody R = F17 t0 t1 t2 t3a t3l t3c t4a t4l t4c most depth g R := by kernel_rfl
theorem call17 (t0 : Int) (t1 : Int) (t2 : ByteArray) (t3a : Option Addr) (t3l : Nat) (t3c : Nat) (t4a : Option Addr) (t4l : Nat) (t4c : Nat) (most : Int) (depth : Int) (g : G) (R : Value → G → Prop) (hF : F17 t0 t1 t2 t3a t3l t3c t4a t4l t4c most depth g R) : CallsG Tryd.prog 17 #[(.agg ⟨[(.int .i64 t0), (.int .i64 t1), (.string t2), (.slice t3a t3l t3c), (.slice t4a t4l t4c)]⟩), (.int .i64 most), (.int .i64 depth)] g nobody R :=
  fn_soundG (c := cfg17) TTok FNSok mixed Tryd.func17 (show Tryd.f17.body = some c17 by kernel_rfl) (show Tryd.f17.ntmps = 49 by kernel_rfl) (show Tryd.f17.results.toList = [.tmp 6] by kernel_rfl) rfl ((F17_eq t0 t1 t2 t3a t3l t3c t4a t4l t4c most depth g R ).mpr hF)

/- 18 pilaster/recompile.build -/
noncomputable def c18 : Code := match Tryd.f18.body with
  | some c => c
  | none => .skip
noncomputable def cfg18 : Cfg := ⟨Tryd.prog, TT, FNS, [8], [(8, 8), (31, 8), (33, 8)], [20], TCH, false, false, none, PNF, false⟩
def an18 : AnnG := (.seq .leaf (.seq .leaf (.seq (.seq .leaf (.cond (.seq .leaf .leaf) .leaf)) (.seq .leaf (.seq (.seq .leaf (.blk (.loop ⟨[(23, .int .i64)], [], []⟩ (.seq .leaf (.seq (.cond .leaf .leaf) (.seq (.blk (.seq .leaf (.tree 8 (.quiet 0 (.quiet 1 (.quiet 2 (.quiet 3 (.quiet 4 (.quiet 5 (.quiet 6 (.quiet 7 .fin))))))))))) .leaf)))))) (.seq .leaf .leaf))))))
def F18 (la : Option Addr) (ll : Nat) (lc : Nat) (g : G) (R : Value → G → Prop) : Prop :=
  (CallsP Tryd.prog 28 #[(.slice la ll lc)] g fun v g1 =>
  ∃ x0a : Option Addr, ∃ x0l : Nat, ∃ x0c : Nat, ∃ x1 : Int, v = (.tuple ⟨[(.slice x0a x0l x0c), (.int .i64 x1)]⟩) ∧ ifB (!eqI x1 (0 : Int))
  (∀ g2 : G, Ex g1 g2 →
  R (.tuple ⟨[(.pointer none), (.int .i64 x1)]⟩) g2)
  (∀ g3 : G, NewM g1 g3 →
  ∀ g4 : G, NewL g3 g4 52 ([(.slice x0a x0l x0c), (.map (some g1.w.heap.size))] : List Value) →
  ∃ Inv : Nat → Int → G → Prop, ((∃ m0 : Nat, Inv m0 (0 : Int) g4)) ∧
  ∀ m : Nat, ∀ v_1 : Int, ∀ g5 : G, Le g4 g5 → Inv m v_1 g5 →
  ifB (ltI v_1 ((ll : Nat) : Int))
  ((0 ≤ v_1 ∧ v_1 < ((ll : Nat) : Int)) ∧ derefP la fun ad => ∃ x0 : ByteArray, ∃ x1a : Option Addr, ∃ x1l : Nat, ∃ x1c : Nat, ∃ x2a : Option Addr, ∃ x2l : Nat, ∃ x2c : Nat, g5.w.cell? (Addr.add ad (Int.toNat v_1 * 3)) = some (.string x0) ∧ g5.w.cell? (Addr.add (Addr.add ad (Int.toNat v_1 * 3)) 1) = some (.slice x1a x1l x1c) ∧ g5.w.cell? (Addr.add (Addr.add ad (Int.toNat v_1 * 3)) 2) = some (.slice x2a x2l x2c) ∧ ∀ g6 : G, Ex g5 g6 →
  ∃ x : Option Nat, g6.w.cell? (Addr.add ⟨g3.w.heap.size, 0, none⟩ 1) = some (.map x) ∧ ∃ wo1 : World, Sem.run Tryd.prog (Instr.mapUpdate 50 (.map x) (.string x0) (.slice x1a x1l x1c)) g6.w = .ok () wo1 ∧ ∃ g7 : G, g7.w = wo1 ∧ Stp g.w.heap.size nobody g6 g7 ∧ InI64 (v_1 + (1 : Int)) ∧ (∃ m_1 : Nat, m_1 < m ∧ Inv m_1 (v_1 + (1 : Int)) g7))
  (∀ g8 : G, Ex g5 g8 →
  R (.tuple ⟨[(.pointer (some ⟨g3.w.heap.size, 0, none⟩)), (.int .i64 (0 : Int))]⟩) g8)))
theorem F18_eq (la : Option Addr) (ll : Nat) (lc : Nat) (g : G) (R : Value → G → Prop) : fnG cfg18 37 [.tmp 2, .tmp 3] c18 an18 [(.slice la ll lc)] g nobody R = F18 la ll lc g R := by kernel_rfl
theorem call18 (la : Option Addr) (ll : Nat) (lc : Nat) (g : G) (R : Value → G → Prop) (hF : F18 la ll lc g R) : CallsG Tryd.prog 18 #[(.slice la ll lc)] g nobody R :=
  fn_soundG (c := cfg18) TTok FNSok mixed Tryd.func18 (show Tryd.f18.body = some c18 by kernel_rfl) (show Tryd.f18.ntmps = 37 by kernel_rfl) (show Tryd.f18.results.toList = [.tmp 2, .tmp 3] by kernel_rfl) rfl ((F18_eq la ll lc g R ).mpr hF)

/- 21 pilaster/recompile.chosen -/
noncomputable def c21 : Code := match Tryd.f21.body with
  | some c => c
  | none => .skip
noncomputable def cfg21 : Cfg := ⟨Tryd.prog, TT, FNS, [], [], [], TCH, false, false, none, PNF, false⟩
def an21 : AnnG := (.seq .leaf (.seq .leaf (.seq (.seq .leaf (.cond (.seq .leaf .leaf) .leaf)) (.seq (.seq .leaf (.cond (.seq .leaf .leaf) .leaf)) (.seq .leaf (.seq .leaf (.seq (.seq .leaf (.blk (.loop ⟨[(11, .sl), (36, .int .i64)], [], []⟩ (.seq .leaf (.seq (.cond .leaf .leaf) (.seq (.blk (.seq .leaf (.seq .leaf (.cond .leaf .leaf)))) .leaf)))))) (.seq .leaf .leaf))))))))
def F21 (la : Option Addr) (ll : Nat) (lc : Nat) (name : ByteArray) (ff : FuncId) (fc : Array Value) (g : G) (R : Value → G → Prop) : Prop :=
  (CallsP Tryd.prog 18 #[(.slice la ll lc)] g fun v g1 =>
  ∃ x0 : Option Addr, ∃ x1 : Int, v = (.tuple ⟨[(.pointer x0), (.int .i64 x1)]⟩) ∧ ifB (!eqI x1 (0 : Int))
  (∀ g2 : G, Ex g1 g2 →
  R (.tuple ⟨[(.slice none 0 0), (.int .i64 x1)]⟩) g2)
  (derefP x0 fun ad => ∃ xa : Option Addr, ∃ xl : Nat, ∃ xc : Nat, g1.w.cell? ad = some (.slice xa xl xc) ∧ (CallsP Tryd.prog 10 #[(.slice xa xl xc), (.string name)] g1 fun v g3 =>
  ∃ x : Bool, v = (.bool x) ∧ ifB (!x)
  (∀ g4 : G, Ex g3 g4 →
  R (.tuple ⟨[(.slice none 0 0), (.int .i64 (8 : Int))]⟩) g4)
  ((CallsP Tryd.prog 32 #[(.pointer x0)] g3 fun v g5 =>
  ∃ needs : Option Nat, v = (.map needs) ∧ derefP x0 fun ad_1 => ∃ xa_1 : Option Addr, ∃ xl_1 : Nat, ∃ xc_1 : Nat, g5.w.cell? ad_1 = some (.slice xa_1 xl_1 xc_1) ∧ ∃ Inv : Nat → Option Addr → Nat → Nat → Int → G → Prop, ((∃ m0 : Nat, Inv m0 none 0 0 (0 : Int) g5)) ∧
  ∀ m : Nat, ∀ outa : Option Addr, ∀ outl : Nat, ∀ outc : Nat, ∀ v_1 : Int, ∀ g6 : G, Le g5 g6 → Inv m outa outl outc v_1 g6 →
  ifB (ltI v_1 ((xl_1 : Nat) : Int))
  ((0 ≤ v_1 ∧ v_1 < ((xl_1 : Nat) : Int)) ∧ derefP xa_1 fun ad_2 => ∃ s : ByteArray, g6.w.cell? (Addr.add ad_2 (Int.toNat v_1 * 1)) = some (.string s) ∧ Enters Tryd.prog ff ∧ (CallsP Tryd.prog ff ((⟨[(.map needs), (.string s)]⟩ : Array Value) ++ fc) g6 fun v g7 =>
  ∃ x_1 : Bool, v = (.bool x_1) ∧ ifB x_1
  (∀ g8 : G, NewL g7 g8 9 [(.string s)] →
  ∃ outa_1 : Option Addr, ∃ outl_1 : Nat, ∃ outc_1 : Nat, ∃ wo1 : World, Sem.run Tryd.prog (Builtin.append_ #[30, 30] 30 #[(.slice outa outl outc), (.slice (some ⟨g7.w.heap.size, 0, none⟩) 1 1)]) g8.w = .ok (.slice outa_1 outl_1 outc_1) wo1 ∧ ∃ g9 : G, g9.w = wo1 ∧ Stp g.w.heap.size nobody g8 g9 ∧ InI64 (v_1 + (1 : Int)) ∧ (∃ m_1 : Nat, m_1 < m ∧ Inv m_1 outa_1 outl_1 outc_1 (v_1 + (1 : Int)) g9))
  (InI64 (v_1 + (1 : Int)) ∧ (∃ m_1 : Nat, m_1 < m ∧ Inv m_1 outa outl outc (v_1 + (1 : Int)) g7))))
  (∀ g10 : G, Ex g6 g10 →
  R (.tuple ⟨[(.slice outa outl outc), (.int .i64 (0 : Int))]⟩) g10))))))
theorem F21_eq (la : Option Addr) (ll : Nat) (lc : Nat) (name : ByteArray) (ff : FuncId) (fc : Array Value) (g : G) (R : Value → G → Prop) : fnG cfg21 50 [.tmp 6, .tmp 7] c21 an21 [(.slice la ll lc), (.string name), (.func (.func ff) #[] fc)] g nobody R = F21 la ll lc name ff fc g R := by kernel_rfl
theorem call21 (la : Option Addr) (ll : Nat) (lc : Nat) (name : ByteArray) (ff : FuncId) (fc : Array Value) (g : G) (R : Value → G → Prop) (hF : F21 la ll lc name ff fc g R) : CallsG Tryd.prog 21 #[(.slice la ll lc), (.string name), (.func (.func ff) #[] fc)] g nobody R :=
  fn_soundG (c := cfg21) TTok FNSok mixed Tryd.func21 (show Tryd.f21.body = some c21 by kernel_rfl) (show Tryd.f21.ntmps = 50 by kernel_rfl) (show Tryd.f21.results.toList = [.tmp 6, .tmp 7] by kernel_rfl) rfl ((F21_eq la ll lc name ff fc g R ).mpr hF)

/- 22 pilaster/recompile.Closure$1 -/
noncomputable def c22 : Code := match Tryd.f22.body with
  | some c => c
  | none => .skip
noncomputable def cfg22 : Cfg := ⟨Tryd.prog, TT, FNS, [], [], [], TCH, false, false, none, PNF, false⟩
def an22 : AnnG := (.seq .leaf (.seq .leaf .leaf))
def F22 (needs : Option Nat) (s : ByteArray) (c0 : Option Addr) (g : G) (R : Value → G → Prop) : Prop :=
  derefP c0 fun ad => ∃ x : ByteArray, g.w.cell? ad = some (.string x) ∧ ∃ x_1 : Option Nat, ∃ wo1 : World, Sem.run Tryd.prog (Instr.lookup 56 (.map needs) (.string x) false) g.w = .ok (.map x_1) wo1 ∧ ∃ g1 : G, g1.w = wo1 ∧ Stp g.w.heap.size nobody g g1 ∧ ∃ x_2 : Bool, ∃ wo2 : World, Sem.run Tryd.prog (Instr.lookup 57 (.map x_1) (.string s) false) g1.w = .ok (.bool x_2) wo2 ∧ ∃ g2 : G, g2.w = wo2 ∧ Stp g.w.heap.size nobody g1 g2 ∧ ∀ g3 : G, Ex g2 g3 →
  R (.bool x_2) g3
theorem F22_eq (needs : Option Nat) (s : ByteArray) (c0 : Option Addr) (g : G) (R : Value → G → Prop) : fnG cfg22 11 [.tmp 5] c22 an22 [(.map needs), (.string s), (.pointer c0)] g nobody R = F22 needs s c0 g R := by kernel_rfl
theorem call22 (needs : Option Nat) (s : ByteArray) (c0 : Option Addr) (g : G) (R : Value → G → Prop) (hF : F22 needs s c0 g R) : CallsG Tryd.prog 22 #[(.map needs), (.string s), (.pointer c0)] g nobody R :=
  fn_soundG (c := cfg22) TTok FNSok mixed Tryd.func22 (show Tryd.f22.body = some c22 by kernel_rfl) (show Tryd.f22.ntmps = 11 by kernel_rfl) (show Tryd.f22.results.toList = [.tmp 5] by kernel_rfl) rfl ((F22_eq needs s c0 g R ).mpr hF)

/- 23 pilaster/recompile.Users$1 -/
noncomputable def c23 : Code := match Tryd.f23.body with
  | some c => c
  | none => .skip
noncomputable def cfg23 : Cfg := ⟨Tryd.prog, TT, FNS, [], [], [], TCH, false, false, none, PNF, false⟩
def an23 : AnnG := (.seq .leaf (.seq .leaf .leaf))
def F23 (needs : Option Nat) (s : ByteArray) (c0 : Option Addr) (g : G) (R : Value → G → Prop) : Prop :=
  ∃ x : Option Nat, ∃ wo1 : World, Sem.run Tryd.prog (Instr.lookup 56 (.map needs) (.string s) false) g.w = .ok (.map x) wo1 ∧ ∃ g1 : G, g1.w = wo1 ∧ Stp g.w.heap.size nobody g g1 ∧ derefP c0 fun ad => ∃ x_1 : ByteArray, g1.w.cell? ad = some (.string x_1) ∧ ∃ x_2 : Bool, ∃ wo2 : World, Sem.run Tryd.prog (Instr.lookup 57 (.map x) (.string x_1) false) g1.w = .ok (.bool x_2) wo2 ∧ ∃ g2 : G, g2.w = wo2 ∧ Stp g.w.heap.size nobody g1 g2 ∧ ∀ g3 : G, Ex g2 g3 →
  R (.bool x_2) g3
theorem F23_eq (needs : Option Nat) (s : ByteArray) (c0 : Option Addr) (g : G) (R : Value → G → Prop) : fnG cfg23 11 [.tmp 5] c23 an23 [(.map needs), (.string s), (.pointer c0)] g nobody R = F23 needs s c0 g R := by kernel_rfl
theorem call23 (needs : Option Nat) (s : ByteArray) (c0 : Option Addr) (g : G) (R : Value → G → Prop) (hF : F23 needs s c0 g R) : CallsG Tryd.prog 23 #[(.map needs), (.string s), (.pointer c0)] g nobody R :=
  fn_soundG (c := cfg23) TTok FNSok mixed Tryd.func23 (show Tryd.f23.body = some c23 by kernel_rfl) (show Tryd.f23.ntmps = 11 by kernel_rfl) (show Tryd.f23.results.toList = [.tmp 5] by kernel_rfl) rfl ((F23_eq needs s c0 g R ).mpr hF)

/- 24 slices.Index[[]string,string] -/
noncomputable def c24 : Code := match Tryd.f24.body with
  | some c => c
  | none => .skip
noncomputable def cfg24 : Cfg := ⟨Tryd.prog, TT, FNS, [], [], [], TCH, false, false, none, PNF, false⟩
def an24 : AnnG := (.seq .leaf (.seq (.seq .leaf (.blk (.loop ⟨[(8, .int .i64)], [], []⟩ (.seq .leaf (.seq (.cond .leaf .leaf) (.seq (.blk (.seq .leaf (.seq .leaf (.cond (.seq .leaf .leaf) .leaf)))) .leaf)))))) (.seq .leaf .leaf)))
def F24 (sa : Option Addr) (sl : Nat) (sc : Nat) (v_1 : ByteArray) (g : G) (R : Value → G → Prop) : Prop :=
  ∃ Inv : Nat → Int → G → Prop, ((∃ m0 : Nat, Inv m0 (0 : Int) g)) ∧
  ∀ m : Nat, ∀ v_2 : Int, ∀ g1 : G, Le g g1 → Inv m v_2 g1 →
  ifB (ltI v_2 ((sl : Nat) : Int))
  ((0 ≤ v_2 ∧ v_2 < ((sl : Nat) : Int)) ∧ derefP sa fun ad => ∃ x : ByteArray, g1.w.cell? (Addr.add ad (Int.toNat v_2 * 1)) = some (.string x) ∧ ifB (strEq v_1 x)
  (∀ g2 : G, Ex g1 g2 →
  R (.int .i64 v_2) g2)
  (InI64 (v_2 + (1 : Int)) ∧ (∃ m_1 : Nat, m_1 < m ∧ Inv m_1 (v_2 + (1 : Int)) g1)))
  (∀ g3 : G, Ex g1 g3 →
  R (.int .i64 (-1 : Int)) g3)
theorem F24_eq (sa : Option Addr) (sl : Nat) (sc : Nat) (v_1 : ByteArray) (g : G) (R : Value → G → Prop) : fnG cfg24 19 [.tmp 4] c24 an24 [(.slice sa sl sc), (.string v_1)] g nobody R = F24 sa sl sc v_1 g R := by kernel_rfl
theorem call24 (sa : Option Addr) (sl : Nat) (sc : Nat) (v_1 : ByteArray) (g : G) (R : Value → G → Prop) (hF : F24 sa sl sc v_1 g R) : CallsG Tryd.prog 24 #[(.slice sa sl sc), (.string v_1)] g nobody R :=
  fn_soundG (c := cfg24) TTok FNSok mixed Tryd.func24 (show Tryd.f24.body = some c24 by kernel_rfl) (show Tryd.f24.ntmps = 19 by kernel_rfl) (show Tryd.f24.results.toList = [.tmp 4] by kernel_rfl) rfl ((F24_eq sa sl sc v_1 g R ).mpr hF)

/- 25 slices.IndexFunc[[]string,string] -/
noncomputable def c25 : Code := match Tryd.f25.body with
  | some c => c
  | none => .skip
noncomputable def cfg25 : Cfg := ⟨Tryd.prog, TT, FNS, [], [], [], TCH, false, false, none, PNF, false⟩
def an25 : AnnG := (.seq .leaf (.seq (.seq .leaf (.blk (.loop ⟨[(8, .int .i64)], [], []⟩ (.seq .leaf (.seq (.cond .leaf .leaf) (.seq (.blk (.seq .leaf (.seq .leaf (.cond (.seq .leaf .leaf) .leaf)))) .leaf)))))) (.seq .leaf .leaf)))
def F25 (sa : Option Addr) (sl : Nat) (sc : Nat) (ff : FuncId) (fc : Array Value) (g : G) (R : Value → G → Prop) : Prop :=
  ∃ Inv : Nat → Int → G → Prop, ((∃ m0 : Nat, Inv m0 (0 : Int) g)) ∧
  ∀ m : Nat, ∀ v_1 : Int, ∀ g1 : G, Le g g1 → Inv m v_1 g1 →
  ifB (ltI v_1 ((sl : Nat) : Int))
  ((0 ≤ v_1 ∧ v_1 < ((sl : Nat) : Int)) ∧ derefP sa fun ad => ∃ x : ByteArray, g1.w.cell? (Addr.add ad (Int.toNat v_1 * 1)) = some (.string x) ∧ Enters Tryd.prog ff ∧ (CallsP Tryd.prog ff ((⟨[(.string x)]⟩ : Array Value) ++ fc) g1 fun v g2 =>
  ∃ x_1 : Bool, v = (.bool x_1) ∧ ifB x_1
  (∀ g3 : G, Ex g2 g3 →
  R (.int .i64 v_1) g3)
  (InI64 (v_1 + (1 : Int)) ∧ (∃ m_1 : Nat, m_1 < m ∧ Inv m_1 (v_1 + (1 : Int)) g2))))
  (∀ g4 : G, Ex g1 g4 →
  R (.int .i64 (-1 : Int)) g4)
theorem F25_eq (sa : Option Addr) (sl : Nat) (sc : Nat) (ff : FuncId) (fc : Array Value) (g : G) (R : Value → G → Prop) : fnG cfg25 19 [.tmp 4] c25 an25 [(.slice sa sl sc), (.func (.func ff) #[] fc)] g nobody R = F25 sa sl sc ff fc g R := by kernel_rfl
theorem call25 (sa : Option Addr) (sl : Nat) (sc : Nat) (ff : FuncId) (fc : Array Value) (g : G) (R : Value → G → Prop) (hF : F25 sa sl sc ff fc g R) : CallsG Tryd.prog 25 #[(.slice sa sl sc), (.func (.func ff) #[] fc)] g nobody R :=
  fn_soundG (c := cfg25) TTok FNSok mixed Tryd.func25 (show Tryd.f25.body = some c25 by kernel_rfl) (show Tryd.f25.ntmps = 19 by kernel_rfl) (show Tryd.f25.results.toList = [.tmp 4] by kernel_rfl) rfl ((F25_eq sa sl sc ff fc g R ).mpr hF)

/- 26 pilaster/pilasterlaw41.long$1 -/
noncomputable def c26 : Code := match Tryd.f26.body with
  | some c => c
  | none => .skip
noncomputable def cfg26 : Cfg := ⟨Tryd.prog, TT, FNS, [], [], [], TCH, false, false, none, PNF, false⟩
def an26 : AnnG := (.seq .leaf (.seq .leaf .leaf))
def F26 (s : ByteArray) (g : G) (R : Value → G → Prop) : Prop :=
  ∀ g1 : G, Ex g g1 →
  R (.bool (ltI (100 : Int) ((s.size : Nat) : Int))) g1
theorem F26_eq (s : ByteArray) (g : G) (R : Value → G → Prop) : fnG cfg26 6 [.tmp 2] c26 an26 [(.string s)] g nobody R = F26 s g R := by kernel_rfl
theorem call26 (s : ByteArray) (g : G) (R : Value → G → Prop) (hF : F26 s g R) : CallsG Tryd.prog 26 #[(.string s)] g nobody R :=
  fn_soundG (c := cfg26) TTok FNSok mixed Tryd.func26 (show Tryd.f26.body = some c26 by kernel_rfl) (show Tryd.f26.ntmps = 6 by kernel_rfl) (show Tryd.f26.results.toList = [.tmp 2] by kernel_rfl) rfl ((F26_eq s g R ).mpr hF)

/- 27 slices.IndexFunc[[]pilaster/api.Syn,pilaster/api.Syn] -/
noncomputable def c27 : Code := match Tryd.f27.body with
  | some c => c
  | none => .skip
noncomputable def cfg27 : Cfg := ⟨Tryd.prog, TT, FNS, [], [], [], TCH, true, false, none, PNF, false⟩
def an27 : AnnG := (.seq .leaf (.seq (.seq .leaf (.blk (.loop ⟨[(8, .int .i64)], [], []⟩ (.seq .leaf (.seq (.cond .leaf .leaf) (.seq (.blk (.seq .leaf (.seq .leaf (.cond (.seq .leaf .leaf) .leaf)))) .leaf)))))) (.seq .leaf .leaf)))
def F27 (sa : Option Addr) (sl : Nat) (sc : Nat) (ff : FuncId) (fc : Array Value) (g : G) (M : Nat → Prop) (R : Value → G → Prop) : Prop :=
  ∃ Inv : Nat → Int → G → Prop, ((∃ m0 : Nat, Inv m0 (0 : Int) g)) ∧
  ∀ m : Nat, ∀ v_1 : Int, ∀ g1 : G, Le g g1 → Inv m v_1 g1 →
  ifB (ltI v_1 ((sl : Nat) : Int))
  ((0 ≤ v_1 ∧ v_1 < ((sl : Nat) : Int)) ∧ derefP sa fun ad => ∃ x0 : Int, ∃ x1 : Int, ∃ x2 : ByteArray, ∃ x3a : Option Addr, ∃ x3l : Nat, ∃ x3c : Nat, ∃ x4a : Option Addr, ∃ x4l : Nat, ∃ x4c : Nat, g1.w.cell? (Addr.add ad (Int.toNat v_1 * 5)) = some (.int .i64 x0) ∧ g1.w.cell? (Addr.add (Addr.add ad (Int.toNat v_1 * 5)) 1) = some (.int .i64 x1) ∧ g1.w.cell? (Addr.add (Addr.add ad (Int.toNat v_1 * 5)) 2) = some (.string x2) ∧ g1.w.cell? (Addr.add (Addr.add ad (Int.toNat v_1 * 5)) 3) = some (.slice x3a x3l x3c) ∧ g1.w.cell? (Addr.add (Addr.add ad (Int.toNat v_1 * 5)) 4) = some (.slice x4a x4l x4c) ∧ Enters Tryd.prog ff ∧ ∃ M1 : Nat → Prop, (∀ b, b < g.w.heap.size → M1 b → M b) ∧ (CallsG Tryd.prog ff ((⟨[(.agg ⟨[(.int .i64 x0), (.int .i64 x1), (.string x2), (.slice x3a x3l x3c), (.slice x4a x4l x4c)]⟩)]⟩ : Array Value) ++ fc) g1 M1 fun v g2 =>
  ∃ x : Bool, v = (.bool x) ∧ ifB x
  (∀ g3 : G, Ex g2 g3 →
  R (.int .i64 v_1) g3)
  (InI64 (v_1 + (1 : Int)) ∧ (∃ m_1 : Nat, m_1 < m ∧ Inv m_1 (v_1 + (1 : Int)) g2))))
  (∀ g4 : G, Ex g1 g4 →
  R (.int .i64 (-1 : Int)) g4)
theorem F27_eq (sa : Option Addr) (sl : Nat) (sc : Nat) (ff : FuncId) (fc : Array Value) (g : G) (M : Nat → Prop) (R : Value → G → Prop) : fnG cfg27 19 [.tmp 4] c27 an27 [(.slice sa sl sc), (.func (.func ff) #[] fc)] g M R = F27 sa sl sc ff fc g M R := by kernel_rfl
theorem call27 (sa : Option Addr) (sl : Nat) (sc : Nat) (ff : FuncId) (fc : Array Value) (g : G) (M : Nat → Prop) (R : Value → G → Prop) (hF : F27 sa sl sc ff fc g M R) : CallsG Tryd.prog 27 #[(.slice sa sl sc), (.func (.func ff) #[] fc)] g M R :=
  fn_soundG (c := cfg27) TTok FNSok mixed Tryd.func27 (show Tryd.f27.body = some c27 by kernel_rfl) (show Tryd.f27.ntmps = 19 by kernel_rfl) (show Tryd.f27.results.toList = [.tmp 4] by kernel_rfl) rfl ((F27_eq sa sl sc ff fc g M R ).mpr hF)

/- 28 pilaster/scope.Order -/
noncomputable def c28 : Code := match Tryd.f28.body with
  | some c => c
  | none => .skip
noncomputable def cfg28 : Cfg := ⟨Tryd.prog, TT, FNS, [6], [(6, 6), (28, 6), (35, 6), (37, 6)], [4], TCH, false, false, none, PNF, false⟩
def an28 : AnnG := (.seq .leaf (.seq (.seq .leaf (.cond (.seq .leaf .leaf) .leaf)) (.seq (.seq .leaf (.cond (.seq .leaf .leaf) .leaf)) (.seq .leaf (.seq (.seq .leaf (.blk (.loop ⟨[(22, .int .i64)], [], []⟩ (.seq .leaf (.seq (.cond .leaf .leaf) (.seq (.blk (.seq .leaf (.seq (.seq .leaf (.seq .leaf (.cond (.seq .leaf .leaf) .leaf))) .leaf))) .leaf)))))) (.seq .leaf (.seq (.seq .leaf (.blk (.loop ⟨[(45, .int .i64)], [], []⟩ (.seq .leaf (.seq (.cond .leaf .leaf) (.seq (.blk (.seq .leaf (.seq .leaf (.cond (.seq .leaf .leaf) .leaf)))) .leaf)))))) (.seq .leaf (.seq (.blk (.loop ⟨[], [], []⟩ (.seq (.seq .leaf (.cond .leaf .leaf)) (.blk (.seq .leaf (.seq (.seq .leaf (.cond (.seq .leaf .leaf) .leaf)) (.tree 6 (.quiet 0 (.quiet 1 (.quiet 2 (.quiet 3 (.quiet 4 (.eff 5 .fin .fin))))))))))))) (.seq .leaf .leaf))))))))))
def F28 (la : Option Addr) (ll : Nat) (lc : Nat) (g : G) (R : Value → G → Prop) : Prop :=
  ifB (ltI (16 : Int) ((ll : Nat) : Int))
  (∀ g1 : G, Ex g g1 →
  R (.tuple ⟨[(.slice none 0 0), (.int .i64 (5 : Int))]⟩) g1)
  ((CallsP Tryd.prog 33 #[(.slice la ll lc), (.func (.func 34) #[] #[])] g fun v g2 =>
  ∃ x : Bool, v = (.bool x) ∧ ifB x
  (∀ g3 : G, Ex g2 g3 →
  R (.tuple ⟨[(.slice none 0 0), (.int .i64 (1 : Int))]⟩) g3)
  (∀ g4 : G, NewM g2 g4 →
  ∀ g5 : G, NewD g4 g5 50 [(.map none)] →
  stOk g5.w ⟨g4.w.heap.size, 0, none⟩ 1 ∧ ¬ g5.X (Addr.block ⟨g4.w.heap.size, 0, none⟩) ∧ mutAt g5 ⟨g4.w.heap.size, 0, none⟩ 1 ∧ ((Addr.block ⟨g4.w.heap.size, 0, none⟩) < g.w.heap.size → nobody (Addr.block ⟨g4.w.heap.size, 0, none⟩)) ∧ ∀ g6 : G, StG true g5 ⟨g4.w.heap.size, 0, none⟩ [(.map (some g2.w.heap.size))] g6 →
  ∃ Inv : Nat → Int → G → Prop, ((∃ m0 : Nat, Inv m0 (0 : Int) g6)) ∧
  ∀ m : Nat, ∀ v_1 : Int, ∀ g7 : G, Le g6 g7 → Inv m v_1 g7 →
  ifB (ltI v_1 ((ll : Nat) : Int))
  ((0 ≤ v_1 ∧ v_1 < ((ll : Nat) : Int)) ∧ derefP la fun ad => ∃ x0 : ByteArray, ∃ x1a : Option Addr, ∃ x1l : Nat, ∃ x1c : Nat, ∃ x2a : Option Addr, ∃ x2l : Nat, ∃ x2c : Nat, g7.w.cell? (Addr.add ad (Int.toNat v_1 * 3)) = some (.string x0) ∧ g7.w.cell? (Addr.add (Addr.add ad (Int.toNat v_1 * 3)) 1) = some (.slice x1a x1l x1c) ∧ g7.w.cell? (Addr.add (Addr.add ad (Int.toNat v_1 * 3)) 2) = some (.slice x2a x2l x2c) ∧ ∀ g8 : G, Ex g7 g8 →
  ∃ imports : Option Nat, g8.w.cell? ⟨g4.w.heap.size, 0, none⟩ = some (.map imports) ∧ ∃ x0a : Option Addr, ∃ x0l : Nat, ∃ x0c : Nat, ∃ x1 : Bool, ∃ wo1 : World, Sem.run Tryd.prog (Instr.lookup 50 (.map imports) (.string x0) true) g8.w = .ok (.tuple ⟨[(.slice x0a x0l x0c), (.bool x1)]⟩) wo1 ∧ ∃ g9 : G, g9.w = wo1 ∧ Stp g.w.heap.size nobody g8 g9 ∧ ifB x1
  (∀ g10 : G, Ex g9 g10 →
  R (.tuple ⟨[(.slice none 0 0), (.int .i64 (9 : Int))]⟩) g10)
  (∃ imports_1 : Option Nat, g9.w.cell? ⟨g4.w.heap.size, 0, none⟩ = some (.map imports_1) ∧ ∃ wo2 : World, Sem.run Tryd.prog (Instr.mapUpdate 50 (.map imports_1) (.string x0) (.slice x1a x1l x1c)) g9.w = .ok () wo2 ∧ ∃ g11 : G, g11.w = wo2 ∧ Stp g.w.heap.size nobody g9 g11 ∧ InI64 (v_1 + (1 : Int)) ∧ (∃ m_1 : Nat, m_1 < m ∧ Inv m_1 (v_1 + (1 : Int)) g11)))
  (∃ imports_2 : Option Nat, g7.w.cell? ⟨g4.w.heap.size, 0, none⟩ = some (.map imports_2) ∧ (CallsP Tryd.prog 37 #[(.map imports_2)] g7 fun v g12 =>
  ∃ xf : FuncId, ∃ xc : Array Value, v = (.func (.func xf) #[] xc) ∧ (CallsP Tryd.prog 36 #[(.func (.func xf) #[] xc)] g12 fun v g13 =>
  ∃ namesa : Option Addr, ∃ namesl : Nat, ∃ namesc : Nat, v = (.slice namesa namesl namesc) ∧ ∃ Inv_1 : Nat → Int → G → Prop, ((∃ m0 : Nat, Inv_1 m0 (0 : Int) g13)) ∧
  ∀ m_2 : Nat, ∀ v_2 : Int, ∀ g14 : G, Le g13 g14 → Inv_1 m_2 v_2 g14 →
  ifB (ltI v_2 ((namesl : Nat) : Int))
  ((0 ≤ v_2 ∧ v_2 < ((namesl : Nat) : Int)) ∧ derefP namesa fun ad_1 => ∃ n : ByteArray, g14.w.cell? (Addr.add ad_1 (Int.toNat v_2 * 1)) = some (.string n) ∧ ∃ imports_3 : Option Nat, g14.w.cell? ⟨g4.w.heap.size, 0, none⟩ = some (.map imports_3) ∧ ∃ xa : Option Addr, ∃ xl : Nat, ∃ xc_1 : Nat, ∃ wo3 : World, Sem.run Tryd.prog (Instr.lookup 50 (.map imports_3) (.string n) false) g14.w = .ok (.slice xa xl xc_1) wo3 ∧ ∃ g15 : G, g15.w = wo3 ∧ Stp g.w.heap.size nobody g14 g15 ∧ (CallsP Tryd.prog 11 #[(.slice xa xl xc_1), (.func (.func 38) #[] ⟨[(.pointer (some ⟨g4.w.heap.size, 0, none⟩))]⟩)] g15 fun v g16 =>
  ∃ x_1 : Bool, v = (.bool x_1) ∧ ifB x_1
  (∀ g17 : G, Ex g16 g17 →
  R (.tuple ⟨[(.slice none 0 0), (.int .i64 (17 : Int))]⟩) g17)
  (InI64 (v_2 + (1 : Int)) ∧ (∃ m_3 : Nat, m_3 < m_2 ∧ Inv_1 m_3 (v_2 + (1 : Int)) g16))))
  (∀ g18 : G, NewD g14 g18 30 [(.slice none 0 0)] →
  ∃ Inv_2 : Nat → G → Prop, ((∃ m0 : Nat, Inv_2 m0 g18)) ∧
  ∀ m_4 : Nat, ∀ g19 : G, Le g18 g19 → Inv_2 m_4 g19 →
  ∃ outa : Option Addr, ∃ outl : Nat, ∃ outc : Nat, g19.w.cell? ⟨g14.w.heap.size, 0, none⟩ = some (.slice outa outl outc) ∧ ifB (ltI ((outl : Nat) : Int) ((namesl : Nat) : Int))
  ((CallsP Tryd.prog 25 #[(.slice namesa namesl namesc), (.func (.func 39) #[] ⟨[(.pointer (some ⟨g14.w.heap.size, 0, none⟩)), (.pointer (some ⟨g4.w.heap.size, 0, none⟩))]⟩)] g19 fun v g20 =>
  ∃ i : Int, v = (.int .i64 i) ∧ ifB (ltI i (0 : Int))
  (∀ g21 : G, Ex g20 g21 →
  R (.tuple ⟨[(.slice none 0 0), (.int .i64 (21 : Int))]⟩) g21)
  (∀ g22 : G, Ex g20 g22 →
  ∃ outa_1 : Option Addr, ∃ outl_1 : Nat, ∃ outc_1 : Nat, g22.w.cell? ⟨g14.w.heap.size, 0, none⟩ = some (.slice outa_1 outl_1 outc_1) ∧ (0 ≤ i ∧ i < ((namesl : Nat) : Int)) ∧ derefP namesa fun ad_2 => ∃ x_2 : ByteArray, g22.w.cell? (Addr.add ad_2 (Int.toNat i * 1)) = some (.string x_2) ∧ ∀ g23 : G, NewL g22 g23 9 [(.string x_2)] →
  ∃ xa_1 : Option Addr, ∃ xl_1 : Nat, ∃ xc_2 : Nat, ∃ wo4 : World, Sem.run Tryd.prog (Builtin.append_ #[30, 30] 30 #[(.slice outa_1 outl_1 outc_1), (.slice (some ⟨g22.w.heap.size, 0, none⟩) 1 1)]) g23.w = .ok (.slice xa_1 xl_1 xc_2) wo4 ∧ ∃ g24 : G, g24.w = wo4 ∧ Stp g.w.heap.size nobody g23 g24 ∧ stOk g24.w ⟨g14.w.heap.size, 0, none⟩ 1 ∧ ¬ g24.X (Addr.block ⟨g14.w.heap.size, 0, none⟩) ∧ mutAt g24 ⟨g14.w.heap.size, 0, none⟩ 1 ∧ ((Addr.block ⟨g14.w.heap.size, 0, none⟩) < g.w.heap.size → nobody (Addr.block ⟨g14.w.heap.size, 0, none⟩)) ∧ ∀ g25 : G, StG false g24 ⟨g14.w.heap.size, 0, none⟩ [(.slice xa_1 xl_1 xc_2)] g25 →
  (∃ m_5 : Nat, m_5 < m_4 ∧ Inv_2 m_5 g25))))
  (∃ outa_2 : Option Addr, ∃ outl_2 : Nat, ∃ outc_2 : Nat, g19.w.cell? ⟨g14.w.heap.size, 0, none⟩ = some (.slice outa_2 outl_2 outc_2) ∧ ∀ g26 : G, Ex g19 g26 →
  R (.tuple ⟨[(.slice outa_2 outl_2 outc_2), (.int .i64 (0 : Int))]⟩) g26))))))))
theorem F28_eq (la : Option Addr) (ll : Nat) (lc : Nat) (g : G) (R : Value → G → Prop) : fnG cfg28 73 [.tmp 2, .tmp 3] c28 an28 [(.slice la ll lc)] g nobody R = F28 la ll lc g R := by kernel_rfl
theorem call28 (la : Option Addr) (ll : Nat) (lc : Nat) (g : G) (R : Value → G → Prop) (hF : F28 la ll lc g R) : CallsG Tryd.prog 28 #[(.slice la ll lc)] g nobody R :=
  fn_soundG (c := cfg28) TTok FNSok mixed Tryd.func28 (show Tryd.f28.body = some c28 by kernel_rfl) (show Tryd.f28.ntmps = 73 by kernel_rfl) (show Tryd.f28.results.toList = [.tmp 2, .tmp 3] by kernel_rfl) rfl ((F28_eq la ll lc g R ).mpr hF)

/- 32 (*pilaster/recompile.graph).needs -/
noncomputable def c32 : Code := match Tryd.f32.body with
  | some c => c
  | none => .skip
noncomputable def cfg32 : Cfg := ⟨Tryd.prog, TT, FNS, [], [(1000040, 57)], [], TCH, false, false, none, PNF, false⟩
def an32 : AnnG := (.seq .leaf (.seq .leaf (.seq (.seq .leaf (.blk (.loop ⟨[(15, .int .i64)], [], []⟩ (.seq .leaf (.seq (.cond .leaf .leaf) (.seq (.blk (.seq .leaf (.seq .leaf (.seq .leaf (.blk (.loop ⟨[(29, .int .i64)], [], []⟩ (.seq .leaf (.seq (.cond .leaf .leaf) (.seq (.blk (.seq .leaf (.seq .leaf (.seq .leaf (.blk (.loop ⟨[], [], []⟩ (.seq .leaf (.seq (.cond .leaf .leaf) (.blk (.seq .leaf .leaf)))))))))) .leaf))))))))) .leaf)))))) (.seq .leaf .leaf))))
def F32 (g_1 : Option Addr) (g : G) (R : Value → G → Prop) : Prop :=
  ∀ g1 : G, NewM g g1 →
  derefP g_1 fun ad => ∃ xa : Option Addr, ∃ xl : Nat, ∃ xc : Nat, g1.w.cell? ad = some (.slice xa xl xc) ∧ ∃ Inv : Nat → Int → G → Prop, ((∃ m0 : Nat, Inv m0 (0 : Int) g1)) ∧
  ∀ m : Nat, ∀ v_1 : Int, ∀ g2 : G, Le g1 g2 → Inv m v_1 g2 →
  ifB (ltI v_1 ((xl : Nat) : Int))
  ((0 ≤ v_1 ∧ v_1 < ((xl : Nat) : Int)) ∧ derefP xa fun ad_1 => ∃ name : ByteArray, g2.w.cell? (Addr.add ad_1 (Int.toNat v_1 * 1)) = some (.string name) ∧ ∀ g3 : G, NewM g2 g3 →
  ∃ wo1 : World, Sem.run Tryd.prog (Instr.mapUpdate 56 (.map (some g.w.heap.size)) (.string name) (.map (some g2.w.heap.size))) g3.w = .ok () wo1 ∧ ∃ g4 : G, g4.w = wo1 ∧ Stp g.w.heap.size nobody g3 g4 ∧ derefP g_1 fun ad_2 => ∃ x : Option Nat, g4.w.cell? (Addr.add ad_2 1) = some (.map x) ∧ ∃ xa_1 : Option Addr, ∃ xl_1 : Nat, ∃ xc_1 : Nat, ∃ wo2 : World, Sem.run Tryd.prog (Instr.lookup 50 (.map x) (.string name) false) g4.w = .ok (.slice xa_1 xl_1 xc_1) wo2 ∧ ∃ g5 : G, g5.w = wo2 ∧ Stp g.w.heap.size nobody g4 g5 ∧ ∃ Inv_1 : Nat → Int → G → Prop, ((∃ m0 : Nat, Inv_1 m0 (0 : Int) g5)) ∧
  ∀ m_2 : Nat, ∀ v_2 : Int, ∀ g6 : G, Le g5 g6 → Inv_1 m_2 v_2 g6 →
  ifB (ltI v_2 ((xl_1 : Nat) : Int))
  ((0 ≤ v_2 ∧ v_2 < ((xl_1 : Nat) : Int)) ∧ derefP xa_1 fun ad_3 => ∃ s : ByteArray, g6.w.cell? (Addr.add ad_3 (Int.toNat v_2 * 1)) = some (.string s) ∧ ∃ x_1 : Option Nat, ∃ wo3 : World, Sem.run Tryd.prog (Instr.lookup 56 (.map (some g.w.heap.size)) (.string name) false) g6.w = .ok (.map x_1) wo3 ∧ ∃ g7 : G, g7.w = wo3 ∧ Stp g.w.heap.size nobody g6 g7 ∧ ∃ wo4 : World, Sem.run Tryd.prog (Instr.mapUpdate 57 (.map x_1) (.string s) (.bool true)) g7.w = .ok () wo4 ∧ ∃ g8 : G, g8.w = wo4 ∧ Stp g.w.heap.size nobody g7 g8 ∧ ∃ x_2 : Option Nat, ∃ wo5 : World, Sem.run Tryd.prog (Instr.lookup 56 (.map (some g.w.heap.size)) (.string s) false) g8.w = .ok (.map x_2) wo5 ∧ ∃ g9 : G, g9.w = wo5 ∧ Stp g.w.heap.size nobody g8 g9 ∧ ∃ x_3 : Option Addr, ∃ wo6 : World, Sem.run Tryd.prog (Instr.range 57 (.map x_2)) g9.w = .ok (.pointer x_3) wo6 ∧ ∃ g10 : G, g10.w = wo6 ∧ Stp g.w.heap.size nobody g9 g10 ∧ ∃ Inv_2 : Nat → G → Prop, ((∃ m0 : Nat, Inv_2 m0 g10)) ∧
  ∀ m_4 : Nat, ∀ g11 : G, Le g10 g11 → Inv_2 m_4 g11 →
  (∃ wo7 : World, Sem.run Tryd.prog (Instr.next (.pointer x_3) false 0) g11.w = .ok (.tuple ⟨[(.bool false)]⟩) wo7 ∧ ∃ g12 : G, g12.w = wo7 ∧ Stp g.w.heap.size nobody g11 g12 ∧ InI64 (v_2 + (1 : Int)) ∧ (∃ m_3 : Nat, m_3 < m_2 ∧ Inv_1 m_3 (v_2 + (1 : Int)) g12)) ∨
  (∃ x0 : Bool, ∃ x1 : ByteArray, ∃ x2 : Bool, ∃ wo8 : World, Sem.run Tryd.prog (Instr.next (.pointer x_3) false 0) g11.w = .ok (.tuple ⟨[(.bool x0), (.string x1), (.bool x2)]⟩) wo8 ∧ ∃ g13 : G, g13.w = wo8 ∧ Stp g.w.heap.size nobody g11 g13 ∧ ifB x0
  (∃ x0_1 : ByteArray, ∃ x1_1 : Bool, ∃ wo9 : World, Sem.run Tryd.prog (Instr.entry (.pointer x_3)) g13.w = .ok (.tuple ⟨[(.string x0_1), (.bool x1_1)]⟩) wo9 ∧ ∃ g14 : G, g14.w = wo9 ∧ Stp g.w.heap.size nobody g13 g14 ∧ ∃ x_4 : Option Nat, ∃ wo10 : World, Sem.run Tryd.prog (Instr.lookup 56 (.map (some g.w.heap.size)) (.string name) false) g14.w = .ok (.map x_4) wo10 ∧ ∃ g15 : G, g15.w = wo10 ∧ Stp g.w.heap.size nobody g14 g15 ∧ ∃ wo11 : World, Sem.run Tryd.prog (Instr.mapUpdate 57 (.map x_4) (.string x0_1) (.bool true)) g15.w = .ok () wo11 ∧ ∃ g16 : G, g16.w = wo11 ∧ Stp g.w.heap.size nobody g15 g16 ∧ (∃ m_5 : Nat, m_5 < m_4 ∧ Inv_2 m_5 g16))
  (InI64 (v_2 + (1 : Int)) ∧ (∃ m_3 : Nat, m_3 < m_2 ∧ Inv_1 m_3 (v_2 + (1 : Int)) g13))))
  (InI64 (v_1 + (1 : Int)) ∧ (∃ m_1 : Nat, m_1 < m ∧ Inv m_1 (v_1 + (1 : Int)) g6)))
  (∀ g17 : G, Ex g2 g17 →
  R (.map (some g.w.heap.size)) g17)
theorem F32_eq (g_1 : Option Addr) (g : G) (R : Value → G → Prop) : fnG cfg32 52 [.tmp 2] c32 an32 [(.pointer g_1)] g nobody R = F32 g_1 g R := by kernel_rfl
theorem call32 (g_1 : Option Addr) (g : G) (R : Value → G → Prop) (hF : F32 g_1 g R) : CallsG Tryd.prog 32 #[(.pointer g_1)] g nobody R :=
  fn_soundG (c := cfg32) TTok FNSok mixed Tryd.func32 (show Tryd.f32.body = some c32 by kernel_rfl) (show Tryd.f32.ntmps = 52 by kernel_rfl) (show Tryd.f32.results.toList = [.tmp 2] by kernel_rfl) rfl ((F32_eq g_1 g R ).mpr hF)

/- 33 slices.ContainsFunc[[]pilaster/api.Unit,pilaster/api.Unit] -/
noncomputable def c33 : Code := match Tryd.f33.body with
  | some c => c
  | none => .skip
noncomputable def cfg33 : Cfg := ⟨Tryd.prog, TT, FNS, [], [], [], TCH, false, false, none, PNF, false⟩
def an33 : AnnG := (.seq .leaf (.seq .leaf .leaf))
def F33 (sa : Option Addr) (sl : Nat) (sc : Nat) (ff : FuncId) (fc : Array Value) (g : G) (R : Value → G → Prop) : Prop :=
  (CallsP Tryd.prog 51 #[(.slice sa sl sc), (.func (.func ff) #[] fc)] g fun v g1 =>
  ∃ x : Int, v = (.int .i64 x) ∧ ∀ g2 : G, Ex g1 g2 →
  R (.bool (leI (0 : Int) x)) g2)
theorem F33_eq (sa : Option Addr) (sl : Nat) (sc : Nat) (ff : FuncId) (fc : Array Value) (g : G) (R : Value → G → Prop) : fnG cfg33 9 [.tmp 4] c33 an33 [(.slice sa sl sc), (.func (.func ff) #[] fc)] g nobody R = F33 sa sl sc ff fc g R := by kernel_rfl
theorem call33 (sa : Option Addr) (sl : Nat) (sc : Nat) (ff : FuncId) (fc : Array Value) (g : G) (R : Value → G → Prop) (hF : F33 sa sl sc ff fc g R) : CallsG Tryd.prog 33 #[(.slice sa sl sc), (.func (.func ff) #[] fc)] g nobody R :=
  fn_soundG (c := cfg33) TTok FNSok mixed Tryd.func33 (show Tryd.f33.body = some c33 by kernel_rfl) (show Tryd.f33.ntmps = 9 by kernel_rfl) (show Tryd.f33.results.toList = [.tmp 4] by kernel_rfl) rfl ((F33_eq sa sl sc ff fc g R ).mpr hF)

/- 34 pilaster/scope.Order$1 -/
noncomputable def c34 : Code := match Tryd.f34.body with
  | some c => c
  | none => .skip
noncomputable def cfg34 : Cfg := ⟨Tryd.prog, TT, FNS, [1], [(1, 1)], [], TCH, false, false, none, PNF, false⟩
def an34 : AnnG := (.seq .leaf (.seq .leaf .leaf))
def F34 (u0 : ByteArray) (u1a : Option Addr) (u1l : Nat) (u1c : Nat) (u2a : Option Addr) (u2l : Nat) (u2c : Nat) (g : G) (R : Value → G → Prop) : Prop :=
  ∀ g1 : G, Ex g g1 →
  (CallsP Tryd.prog 35 #[(.agg ⟨[(.string u0), (.slice u1a u1l u1c), (.slice u2a u2l u2c)]⟩)] g1 fun v g2 =>
  ∃ x : Bool, v = (.bool x) ∧ ∀ g3 : G, Ex g2 g3 →
  R (.bool (!x)) g3)
theorem F34_eq (u0 : ByteArray) (u1a : Option Addr) (u1l : Nat) (u1c : Nat) (u2a : Option Addr) (u2l : Nat) (u2c : Nat) (g : G) (R : Value → G → Prop) : fnG cfg34 6 [.tmp 2] c34 an34 [(.agg ⟨[(.string u0), (.slice u1a u1l u1c), (.slice u2a u2l u2c)]⟩)] g nobody R = F34 u0 u1a u1l u1c u2a u2l u2c g R := by kernel_rfl
theorem call34 (u0 : ByteArray) (u1a : Option Addr) (u1l : Nat) (u1c : Nat) (u2a : Option Addr) (u2l : Nat) (u2c : Nat) (g : G) (R : Value → G → Prop) (hF : F34 u0 u1a u1l u1c u2a u2l u2c g R) : CallsG Tryd.prog 34 #[(.agg ⟨[(.string u0), (.slice u1a u1l u1c), (.slice u2a u2l u2c)]⟩)] g nobody R :=
  fn_soundG (c := cfg34) TTok FNSok mixed Tryd.func34 (show Tryd.f34.body = some c34 by kernel_rfl) (show Tryd.f34.ntmps = 6 by kernel_rfl) (show Tryd.f34.results.toList = [.tmp 2] by kernel_rfl) rfl ((F34_eq u0 u1a u1l u1c u2a u2l u2c g R ).mpr hF)

/- 35 pilaster/scope.valid -/
noncomputable def c35 : Code := match Tryd.f35.body with
  | some c => c
  | none => .skip
noncomputable def cfg35 : Cfg := ⟨Tryd.prog, TT, FNS, [1], [(1, 1), (5, 1), (10, 1), (15, 1), (28, 1), (33, 1), (41, 1)], [], TCH, false, false, none, PNF, false⟩
def an35 : AnnG := (.seq .leaf (.join ⟨[], [], []⟩ (.seq .leaf (.cond (.seq .leaf .leaf) .leaf)) (.seq (.seq .leaf (.blk (.loop ⟨[(18, .int .i64)], [], []⟩ (.seq .leaf (.seq (.cond .leaf .leaf) (.seq (.blk (.seq .leaf (.seq .leaf (.cond (.seq .leaf .leaf) .leaf)))) .leaf)))))) (.seq .leaf .leaf))))
def F35 (u0 : ByteArray) (u1a : Option Addr) (u1l : Nat) (u1c : Nat) (u2a : Option Addr) (u2l : Nat) (u2c : Nat) (g : G) (R : Value → G → Prop) : Prop :=
  ∀ J : G → Prop,
  (∀ g1 : G, (∃ Inv : Nat → Int → G → Prop, ((∃ m0 : Nat, Inv m0 (0 : Int) g1)) ∧
  ∀ m : Nat, ∀ v_1 : Int, ∀ g2 : G, Le g1 g2 → Inv m v_1 g2 →
  ifB (ltI v_1 ((u1l : Nat) : Int))
  ((0 ≤ v_1 ∧ v_1 < ((u1l : Nat) : Int)) ∧ derefP u1a fun ad => ∃ s : ByteArray, g2.w.cell? (Addr.add ad (Int.toNat v_1 * 1)) = some (.string s) ∧ (CallsP Tryd.prog 52 #[(.string s)] g2 fun v g3 =>
  ∃ x : Bool, v = (.bool x) ∧ ifB (!x)
  (∀ g4 : G, Ex g3 g4 →
  R (.bool false) g4)
  (ifB (strEq s u0)
  (∀ g5 : G, Ex g3 g5 →
  R (.bool false) g5)
  ((0 ≤ v_1 ∧ v_1 ≤ ((u1c : Nat) : Int)) ∧ (CallsP Tryd.prog 10 #[(.slice (slAddr u1a u1c 0 1) ((Int.toNat v_1) - 0) (u1c - 0)), (.string s)] g3 fun v g6 =>
  ∃ x_1 : Bool, v = (.bool x_1) ∧ ifB x_1
  (∀ g7 : G, Ex g6 g7 →
  R (.bool false) g7)
  (InI64 (v_1 + (1 : Int)) ∧ (∃ m_1 : Nat, m_1 < m ∧ Inv m_1 (v_1 + (1 : Int)) g6)))))))
  ((CallsP Tryd.prog 53 #[(.int .i64 (7 : Int)), (.agg ⟨[(.int .i64 (81 : Int)), (.int .i64 (0 : Int)), (.string (bs [])), (.slice none 0 0), (.slice u2a u2l u2c)]⟩)] g2 fun v g8 =>
  ∃ x_2 : Bool, v = (.bool x_2) ∧ ∀ g9 : G, Ex g8 g9 →
  R (.bool x_2) g9))) → J g1) →
  ∀ g10 : G, Ex g g10 →
  (CallsP Tryd.prog 52 #[(.string u0)] g10 fun v g11 =>
  ∃ x_3 : Bool, v = (.bool x_3) ∧ ifB (!x_3)
  (∀ g12 : G, Ex g11 g12 →
  R (.bool false) g12)
  (ifB (ltI (16 : Int) ((u1l : Nat) : Int))
  (∀ g13 : G, Ex g11 g13 →
  R (.bool false) g13)
  (J g11)))
theorem F35_eq (u0 : ByteArray) (u1a : Option Addr) (u1l : Nat) (u1c : Nat) (u2a : Option Addr) (u2l : Nat) (u2c : Nat) (g : G) (R : Value → G → Prop) : fnG cfg35 45 [.tmp 2] c35 an35 [(.agg ⟨[(.string u0), (.slice u1a u1l u1c), (.slice u2a u2l u2c)]⟩)] g nobody R = F35 u0 u1a u1l u1c u2a u2l u2c g R := by kernel_rfl
theorem call35 (u0 : ByteArray) (u1a : Option Addr) (u1l : Nat) (u1c : Nat) (u2a : Option Addr) (u2l : Nat) (u2c : Nat) (g : G) (R : Value → G → Prop) (hF : F35 u0 u1a u1l u1c u2a u2l u2c g R) : CallsG Tryd.prog 35 #[(.agg ⟨[(.string u0), (.slice u1a u1l u1c), (.slice u2a u2l u2c)]⟩)] g nobody R :=
  fn_soundG (c := cfg35) TTok FNSok mixed Tryd.func35 (show Tryd.f35.body = some c35 by kernel_rfl) (show Tryd.f35.ntmps = 45 by kernel_rfl) (show Tryd.f35.results.toList = [.tmp 2] by kernel_rfl) rfl ((F35_eq u0 u1a u1l u1c u2a u2l u2c g R ).mpr hF)

/- 36 slices.Sorted[string] -/
/- 37 maps.Keys[map[string][]string,string,[]string] -/
noncomputable def c37 : Code := match Tryd.f37.body with
  | some c => c
  | none => .skip
noncomputable def cfg37 : Cfg := ⟨Tryd.prog, TT, FNS, [], [], [1], TCH, false, false, none, PNF, false⟩
def an37 : AnnG := (.seq .leaf (.seq .leaf .leaf))
def F37 (m : Option Nat) (g : G) (R : Value → G → Prop) : Prop :=
  ∀ g1 : G, NewL g g1 50 ([(.map m)] : List Value) →
  ∀ g2 : G, Ex g1 g2 →
  R (.func (.func 55) #[] ⟨[(.pointer (some ⟨g.w.heap.size, 0, none⟩))]⟩) g2
theorem F37_eq (m : Option Nat) (g : G) (R : Value → G → Prop) : fnG cfg37 4 [.tmp 2] c37 an37 [(.map m)] g nobody R = F37 m g R := by kernel_rfl
theorem call37 (m : Option Nat) (g : G) (R : Value → G → Prop) (hF : F37 m g R) : CallsG Tryd.prog 37 #[(.map m)] g nobody R :=
  fn_soundG (c := cfg37) TTok FNSok mixed Tryd.func37 (show Tryd.f37.body = some c37 by kernel_rfl) (show Tryd.f37.ntmps = 4 by kernel_rfl) (show Tryd.f37.results.toList = [.tmp 2] by kernel_rfl) rfl ((F37_eq m g R ).mpr hF)

/- 38 pilaster/scope.Order$2 -/
noncomputable def c38 : Code := match Tryd.f38.body with
  | some c => c
  | none => .skip
noncomputable def cfg38 : Cfg := ⟨Tryd.prog, TT, FNS, [], [], [], TCH, false, false, none, PNF, false⟩
def an38 : AnnG := (.seq .leaf (.seq .leaf (.seq .leaf .leaf)))
def F38 (s : ByteArray) (c0 : Option Addr) (g : G) (R : Value → G → Prop) : Prop :=
  derefP c0 fun ad => ∃ x : Option Nat, g.w.cell? ad = some (.map x) ∧ ∃ x0a : Option Addr, ∃ x0l : Nat, ∃ x0c : Nat, ∃ x1 : Bool, ∃ wo1 : World, Sem.run Tryd.prog (Instr.lookup 50 (.map x) (.string s) true) g.w = .ok (.tuple ⟨[(.slice x0a x0l x0c), (.bool x1)]⟩) wo1 ∧ ∃ g1 : G, g1.w = wo1 ∧ Stp g.w.heap.size nobody g g1 ∧ ∀ g2 : G, Ex g1 g2 →
  R (.bool (!x1)) g2
theorem F38_eq (s : ByteArray) (c0 : Option Addr) (g : G) (R : Value → G → Prop) : fnG cfg38 14 [.tmp 3] c38 an38 [(.string s), (.pointer c0)] g nobody R = F38 s c0 g R := by kernel_rfl
theorem call38 (s : ByteArray) (c0 : Option Addr) (g : G) (R : Value → G → Prop) (hF : F38 s c0 g R) : CallsG Tryd.prog 38 #[(.string s), (.pointer c0)] g nobody R :=
  fn_soundG (c := cfg38) TTok FNSok mixed Tryd.func38 (show Tryd.f38.body = some c38 by kernel_rfl) (show Tryd.f38.ntmps = 14 by kernel_rfl) (show Tryd.f38.results.toList = [.tmp 3] by kernel_rfl) rfl ((F38_eq s c0 g R ).mpr hF)

/- 39 pilaster/scope.Order$3 -/
noncomputable def c39 : Code := match Tryd.f39.body with
  | some c => c
  | none => .skip
noncomputable def cfg39 : Cfg := ⟨Tryd.prog, TT, FNS, [], [], [], TCH, false, false, none, PNF, false⟩
def an39 : AnnG := (.seq .leaf (.seq .leaf .leaf))
def F39 (n : ByteArray) (c0 : Option Addr) (c1 : Option Addr) (g : G) (R : Value → G → Prop) : Prop :=
  derefP c0 fun ad => ∃ xa : Option Addr, ∃ xl : Nat, ∃ xc : Nat, g.w.cell? ad = some (.slice xa xl xc) ∧ (CallsP Tryd.prog 10 #[(.slice xa xl xc), (.string n)] g fun v g1 =>
  ∃ x : Bool, v = (.bool x) ∧ ifB (!x)
  (derefP c1 fun ad_1 => ∃ x_1 : Option Nat, g1.w.cell? ad_1 = some (.map x_1) ∧ ∃ xa_1 : Option Addr, ∃ xl_1 : Nat, ∃ xc_1 : Nat, ∃ wo1 : World, Sem.run Tryd.prog (Instr.lookup 50 (.map x_1) (.string n) false) g1.w = .ok (.slice xa_1 xl_1 xc_1) wo1 ∧ ∃ g2 : G, g2.w = wo1 ∧ Stp g.w.heap.size nobody g1 g2 ∧ (CallsP Tryd.prog 11 #[(.slice xa_1 xl_1 xc_1), (.func (.func 40) #[] ⟨[(.pointer c0)]⟩)] g2 fun v g3 =>
  ∃ x_2 : Bool, v = (.bool x_2) ∧ ∀ g4 : G, Ex g3 g4 →
  R (.bool (!x_2)) g4))
  (∀ g5 : G, Ex g1 g5 →
  R (.bool false) g5))
theorem F39_eq (n : ByteArray) (c0 : Option Addr) (c1 : Option Addr) (g : G) (R : Value → G → Prop) : fnG cfg39 17 [.tmp 4] c39 an39 [(.string n), (.pointer c0), (.pointer c1)] g nobody R = F39 n c0 c1 g R := by kernel_rfl
theorem call39 (n : ByteArray) (c0 : Option Addr) (c1 : Option Addr) (g : G) (R : Value → G → Prop) (hF : F39 n c0 c1 g R) : CallsG Tryd.prog 39 #[(.string n), (.pointer c0), (.pointer c1)] g nobody R :=
  fn_soundG (c := cfg39) TTok FNSok mixed Tryd.func39 (show Tryd.f39.body = some c39 by kernel_rfl) (show Tryd.f39.ntmps = 17 by kernel_rfl) (show Tryd.f39.results.toList = [.tmp 4] by kernel_rfl) rfl ((F39_eq n c0 c1 g R ).mpr hF)

/- 40 pilaster/scope.Order$3$1 -/
noncomputable def c40 : Code := match Tryd.f40.body with
  | some c => c
  | none => .skip
noncomputable def cfg40 : Cfg := ⟨Tryd.prog, TT, FNS, [], [], [], TCH, false, false, none, PNF, false⟩
def an40 : AnnG := (.seq .leaf (.seq .leaf .leaf))
def F40 (s : ByteArray) (c0 : Option Addr) (g : G) (R : Value → G → Prop) : Prop :=
  derefP c0 fun ad => ∃ xa : Option Addr, ∃ xl : Nat, ∃ xc : Nat, g.w.cell? ad = some (.slice xa xl xc) ∧ (CallsP Tryd.prog 10 #[(.slice xa xl xc), (.string s)] g fun v g1 =>
  ∃ x : Bool, v = (.bool x) ∧ ∀ g2 : G, Ex g1 g2 →
  R (.bool (!x)) g2)
theorem F40_eq (s : ByteArray) (c0 : Option Addr) (g : G) (R : Value → G → Prop) : fnG cfg40 8 [.tmp 3] c40 an40 [(.string s), (.pointer c0)] g nobody R = F40 s c0 g R := by kernel_rfl
theorem call40 (s : ByteArray) (c0 : Option Addr) (g : G) (R : Value → G → Prop) (hF : F40 s c0 g R) : CallsG Tryd.prog 40 #[(.string s), (.pointer c0)] g nobody R :=
  fn_soundG (c := cfg40) TTok FNSok mixed Tryd.func40 (show Tryd.f40.body = some c40 by kernel_rfl) (show Tryd.f40.ntmps = 8 by kernel_rfl) (show Tryd.f40.results.toList = [.tmp 3] by kernel_rfl) rfl ((F40_eq s c0 g R ).mpr hF)

/- 51 slices.IndexFunc[[]pilaster/api.Unit,pilaster/api.Unit] -/
noncomputable def c51 : Code := match Tryd.f51.body with
  | some c => c
  | none => .skip
noncomputable def cfg51 : Cfg := ⟨Tryd.prog, TT, FNS, [], [], [], TCH, false, false, none, PNF, false⟩
def an51 : AnnG := (.seq .leaf (.seq (.seq .leaf (.blk (.loop ⟨[(8, .int .i64)], [], []⟩ (.seq .leaf (.seq (.cond .leaf .leaf) (.seq (.blk (.seq .leaf (.seq .leaf (.cond (.seq .leaf .leaf) .leaf)))) .leaf)))))) (.seq .leaf .leaf)))
def F51 (sa : Option Addr) (sl : Nat) (sc : Nat) (ff : FuncId) (fc : Array Value) (g : G) (R : Value → G → Prop) : Prop :=
  ∃ Inv : Nat → Int → G → Prop, ((∃ m0 : Nat, Inv m0 (0 : Int) g)) ∧
  ∀ m : Nat, ∀ v_1 : Int, ∀ g1 : G, Le g g1 → Inv m v_1 g1 →
  ifB (ltI v_1 ((sl : Nat) : Int))
  ((0 ≤ v_1 ∧ v_1 < ((sl : Nat) : Int)) ∧ derefP sa fun ad => ∃ x0 : ByteArray, ∃ x1a : Option Addr, ∃ x1l : Nat, ∃ x1c : Nat, ∃ x2a : Option Addr, ∃ x2l : Nat, ∃ x2c : Nat, g1.w.cell? (Addr.add ad (Int.toNat v_1 * 3)) = some (.string x0) ∧ g1.w.cell? (Addr.add (Addr.add ad (Int.toNat v_1 * 3)) 1) = some (.slice x1a x1l x1c) ∧ g1.w.cell? (Addr.add (Addr.add ad (Int.toNat v_1 * 3)) 2) = some (.slice x2a x2l x2c) ∧ Enters Tryd.prog ff ∧ (CallsP Tryd.prog ff ((⟨[(.agg ⟨[(.string x0), (.slice x1a x1l x1c), (.slice x2a x2l x2c)]⟩)]⟩ : Array Value) ++ fc) g1 fun v g2 =>
  ∃ x : Bool, v = (.bool x) ∧ ifB x
  (∀ g3 : G, Ex g2 g3 →
  R (.int .i64 v_1) g3)
  (InI64 (v_1 + (1 : Int)) ∧ (∃ m_1 : Nat, m_1 < m ∧ Inv m_1 (v_1 + (1 : Int)) g2))))
  (∀ g4 : G, Ex g1 g4 →
  R (.int .i64 (-1 : Int)) g4)
theorem F51_eq (sa : Option Addr) (sl : Nat) (sc : Nat) (ff : FuncId) (fc : Array Value) (g : G) (R : Value → G → Prop) : fnG cfg51 19 [.tmp 4] c51 an51 [(.slice sa sl sc), (.func (.func ff) #[] fc)] g nobody R = F51 sa sl sc ff fc g R := by kernel_rfl
theorem call51 (sa : Option Addr) (sl : Nat) (sc : Nat) (ff : FuncId) (fc : Array Value) (g : G) (R : Value → G → Prop) (hF : F51 sa sl sc ff fc g R) : CallsG Tryd.prog 51 #[(.slice sa sl sc), (.func (.func ff) #[] fc)] g nobody R :=
  fn_soundG (c := cfg51) TTok FNSok mixed Tryd.func51 (show Tryd.f51.body = some c51 by kernel_rfl) (show Tryd.f51.ntmps = 19 by kernel_rfl) (show Tryd.f51.results.toList = [.tmp 4] by kernel_rfl) rfl ((F51_eq sa sl sc ff fc g R ).mpr hF)

/- 52 pilaster/ident.IsUpper -/
noncomputable def c52 : Code := match Tryd.f52.body with
  | some c => c
  | none => .skip
noncomputable def cfg52 : Cfg := ⟨Tryd.prog, TT, FNS, [], [], [], TCH, false, false, none, PNF, false⟩
def an52 : AnnG := (.seq .leaf (.seq .leaf .leaf))
def F52 (s : ByteArray) (g : G) (R : Value → G → Prop) : Prop :=
  (CallsP Tryd.prog 61 #[(.string s), (.int .i64 (2 : Int))] g fun v g1 =>
  ∃ x : Bool, v = (.bool x) ∧ ∀ g2 : G, Ex g1 g2 →
  R (.bool x) g2)
theorem F52_eq (s : ByteArray) (g : G) (R : Value → G → Prop) : fnG cfg52 5 [.tmp 2] c52 an52 [(.string s)] g nobody R = F52 s g R := by kernel_rfl
theorem call52 (s : ByteArray) (g : G) (R : Value → G → Prop) (hF : F52 s g R) : CallsG Tryd.prog 52 #[(.string s)] g nobody R :=
  fn_soundG (c := cfg52) TTok FNSok mixed Tryd.func52 (show Tryd.f52.body = some c52 by kernel_rfl) (show Tryd.f52.ntmps = 5 by kernel_rfl) (show Tryd.f52.results.toList = [.tmp 2] by kernel_rfl) rfl ((F52_eq s g R ).mpr hF)

/- 53 pilaster/syntax.Valid -/
noncomputable def c53 : Code := match Tryd.f53.body with
  | some c => c
  | none => .skip
noncomputable def cfg53 : Cfg := ⟨Tryd.prog, TT, FNS, [3], [(3, 3)], [], TCH, false, false, none, PNF, false⟩
def an53 : AnnG := (.seq .leaf (.seq .leaf .leaf))
def F53 (cat : Int) (t0 : Int) (t1 : Int) (t2 : ByteArray) (t3a : Option Addr) (t3l : Nat) (t3c : Nat) (t4a : Option Addr) (t4l : Nat) (t4c : Nat) (g : G) (R : Value → G → Prop) : Prop :=
  ∀ g1 : G, Ex g g1 →
  (CallsP Tryd.prog 62 #[(.int .i64 cat), (.agg ⟨[(.int .i64 t0), (.int .i64 t1), (.string t2), (.slice t3a t3l t3c), (.slice t4a t4l t4c)]⟩)] g1 fun v g2 =>
  ∃ x : Bool, v = (.bool x) ∧ ifB x
  ((CallsP Tryd.prog 63 #[(.agg ⟨[(.int .i64 t0), (.int .i64 t1), (.string t2), (.slice t3a t3l t3c), (.slice t4a t4l t4c)]⟩)] g2 fun v g3 =>
  ∃ x_1 : Bool, v = (.bool x_1) ∧ ∀ g4 : G, Ex g3 g4 →
  R (.bool x_1) g4))
  (∀ g5 : G, Ex g2 g5 →
  R (.bool false) g5))
theorem F53_eq (cat : Int) (t0 : Int) (t1 : Int) (t2 : ByteArray) (t3a : Option Addr) (t3l : Nat) (t3c : Nat) (t4a : Option Addr) (t4l : Nat) (t4c : Nat) (g : G) (R : Value → G → Prop) : fnG cfg53 12 [.tmp 4] c53 an53 [(.int .i64 cat), (.agg ⟨[(.int .i64 t0), (.int .i64 t1), (.string t2), (.slice t3a t3l t3c), (.slice t4a t4l t4c)]⟩)] g nobody R = F53 cat t0 t1 t2 t3a t3l t3c t4a t4l t4c g R := by kernel_rfl
theorem call53 (cat : Int) (t0 : Int) (t1 : Int) (t2 : ByteArray) (t3a : Option Addr) (t3l : Nat) (t3c : Nat) (t4a : Option Addr) (t4l : Nat) (t4c : Nat) (g : G) (R : Value → G → Prop) (hF : F53 cat t0 t1 t2 t3a t3l t3c t4a t4l t4c g R) : CallsG Tryd.prog 53 #[(.int .i64 cat), (.agg ⟨[(.int .i64 t0), (.int .i64 t1), (.string t2), (.slice t3a t3l t3c), (.slice t4a t4l t4c)]⟩)] g nobody R :=
  fn_soundG (c := cfg53) TTok FNSok mixed Tryd.func53 (show Tryd.f53.body = some c53 by kernel_rfl) (show Tryd.f53.ntmps = 12 by kernel_rfl) (show Tryd.f53.results.toList = [.tmp 4] by kernel_rfl) rfl ((F53_eq cat t0 t1 t2 t3a t3l t3c t4a t4l t4c g R ).mpr hF)

/- 54 slices.Collect[string] -/
/- 55 maps.Keys[map[string][]string,string,[]string]$1 -/
/- 61 pilaster/ident.name -/
noncomputable def c61 : Code := match Tryd.f61.body with
  | some c => c
  | none => .skip
noncomputable def cfg61 : Cfg := ⟨Tryd.prog, TT, FNS, [], [], [], TCH, false, false, none, PNF, false⟩
def an61 : AnnG := (.seq .leaf (.join ⟨[], [], []⟩ (.seq .leaf (.cond (.seq .leaf .leaf) .leaf)) (.seq (.seq .leaf (.blk (.loop ⟨[(25, .int .i64)], [], []⟩ (.seq .leaf (.seq (.cond .leaf .leaf) (.seq (.blk (.seq .leaf (.seq .leaf (.seq .leaf (.cond (.seq .leaf .leaf) .leaf))))) .leaf)))))) (.seq .leaf .leaf))))
def F61 (s : ByteArray) (first : Int) (g : G) (R : Value → G → Prop) : Prop :=
  ∀ J : G → Prop,
  (∀ g1 : G, (∃ xa : Option Addr, ∃ xl : Nat, ∃ xc : Nat, ∃ wo1 : World, Sem.run Tryd.prog (convert 9 100 (.string s)) g1.w = .ok (.slice xa xl xc) wo1 ∧ ∃ g2 : G, g2.w = wo1 ∧ Stp g.w.heap.size nobody g1 g2 ∧ ∃ Inv : Nat → Int → G → Prop, ((∃ m0 : Nat, Inv m0 (0 : Int) g2)) ∧
  ∀ m : Nat, ∀ v_1 : Int, ∀ g3 : G, Le g2 g3 → Inv m v_1 g3 →
  ifB (ltI v_1 ((xl : Nat) : Int))
  ((0 ≤ v_1 ∧ v_1 < ((xl : Nat) : Int)) ∧ derefP xa fun ad => ∃ c : Int, g3.w.cell? (Addr.add ad (Int.toNat v_1 * 1)) = some (.int .u8 c) ∧ (CallsP Tryd.prog 66 #[(.int .u8 c)] g3 fun v g4 =>
  ∃ k : Int, v = (.int .i64 k) ∧ ifB (eqI k (0 : Int))
  (∀ g5 : G, Ex g4 g5 →
  R (.bool false) g5)
  (ifB (eqI k (5 : Int))
  (∀ g6 : G, Ex g4 g6 →
  R (.bool false) g6)
  (InI64 (v_1 + (1 : Int)) ∧ (∃ m_1 : Nat, m_1 < m ∧ Inv m_1 (v_1 + (1 : Int)) g4)))))
  (∀ g7 : G, Ex g3 g7 →
  R (.bool true) g7)) → J g1) →
  ifB (strEq s (bs []))
  (∀ g8 : G, Ex g g8 →
  R (.bool false) g8)
  (ifB (ltI (24 : Int) ((s.size : Nat) : Int))
  (∀ g9 : G, Ex g g9 →
  R (.bool false) g9)
  (∃ b : UInt8, (0 ≤ (0 : Int) ∧ s[Int.toNat (0 : Int)]? = some b) ∧ (CallsP Tryd.prog 66 #[(.int .u8 ((b.toNat : Nat) : Int))] g fun v g10 =>
  ∃ x : Int, v = (.int .i64 x) ∧ ifB (!eqI x first)
  (∀ g11 : G, Ex g10 g11 →
  R (.bool false) g11)
  (J g10))))
theorem F61_eq (s : ByteArray) (first : Int) (g : G) (R : Value → G → Prop) : fnG cfg61 38 [.tmp 4] c61 an61 [(.string s), (.int .i64 first)] g nobody R = F61 s first g R := by kernel_rfl
theorem call61 (s : ByteArray) (first : Int) (g : G) (R : Value → G → Prop) (hF : F61 s first g R) : CallsG Tryd.prog 61 #[(.string s), (.int .i64 first)] g nobody R :=
  fn_soundG (c := cfg61) TTok FNSok mixed Tryd.func61 (show Tryd.f61.body = some c61 by kernel_rfl) (show Tryd.f61.ntmps = 38 by kernel_rfl) (show Tryd.f61.results.toList = [.tmp 4] by kernel_rfl) rfl ((F61_eq s first g R ).mpr hF)

/- 62 pilaster/syntax.belongs -/
noncomputable def c62 : Code := match Tryd.f62.body with
  | some c => c
  | none => .skip
noncomputable def cfg62 : Cfg := ⟨Tryd.prog, TT, FNS, [3], [(3, 3), (8, 3), (12, 3), (20, 3)], [], TCH, false, false, none, PNF, false⟩
def an62 : AnnG := (.seq .leaf (.join ⟨[], [], []⟩ (.seq .leaf (.cond (.seq .leaf .leaf) .leaf)) (.seq .leaf .leaf)))
def F62 (cat : Int) (t0 : Int) (t1 : Int) (t2 : ByteArray) (t3a : Option Addr) (t3l : Nat) (t3c : Nat) (t4a : Option Addr) (t4l : Nat) (t4c : Nat) (g : G) (R : Value → G → Prop) : Prop :=
  ∀ J : G → Prop,
  (∀ g1 : G, (ifB (!eqI cat (0 : Int))
  ((CallsP Tryd.prog 67 #[(.int .i64 t0)] g1 fun v g2 =>
  ∃ x : Int, v = (.int .i64 x) ∧ ∀ g3 : G, Ex g2 g3 →
  R (.bool (eqI x cat)) g3))
  (∀ g4 : G, Ex g1 g4 →
  R (.bool false) g4)) → J g1) →
  ifB (eqI cat (5 : Int))
  (ifB (eqI t0 (43 : Int))
  (∀ g5 : G, Ex g g5 →
  R (.bool true) g5)
  (ifB (eqI t0 (44 : Int))
  (∀ g6 : G, Ex g g6 →
  R (.bool true) g6)
  (∀ g7 : G, Ex g g7 →
  J g7)))
  (∀ g8 : G, Ex g g8 →
  J g8)
theorem F62_eq (cat : Int) (t0 : Int) (t1 : Int) (t2 : ByteArray) (t3a : Option Addr) (t3l : Nat) (t3c : Nat) (t4a : Option Addr) (t4l : Nat) (t4c : Nat) (g : G) (R : Value → G → Prop) : fnG cfg62 26 [.tmp 4] c62 an62 [(.int .i64 cat), (.agg ⟨[(.int .i64 t0), (.int .i64 t1), (.string t2), (.slice t3a t3l t3c), (.slice t4a t4l t4c)]⟩)] g nobody R = F62 cat t0 t1 t2 t3a t3l t3c t4a t4l t4c g R := by kernel_rfl
theorem call62 (cat : Int) (t0 : Int) (t1 : Int) (t2 : ByteArray) (t3a : Option Addr) (t3l : Nat) (t3c : Nat) (t4a : Option Addr) (t4l : Nat) (t4c : Nat) (g : G) (R : Value → G → Prop) (hF : F62 cat t0 t1 t2 t3a t3l t3c t4a t4l t4c g R) : CallsG Tryd.prog 62 #[(.int .i64 cat), (.agg ⟨[(.int .i64 t0), (.int .i64 t1), (.string t2), (.slice t3a t3l t3c), (.slice t4a t4l t4c)]⟩)] g nobody R :=
  fn_soundG (c := cfg62) TTok FNSok mixed Tryd.func62 (show Tryd.f62.body = some c62 by kernel_rfl) (show Tryd.f62.ntmps = 26 by kernel_rfl) (show Tryd.f62.results.toList = [.tmp 4] by kernel_rfl) rfl ((F62_eq cat t0 t1 t2 t3a t3l t3c t4a t4l t4c g R ).mpr hF)

/- 63 pilaster/syntax.formed -/
noncomputable def c63 : Code := match Tryd.f63.body with
  | some c => c
  | none => .skip
noncomputable def cfg63 : Cfg := ⟨Tryd.prog, TT, FNS, [1], [(1, 1)], [4], TCH, true, false, none, PNF, false⟩
def an63 : AnnG := (.seq .leaf (.seq .leaf (.seq .leaf (.seq .leaf (.seq .leaf .leaf)))))
def F63 (t0 : Int) (t1 : Int) (t2 : ByteArray) (t3a : Option Addr) (t3l : Nat) (t3c : Nat) (t4a : Option Addr) (t4l : Nat) (t4c : Nat) (g : G) (R : Value → G → Prop) : Prop :=
  ∀ g1 : G, Ex g g1 →
  ∀ g2 : G, NewD g1 g2 3 [(.int .i64 (0 : Int))] →
  stOk g2.w ⟨g1.w.heap.size, 0, none⟩ 1 ∧ ¬ g2.X (Addr.block ⟨g1.w.heap.size, 0, none⟩) ∧ mutAt g2 ⟨g1.w.heap.size, 0, none⟩ 1 ∧ ((Addr.block ⟨g1.w.heap.size, 0, none⟩) < g.w.heap.size → nobody (Addr.block ⟨g1.w.heap.size, 0, none⟩)) ∧ ∀ g3 : G, StG false g2 ⟨g1.w.heap.size, 0, none⟩ [(.int .i64 (0 : Int))] g3 →
  ∀ g4 : G, NewD g3 g4 102 [.nilFunc] →
  stOk g4.w ⟨g3.w.heap.size, 0, none⟩ 1 ∧ ¬ g4.X (Addr.block ⟨g3.w.heap.size, 0, none⟩) ∧ mutAt g4 ⟨g3.w.heap.size, 0, none⟩ 1 ∧ ((Addr.block ⟨g3.w.heap.size, 0, none⟩) < g.w.heap.size → nobody (Addr.block ⟨g3.w.heap.size, 0, none⟩)) ∧ ∀ g5 : G, StG true g4 ⟨g3.w.heap.size, 0, none⟩ [(.func (.func 68) #[] ⟨[(.pointer (some ⟨g1.w.heap.size, 0, none⟩)), (.pointer (some ⟨g3.w.heap.size, 0, none⟩))]⟩)] g5 →
  ∃ walkf : FuncId, ∃ walkc : Array Value, g5.w.cell? ⟨g3.w.heap.size, 0, none⟩ = some (.func (.func walkf) #[] walkc) ∧ Enters Tryd.prog walkf ∧ ∃ M1 : Nat → Prop, (∀ b, b < g.w.heap.size → M1 b → nobody b) ∧ (CallsG Tryd.prog walkf ((⟨[(.agg ⟨[(.int .i64 t0), (.int .i64 t1), (.string t2), (.slice t3a t3l t3c), (.slice t4a t4l t4c)]⟩), (.int .i64 (1 : Int)), (.bool false)]⟩ : Array Value) ++ walkc) g5 M1 fun v g6 =>
  ∃ x : Bool, v = (.bool x) ∧ ∀ g7 : G, Ex g6 g7 →
  R (.bool x) g7)
theorem F63_eq (t0 : Int) (t1 : Int) (t2 : ByteArray) (t3a : Option Addr) (t3l : Nat) (t3c : Nat) (t4a : Option Addr) (t4l : Nat) (t4c : Nat) (g : G) (R : Value → G → Prop) : fnG cfg63 9 [.tmp 2] c63 an63 [(.agg ⟨[(.int .i64 t0), (.int .i64 t1), (.string t2), (.slice t3a t3l t3c), (.slice t4a t4l t4c)]⟩)] g nobody R = F63 t0 t1 t2 t3a t3l t3c t4a t4l t4c g R := by kernel_rfl
theorem call63 (t0 : Int) (t1 : Int) (t2 : ByteArray) (t3a : Option Addr) (t3l : Nat) (t3c : Nat) (t4a : Option Addr) (t4l : Nat) (t4c : Nat) (g : G) (R : Value → G → Prop) (hF : F63 t0 t1 t2 t3a t3l t3c t4a t4l t4c g R) : CallsG Tryd.prog 63 #[(.agg ⟨[(.int .i64 t0), (.int .i64 t1), (.string t2), (.slice t3a t3l t3c), (.slice t4a t4l t4c)]⟩)] g nobody R :=
  fn_soundG (c := cfg63) TTok FNSok mixed Tryd.func63 (show Tryd.f63.body = some c63 by kernel_rfl) (show Tryd.f63.ntmps = 9 by kernel_rfl) (show Tryd.f63.results.toList = [.tmp 2] by kernel_rfl) rfl ((F63_eq t0 t1 t2 t3a t3l t3c t4a t4l t4c g R ).mpr hF)

/- 65 slices.order2Ordered[string] -/
/- 66 pilaster/ident.of -/
noncomputable def c66 : Code := match Tryd.f66.body with
  | some c => c
  | none => .skip
noncomputable def cfg66 : Cfg := ⟨Tryd.prog, TT, FNS, [], [], [], TCH, false, false, none, PNF, false⟩
def an66 : AnnG := (.seq .leaf (.seq (.blk (.join ⟨[(3, .bool)], [], []⟩ .leaf (.cond (.seq .leaf .leaf) (.join ⟨[(10, .bool)], [], []⟩ .leaf (.cond (.seq .leaf .leaf) (.join ⟨[(17, .bool)], [], []⟩ .leaf (.cond (.seq .leaf .leaf) (.seq .leaf (.cond (.seq .leaf .leaf) (.seq .leaf (.cond (.seq .leaf .leaf) .leaf))))))))))) (.seq .leaf .leaf)))
def F66 (c : Int) (g : G) (R : Value → G → Prop) : Prop :=
  ∀ J : Bool → G → Prop,
  (∀ v_1 : Bool, ∀ g1 : G, (ifB v_1
  (∀ g2 : G, Ex g1 g2 →
  R (.int .i64 (1 : Int)) g2)
  (∀ J_1 : Bool → G → Prop,
  (∀ v_2 : Bool, ∀ g3 : G, (ifB v_2
  (∀ g4 : G, Ex g3 g4 →
  R (.int .i64 (2 : Int)) g4)
  (∀ J_2 : Bool → G → Prop,
  (∀ v_3 : Bool, ∀ g5 : G, (ifB v_3
  (∀ g6 : G, Ex g5 g6 →
  R (.int .i64 (3 : Int)) g6)
  (ifB (eqI c (95 : Int))
  (∀ g7 : G, Ex g5 g7 →
  R (.int .i64 (4 : Int)) g7)
  (ifB (eqI c (46 : Int))
  (∀ g8 : G, Ex g5 g8 →
  R (.int .i64 (5 : Int)) g8)
  (∀ g9 : G, Ex g5 g9 →
  R (.int .i64 (0 : Int)) g9)))) → J_2 v_3 g5) →
  ifB (leI (48 : Int) c)
  (J_2 (leI c (57 : Int)) g3)
  (J_2 false g3))) → J_1 v_2 g3) →
  ifB (leI (65 : Int) c)
  (J_1 (leI c (90 : Int)) g1)
  (J_1 false g1))) → J v_1 g1) →
  ifB (leI (97 : Int) c)
  (J (leI c (122 : Int)) g)
  (J false g)
theorem F66_eq (c : Int) (g : G) (R : Value → G → Prop) : fnG cfg66 30 [.tmp 2] c66 an66 [(.int .u8 c)] g nobody R = F66 c g R := by kernel_rfl
theorem call66 (c : Int) (g : G) (R : Value → G → Prop) (hF : F66 c g R) : CallsG Tryd.prog 66 #[(.int .u8 c)] g nobody R :=
  fn_soundG (c := cfg66) TTok FNSok mixed Tryd.func66 (show Tryd.f66.body = some c66 by kernel_rfl) (show Tryd.f66.ntmps = 30 by kernel_rfl) (show Tryd.f66.results.toList = [.tmp 2] by kernel_rfl) rfl ((F66_eq c g R ).mpr hF)

/- 67 pilaster/syntax.Category -/
noncomputable def c67 : Code := match Tryd.f67.body with
  | some c => c
  | none => .skip
noncomputable def cfg67 : Cfg := ⟨Tryd.prog, TT, FNS, [], [], [], TCH, false, false, none, PNF, false⟩
def an67 : AnnG := (.seq .leaf (.seq (.seq .leaf (.blk (.join ⟨[(4, .bool)], [], []⟩ (.seq .leaf (.cond .leaf (.seq .leaf (.cond .leaf (.seq .leaf (.cond .leaf (.seq .leaf (.cond .leaf .leaf)))))))) (.cond (.seq .leaf .leaf) (.join ⟨[(10, .bool)], [], []⟩ (.seq .leaf (.cond .leaf (.seq .leaf (.cond .leaf (.seq .leaf (.cond .leaf (.seq .leaf (.cond .leaf .leaf)))))))) (.cond (.seq .leaf .leaf) (.join ⟨[(16, .bool)], [], []⟩ (.seq .leaf (.cond .leaf (.seq .leaf (.cond .leaf (.seq .leaf (.cond .leaf (.seq .leaf (.cond .leaf (.seq .leaf (.cond .leaf (.seq .leaf (.cond .leaf (.seq .leaf (.cond .leaf (.seq .leaf (.cond .leaf (.seq .leaf (.cond .leaf (.seq .leaf (.cond .leaf (.seq .leaf (.cond .leaf (.seq .leaf (.cond .leaf .leaf)))))))))))))))))))))))) (.cond (.seq .leaf .leaf) (.join ⟨[(30, .bool)], [], []⟩ (.seq .leaf (.cond .leaf (.seq .leaf (.cond .leaf (.seq .leaf (.cond .leaf (.seq .leaf (.cond .leaf (.seq .leaf (.cond .leaf (.seq .leaf (.cond .leaf (.seq .leaf (.cond .leaf (.seq .leaf (.cond .leaf .leaf)))))))))))))))) (.cond (.seq .leaf .leaf) (.join ⟨[(40, .bool)], [], []⟩ (.seq .leaf (.cond .leaf (.seq .leaf (.cond .leaf (.seq .leaf (.cond .leaf (.seq .leaf (.cond .leaf (.seq .leaf (.cond .leaf .leaf)))))))))) (.cond (.seq .leaf .leaf) (.join ⟨[(47, .bool)], [], []⟩ (.seq .leaf (.cond .leaf (.seq .leaf (.cond .leaf (.seq .leaf (.cond .leaf .leaf)))))) (.cond (.seq .leaf .leaf) (.join ⟨[(52, .bool)], [], []⟩ (.seq .leaf (.cond .leaf (.seq .leaf (.cond .leaf (.seq .leaf (.cond .leaf (.seq .leaf (.cond .leaf (.seq .leaf (.cond .leaf (.seq .leaf (.cond .leaf (.seq .leaf (.cond .leaf .leaf)))))))))))))) (.cond (.seq .leaf .leaf) .leaf)))))))))))))))) (.seq .leaf .leaf)))
def F67 (op : Int) (g : G) (R : Value → G → Prop) : Prop :=
  ∀ J : Bool → G → Prop,
  (∀ v_1 : Bool, ∀ g1 : G, (ifB v_1
  (∀ g2 : G, Ex g1 g2 →
  R (.int .i64 (1 : Int)) g2)
  (∀ J_1 : Bool → G → Prop,
  (∀ v_2 : Bool, ∀ g3 : G, (ifB v_2
  (∀ g4 : G, Ex g3 g4 →
  R (.int .i64 (2 : Int)) g4)
  (∀ J_2 : Bool → G → Prop,
  (∀ v_3 : Bool, ∀ g5 : G, (ifB v_3
  (∀ g6 : G, Ex g5 g6 →
  R (.int .i64 (3 : Int)) g6)
  (∀ J_3 : Bool → G → Prop,
  (∀ v_4 : Bool, ∀ g7 : G, (ifB v_4
  (∀ g8 : G, Ex g7 g8 →
  R (.int .i64 (4 : Int)) g8)
  (∀ J_4 : Bool → G → Prop,
  (∀ v_5 : Bool, ∀ g9 : G, (ifB v_5
  (∀ g10 : G, Ex g9 g10 →
  R (.int .i64 (5 : Int)) g10)
  (∀ J_5 : Bool → G → Prop,
  (∀ v_6 : Bool, ∀ g11 : G, (ifB v_6
  (∀ g12 : G, Ex g11 g12 →
  R (.int .i64 (6 : Int)) g12)
  (∀ J_6 : Bool → G → Prop,
  (∀ v_7 : Bool, ∀ g13 : G, (ifB v_7
  (∀ g14 : G, Ex g13 g14 →
  R (.int .i64 (7 : Int)) g14)
  (∀ g15 : G, Ex g13 g15 →
  R (.int .i64 (0 : Int)) g15)) → J_6 v_7 g13) →
  ifB (eqI op (81 : Int))
  (J_6 true g11)
  (ifB (eqI op (82 : Int))
  (J_6 true g11)
  (ifB (eqI op (83 : Int))
  (J_6 true g11)
  (ifB (eqI op (84 : Int))
  (J_6 true g11)
  (ifB (eqI op (85 : Int))
  (J_6 true g11)
  (ifB (eqI op (86 : Int))
  (J_6 true g11)
  (ifB (eqI op (87 : Int))
  (J_6 true g11)
  (J_6 (eqI op (88 : Int)) g11))))))))) → J_5 v_6 g11) →
  ifB (eqI op (71 : Int))
  (J_5 true g9)
  (ifB (eqI op (72 : Int))
  (J_5 true g9)
  (ifB (eqI op (73 : Int))
  (J_5 true g9)
  (J_5 (eqI op (74 : Int)) g9))))) → J_4 v_5 g9) →
  ifB (eqI op (61 : Int))
  (J_4 true g7)
  (ifB (eqI op (62 : Int))
  (J_4 true g7)
  (ifB (eqI op (63 : Int))
  (J_4 true g7)
  (ifB (eqI op (64 : Int))
  (J_4 true g7)
  (ifB (eqI op (65 : Int))
  (J_4 true g7)
  (J_4 (eqI op (66 : Int)) g7))))))) → J_3 v_4 g7) →
  ifB (eqI op (41 : Int))
  (J_3 true g5)
  (ifB (eqI op (42 : Int))
  (J_3 true g5)
  (ifB (eqI op (43 : Int))
  (J_3 true g5)
  (ifB (eqI op (44 : Int))
  (J_3 true g5)
  (ifB (eqI op (46 : Int))
  (J_3 true g5)
  (ifB (eqI op (47 : Int))
  (J_3 true g5)
  (ifB (eqI op (48 : Int))
  (J_3 true g5)
  (ifB (eqI op (49 : Int))
  (J_3 true g5)
  (J_3 (eqI op (50 : Int)) g5)))))))))) → J_2 v_3 g5) →
  ifB (eqI op (21 : Int))
  (J_2 true g3)
  (ifB (eqI op (22 : Int))
  (J_2 true g3)
  (ifB (eqI op (23 : Int))
  (J_2 true g3)
  (ifB (eqI op (24 : Int))
  (J_2 true g3)
  (ifB (eqI op (25 : Int))
  (J_2 true g3)
  (ifB (eqI op (26 : Int))
  (J_2 true g3)
  (ifB (eqI op (27 : Int))
  (J_2 true g3)
  (ifB (eqI op (28 : Int))
  (J_2 true g3)
  (ifB (eqI op (29 : Int))
  (J_2 true g3)
  (ifB (eqI op (31 : Int))
  (J_2 true g3)
  (ifB (eqI op (32 : Int))
  (J_2 true g3)
  (ifB (eqI op (33 : Int))
  (J_2 true g3)
  (J_2 (eqI op (34 : Int)) g3)))))))))))))) → J_1 v_2 g3) →
  ifB (eqI op (11 : Int))
  (J_1 true g1)
  (ifB (eqI op (12 : Int))
  (J_1 true g1)
  (ifB (eqI op (13 : Int))
  (J_1 true g1)
  (ifB (eqI op (14 : Int))
  (J_1 true g1)
  (J_1 (eqI op (15 : Int)) g1)))))) → J v_1 g1) →
  ifB (eqI op (1 : Int))
  (J true g)
  (ifB (eqI op (2 : Int))
  (J true g)
  (ifB (eqI op (3 : Int))
  (J true g)
  (ifB (eqI op (4 : Int))
  (J true g)
  (J (eqI op (5 : Int)) g))))
theorem F67_eq (op : Int) (g : G) (R : Value → G → Prop) : fnG cfg67 61 [.tmp 2] c67 an67 [(.int .i64 op)] g nobody R = F67 op g R := by kernel_rfl
theorem call67 (op : Int) (g : G) (R : Value → G → Prop) (hF : F67 op g R) : CallsG Tryd.prog 67 #[(.int .i64 op)] g nobody R :=
  fn_soundG (c := cfg67) TTok FNSok mixed Tryd.func67 (show Tryd.f67.body = some c67 by kernel_rfl) (show Tryd.f67.ntmps = 61 by kernel_rfl) (show Tryd.f67.results.toList = [.tmp 2] by kernel_rfl) rfl ((F67_eq op g R ).mpr hF)

/- 68 pilaster/syntax.formed$1 -/
noncomputable def c68 : Code := match Tryd.f68.body with
  | some c => c
  | none => .skip
noncomputable def cfg68 : Cfg := ⟨Tryd.prog, TT, FNS, [], [], [5, 6], TCH, false, false, none, PNF, false⟩
def an68 : AnnG := (.seq .leaf (.seq .leaf (.join ⟨[], [], []⟩ (.seq .leaf (.cond (.seq .leaf .leaf) .leaf)) (.seq .leaf .leaf))))
def F68 (t0 : Int) (t1 : Int) (t2 : ByteArray) (t3a : Option Addr) (t3l : Nat) (t3c : Nat) (t4a : Option Addr) (t4l : Nat) (t4c : Nat) (depth : Int) (inWith : Bool) (c0 : Option Addr) (c1 : Value) (g : G) (M : Nat → Prop) (R : Value → G → Prop) : Prop :=
  ∀ g1 : G, NewL g g1 44 ([(.int .i64 t0), (.int .i64 t1), (.string t2), (.slice t3a t3l t3c), (.slice t4a t4l t4c)] : List Value) →
  ∀ g2 : G, NewL g1 g2 3 ([(.int .i64 depth)] : List Value) →
  derefP c0 fun ad => ∃ x : Int, g2.w.cell? ad = some (.int .i64 x) ∧ InI64 (x + (1 : Int)) ∧ derefP c0 fun ad_1 => stOk g2.w ad_1 1 ∧ ¬ g2.X (Addr.block ad_1) ∧ mutAt g2 ad_1 1 ∧ ((Addr.block ad_1) < g.w.heap.size → M (Addr.block ad_1)) ∧ ∀ g3 : G, StG false g2 ad_1 [(.int .i64 (x + (1 : Int)))] g3 →
  ∀ J : G → Prop,
  (∀ g4 : G, (∃ xa : Option Addr, ∃ xl : Nat, ∃ xc : Nat, g4.w.cell? (Addr.add ⟨g.w.heap.size, 0, none⟩ 4) = some (.slice xa xl xc) ∧ ∃ M1 : Nat → Prop, (∀ b, b < g.w.heap.size → M1 b → M b) ∧ (CallsG Tryd.prog 15 #[(.slice xa xl xc), (.func (.func 71) #[] ⟨[c1, (.pointer (some ⟨g1.w.heap.size, 0, none⟩)), (.pointer (some ⟨g.w.heap.size, 0, none⟩))]⟩)] g4 M1 fun v g5 =>
  ∃ x_1 : Bool, v = (.bool x_1) ∧ ∀ g6 : G, Ex g5 g6 →
  R (.bool (!x_1)) g6)) → J g4) →
  derefP c0 fun ad_2 => ∃ x_2 : Int, g3.w.cell? ad_2 = some (.int .i64 x_2) ∧ ifB (ltI (20000 : Int) x_2)
  (∀ g7 : G, Ex g3 g7 →
  R (.bool false) g7)
  (∃ depth_1 : Int, g3.w.cell? ⟨g1.w.heap.size, 0, none⟩ = some (.int .i64 depth_1) ∧ ifB (ltI (400 : Int) depth_1)
  (∀ g8 : G, Ex g3 g8 →
  R (.bool false) g8)
  (∃ t0_1 : Int, ∃ t1_1 : Int, ∃ t2_1 : ByteArray, ∃ t3a_1 : Option Addr, ∃ t3l_1 : Nat, ∃ t3c_1 : Nat, ∃ t4a_1 : Option Addr, ∃ t4l_1 : Nat, ∃ t4c_1 : Nat, g3.w.cell? ⟨g.w.heap.size, 0, none⟩ = some (.int .i64 t0_1) ∧ g3.w.cell? (Addr.add ⟨g.w.heap.size, 0, none⟩ 1) = some (.int .i64 t1_1) ∧ g3.w.cell? (Addr.add ⟨g.w.heap.size, 0, none⟩ 2) = some (.string t2_1) ∧ g3.w.cell? (Addr.add ⟨g.w.heap.size, 0, none⟩ 3) = some (.slice t3a_1 t3l_1 t3c_1) ∧ g3.w.cell? (Addr.add ⟨g.w.heap.size, 0, none⟩ 4) = some (.slice t4a_1 t4l_1 t4c_1) ∧ (CallsP Tryd.prog 69 #[(.agg ⟨[(.int .i64 t0_1), (.int .i64 t1_1), (.string t2_1), (.slice t3a_1 t3l_1 t3c_1), (.slice t4a_1 t4l_1 t4c_1)]⟩), (.bool inWith)] g3 fun v g9 =>
  ∃ x_3 : Bool, v = (.bool x_3) ∧ ifB (!x_3)
  (∀ g10 : G, Ex g9 g10 →
  R (.bool false) g10)
  (∃ t0_2 : Int, ∃ t1_2 : Int, ∃ t2_2 : ByteArray, ∃ t3a_2 : Option Addr, ∃ t3l_2 : Nat, ∃ t3c_2 : Nat, ∃ t4a_2 : Option Addr, ∃ t4l_2 : Nat, ∃ t4c_2 : Nat, g9.w.cell? ⟨g.w.heap.size, 0, none⟩ = some (.int .i64 t0_2) ∧ g9.w.cell? (Addr.add ⟨g.w.heap.size, 0, none⟩ 1) = some (.int .i64 t1_2) ∧ g9.w.cell? (Addr.add ⟨g.w.heap.size, 0, none⟩ 2) = some (.string t2_2) ∧ g9.w.cell? (Addr.add ⟨g.w.heap.size, 0, none⟩ 3) = some (.slice t3a_2 t3l_2 t3c_2) ∧ g9.w.cell? (Addr.add ⟨g.w.heap.size, 0, none⟩ 4) = some (.slice t4a_2 t4l_2 t4c_2) ∧ (CallsP Tryd.prog 70 #[(.agg ⟨[(.int .i64 t0_2), (.int .i64 t1_2), (.string t2_2), (.slice t3a_2 t3l_2 t3c_2), (.slice t4a_2 t4l_2 t4c_2)]⟩)] g9 fun v g11 =>
  ∃ x_4 : Bool, v = (.bool x_4) ∧ ifB (!x_4)
  (∀ g12 : G, Ex g11 g12 →
  R (.bool false) g12)
  (J g11))))))
theorem F68_eq (t0 : Int) (t1 : Int) (t2 : ByteArray) (t3a : Option Addr) (t3l : Nat) (t3c : Nat) (t4a : Option Addr) (t4l : Nat) (t4c : Nat) (depth : Int) (inWith : Bool) (c0 : Option Addr) (c1 : Value) (g : G) (M : Nat → Prop) (R : Value → G → Prop) : fnG cfg68 33 [.tmp 8] c68 an68 [(.agg ⟨[(.int .i64 t0), (.int .i64 t1), (.string t2), (.slice t3a t3l t3c), (.slice t4a t4l t4c)]⟩), (.int .i64 depth), (.bool inWith), (.pointer c0), c1] g M R = F68 t0 t1 t2 t3a t3l t3c t4a t4l t4c depth inWith c0 c1 g M R := by kernel_rfl
theorem call68 (t0 : Int) (t1 : Int) (t2 : ByteArray) (t3a : Option Addr) (t3l : Nat) (t3c : Nat) (t4a : Option Addr) (t4l : Nat) (t4c : Nat) (depth : Int) (inWith : Bool) (c0 : Option Addr) (c1 : Value) (g : G) (M : Nat → Prop) (R : Value → G → Prop) (hF : F68 t0 t1 t2 t3a t3l t3c t4a t4l t4c depth inWith c0 c1 g M R) : CallsG Tryd.prog 68 #[(.agg ⟨[(.int .i64 t0), (.int .i64 t1), (.string t2), (.slice t3a t3l t3c), (.slice t4a t4l t4c)]⟩), (.int .i64 depth), (.bool inWith), (.pointer c0), c1] g M R :=
  fn_soundG (c := cfg68) TTok FNSok mixed Tryd.func68 (show Tryd.f68.body = some c68 by kernel_rfl) (show Tryd.f68.ntmps = 33 by kernel_rfl) (show Tryd.f68.results.toList = [.tmp 8] by kernel_rfl) rfl ((F68_eq t0 t1 t2 t3a t3l t3c t4a t4l t4c depth inWith c0 c1 g M R ).mpr hF)

/- 69 pilaster/syntax.own -/
noncomputable def c69 : Code := match Tryd.f69.body with
  | some c => c
  | none => .skip
noncomputable def cfg69 : Cfg := ⟨Tryd.prog, TT, FNS, [2, 5], [(2, 2), (5, 5), (6, 2), (9, 5), (13, 2), (18, 5), (22, 2), (28, 5), (32, 2), (38, 2), (42, 2), (50, 2), (62, 2), (69, 2), (74, 2), (78, 2), (84, 2), (88, 2), (94, 2), (99, 2), (103, 2), (109, 2), (113, 2), (119, 2), (123, 2), (129, 2), (135, 2), (144, 2), (152, 2), (158, 2), (165, 2), (169, 2), (180, 2), (186, 2), (190, 2), (194, 2)], [], TCH, false, false, none, PNF, false⟩
def an69 : AnnG := (.seq .leaf (.seq .leaf (.join ⟨[], [], []⟩ (.seq .leaf (.cond (.seq .leaf .leaf) .leaf)) (.seq (.seq .leaf (.blk (.seq .leaf (.cond (.seq .leaf .leaf) (.join ⟨[(45, .bool)], [], []⟩ (.seq .leaf (.cond .leaf (.seq .leaf (.cond .leaf (.seq .leaf (.cond .leaf .leaf)))))) (.cond (.seq .leaf .leaf) (.join ⟨[(53, .bool)], [], []⟩ (.seq .leaf (.cond .leaf (.seq .leaf (.cond .leaf (.seq .leaf (.cond .leaf (.seq .leaf (.cond .leaf (.seq .leaf (.cond .leaf (.seq .leaf (.cond .leaf (.seq .leaf (.cond .leaf .leaf)))))))))))))) (.cond (.seq .leaf .leaf) (.join ⟨[(65, .bool)], [], []⟩ (.seq .leaf (.cond .leaf (.seq .leaf (.cond .leaf .leaf)))) (.cond (.seq .leaf .leaf) (.seq .leaf (.cond (.seq .leaf .leaf) (.seq .leaf (.cond (.seq .leaf .leaf) (.seq .leaf (.cond (.seq .leaf .leaf) (.seq .leaf (.cond (.seq .leaf .leaf) (.seq .leaf (.cond (.seq .leaf .leaf) (.seq .leaf (.cond (.seq .leaf .leaf) (.seq .leaf (.cond (.seq .leaf .leaf) (.join ⟨[(162, .bool)], [], []⟩ (.seq .leaf (.cond .leaf .leaf)) (.cond (.seq .leaf .leaf) (.join ⟨[(173, .bool)], [], []⟩ (.seq .leaf (.cond .leaf (.seq .leaf (.cond .leaf (.seq .leaf (.cond .leaf (.seq .leaf (.cond .leaf (.seq .leaf (.cond .leaf .leaf)))))))))) (.cond (.seq .leaf .leaf) (.join ⟨[(183, .bool)], [], []⟩ (.seq .leaf (.cond .leaf .leaf)) (.cond (.seq .leaf .leaf) .leaf)))))))))))))))))))))))))))))) (.seq .leaf .leaf)))))
def F69 (t0 : Int) (t1 : Int) (t2 : ByteArray) (t3a : Option Addr) (t3l : Nat) (t3c : Nat) (t4a : Option Addr) (t4l : Nat) (t4c : Nat) (inWith : Bool) (g : G) (R : Value → G → Prop) : Prop :=
  ∀ g1 : G, Ex g g1 →
  (CallsP Tryd.prog 72 #[(.int .i64 t0)] g1 fun v g2 =>
  ∃ x0 : Bool, ∃ x1 : Bool, ∃ x2 : Bool, v = (.agg ⟨[(.bool x0), (.bool x1), (.bool x2)]⟩) ∧ ∀ J : G → Prop,
  (∀ g3 : G, (ifB (eqI t0 (1 : Int))
  ((CallsP Tryd.prog 73 #[(.string t2)] g3 fun v g4 =>
  ∃ x : Bool, v = (.bool x) ∧ ∀ g5 : G, Ex g4 g5 →
  R (.bool x) g5))
  (∀ J_1 : Bool → G → Prop,
  (∀ v_1 : Bool, ∀ g6 : G, (ifB v_1
  ((CallsP Tryd.prog 74 #[(.slice t3a t3l t3c), (.bool true)] g6 fun v g7 =>
  ∃ x_1 : Bool, v = (.bool x_1) ∧ ∀ g8 : G, Ex g7 g8 →
  R (.bool x_1) g8))
  (∀ J_2 : Bool → G → Prop,
  (∀ v_2 : Bool, ∀ g9 : G, (ifB v_2
  ((CallsP Tryd.prog 74 #[(.slice t3a t3l t3c), (.bool false)] g9 fun v g10 =>
  ∃ x_2 : Bool, v = (.bool x_2) ∧ ∀ g11 : G, Ex g10 g11 →
  R (.bool x_2) g11))
  (∀ J_3 : Bool → G → Prop,
  (∀ v_3 : Bool, ∀ g12 : G, (ifB v_3
  ((CallsP Tryd.prog 75 #[(.string t2)] g12 fun v g13 =>
  ∃ x_3 : Bool, v = (.bool x_3) ∧ ∀ g14 : G, Ex g13 g14 →
  R (.bool x_3) g14))
  (ifB (eqI t0 (13 : Int))
  (ifB (leI (-4503599627370496 : Int) t1)
  (∀ g15 : G, Ex g12 g15 →
  R (.bool (leI t1 (4503599627370496 : Int))) g15)
  (∀ g16 : G, Ex g12 g16 →
  R (.bool false) g16))
  (ifB (eqI t0 (21 : Int))
  (ifB (leI (0 : Int) t1)
  (∀ g17 : G, Ex g12 g17 →
  R (.bool (leI t1 (4503599627370496 : Int))) g17)
  (∀ g18 : G, Ex g12 g18 →
  R (.bool false) g18))
  (ifB (eqI t0 (22 : Int))
  ((CallsP Tryd.prog 76 #[(.string t2)] g12 fun v g19 =>
  ∃ x_4 : Bool, v = (.bool x_4) ∧ ∀ g20 : G, Ex g19 g20 →
  R (.bool x_4) g20))
  (ifB (eqI t0 (25 : Int))
  (ifB (strEq t2 (bs []))
  (∀ g21 : G, Ex g12 g21 →
  R (.bool true) g21)
  ((CallsP Tryd.prog 75 #[(.string t2)] g12 fun v g22 =>
  ∃ x_5 : Bool, v = (.bool x_5) ∧ ∀ g23 : G, Ex g22 g23 →
  R (.bool x_5) g23)))
  (ifB (eqI t0 (32 : Int))
  (ifB (leI (1 : Int) t1)
  (∀ g24 : G, Ex g12 g24 →
  R (.bool (leI t1 (12 : Int))) g24)
  (∀ g25 : G, Ex g12 g25 →
  R (.bool false) g25))
  (ifB (eqI t0 (42 : Int))
  ((CallsP Tryd.prog 75 #[(.string t2)] g12 fun v g26 =>
  ∃ x_6 : Bool, v = (.bool x_6) ∧ ifB x_6
  (ifB (leI (1 : Int) ((t3l : Nat) : Int))
  (ifB (leI ((t3l : Nat) : Int) (9 : Int))
  ((CallsP Tryd.prog 11 #[(.slice t3a t3l t3c), (.func (.func 77) #[] #[])] g26 fun v g27 =>
  ∃ x_7 : Bool, v = (.bool x_7) ∧ ∀ g28 : G, Ex g27 g28 →
  R (.bool (!x_7)) g28))
  (∀ g29 : G, Ex g26 g29 →
  R (.bool false) g29))
  (∀ g30 : G, Ex g26 g30 →
  R (.bool false) g30))
  (∀ g31 : G, Ex g26 g31 →
  R (.bool false) g31)))
  (ifB (eqI t0 (43 : Int))
  (ifB inWith
  (ifB (strEq t2 (bs []))
  ((CallsP Tryd.prog 78 #[(.slice t3a t3l t3c)] g12 fun v g32 =>
  ∃ x_8 : Bool, v = (.bool x_8) ∧ ∀ g33 : G, Ex g32 g33 →
  R (.bool x_8) g33))
  (ifB (!inWith)
  ((CallsP Tryd.prog 75 #[(.string t2)] g12 fun v g34 =>
  ∃ x_9 : Bool, v = (.bool x_9) ∧ ifB x_9
  ((CallsP Tryd.prog 78 #[(.slice t3a t3l t3c)] g34 fun v g35 =>
  ∃ x_10 : Bool, v = (.bool x_10) ∧ ∀ g36 : G, Ex g35 g36 →
  R (.bool x_10) g36))
  (∀ g37 : G, Ex g34 g37 →
  R (.bool false) g37)))
  (∀ g38 : G, Ex g12 g38 →
  R (.bool false) g38)))
  (ifB (!inWith)
  ((CallsP Tryd.prog 75 #[(.string t2)] g12 fun v g39 =>
  ∃ x_11 : Bool, v = (.bool x_11) ∧ ifB x_11
  ((CallsP Tryd.prog 78 #[(.slice t3a t3l t3c)] g39 fun v g40 =>
  ∃ x_12 : Bool, v = (.bool x_12) ∧ ∀ g41 : G, Ex g40 g41 →
  R (.bool x_12) g41))
  (∀ g42 : G, Ex g39 g42 →
  R (.bool false) g42)))
  (∀ g43 : G, Ex g12 g43 →
  R (.bool false) g43)))
  (∀ J_4 : Bool → G → Prop,
  (∀ v_4 : Bool, ∀ g44 : G, (ifB v_4
  ((CallsP Tryd.prog 75 #[(.string t2)] g44 fun v g45 =>
  ∃ x_13 : Bool, v = (.bool x_13) ∧ ifB x_13
  ((CallsP Tryd.prog 78 #[(.slice t3a t3l t3c)] g45 fun v g46 =>
  ∃ x_14 : Bool, v = (.bool x_14) ∧ ∀ g47 : G, Ex g46 g47 →
  R (.bool x_14) g47))
  (∀ g48 : G, Ex g45 g48 →
  R (.bool false) g48)))
  (∀ J_5 : Bool → G → Prop,
  (∀ v_5 : Bool, ∀ g49 : G, (ifB v_5
  ((CallsP Tryd.prog 52 #[(.string t2)] g49 fun v g50 =>
  ∃ x_15 : Bool, v = (.bool x_15) ∧ ∀ g51 : G, Ex g50 g51 →
  R (.bool x_15) g51))
  (∀ J_6 : Bool → G → Prop,
  (∀ v_6 : Bool, ∀ g52 : G, (ifB v_6
  ((CallsP Tryd.prog 52 #[(.string t2)] g52 fun v g53 =>
  ∃ x_16 : Bool, v = (.bool x_16) ∧ ifB x_16
  (ifB (eqI t1 (0 : Int))
  (∀ g54 : G, Ex g53 g54 →
  R (.bool true) g54)
  (∀ g55 : G, Ex g53 g55 →
  R (.bool (eqI t1 (1 : Int))) g55))
  (∀ g56 : G, Ex g53 g56 →
  R (.bool false) g56)))
  (∀ g57 : G, Ex g52 g57 →
  R (.bool true) g57)) → J_6 v_6 g52) →
  ifB (eqI t0 (73 : Int))
  (J_6 true g49)
  (J_6 (eqI t0 (83 : Int)) g49))) → J_5 v_5 g49) →
  ifB (eqI t0 (45 : Int))
  (J_5 true g44)
  (ifB (eqI t0 (46 : Int))
  (J_5 true g44)
  (ifB (eqI t0 (47 : Int))
  (J_5 true g44)
  (ifB (eqI t0 (50 : Int))
  (J_5 true g44)
  (ifB (eqI t0 (63 : Int))
  (J_5 true g44)
  (J_5 (eqI t0 (64 : Int)) g44))))))) → J_4 v_4 g44) →
  ifB (eqI t0 (44 : Int))
  (J_4 true g12)
  (J_4 (eqI t0 (62 : Int)) g12)))))))))) → J_3 v_3 g12) →
  ifB (eqI t0 (12 : Int))
  (J_3 true g9)
  (ifB (eqI t0 (41 : Int))
  (J_3 true g9)
  (J_3 (eqI t0 (61 : Int)) g9)))) → J_2 v_2 g9) →
  ifB (eqI t0 (5 : Int))
  (J_2 true g6)
  (ifB (eqI t0 (14 : Int))
  (J_2 true g6)
  (ifB (eqI t0 (24 : Int))
  (J_2 true g6)
  (ifB (eqI t0 (34 : Int))
  (J_2 true g6)
  (ifB (eqI t0 (48 : Int))
  (J_2 true g6)
  (ifB (eqI t0 (49 : Int))
  (J_2 true g6)
  (ifB (eqI t0 (72 : Int))
  (J_2 true g6)
  (J_2 (eqI t0 (82 : Int)) g6))))))))) → J_1 v_1 g6) →
  ifB (eqI t0 (2 : Int))
  (J_1 true g3)
  (ifB (eqI t0 (23 : Int))
  (J_1 true g3)
  (ifB (eqI t0 (66 : Int))
  (J_1 true g3)
  (J_1 (eqI t0 (74 : Int)) g3))))) → J g3) →
  ifB (!x0)
  (ifB (!eqI t1 (0 : Int))
  (∀ g58 : G, Ex g2 g58 →
  R (.bool false) g58)
  (ifB (!x1)
  (ifB (!strEq t2 (bs []))
  (∀ g59 : G, Ex g2 g59 →
  R (.bool false) g59)
  (ifB (!x2)
  (ifB (ltI (0 : Int) ((t3l : Nat) : Int))
  (∀ g60 : G, Ex g2 g60 →
  R (.bool false) g60)
  (∀ g61 : G, Ex g2 g61 →
  J g61))
  (∀ g62 : G, Ex g2 g62 →
  J g62)))
  (ifB (!x2)
  (ifB (ltI (0 : Int) ((t3l : Nat) : Int))
  (∀ g63 : G, Ex g2 g63 →
  R (.bool false) g63)
  (∀ g64 : G, Ex g2 g64 →
  J g64))
  (∀ g65 : G, Ex g2 g65 →
  J g65))))
  (ifB (!x1)
  (ifB (!strEq t2 (bs []))
  (∀ g66 : G, Ex g2 g66 →
  R (.bool false) g66)
  (ifB (!x2)
  (ifB (ltI (0 : Int) ((t3l : Nat) : Int))
  (∀ g67 : G, Ex g2 g67 →
  R (.bool false) g67)
  (∀ g68 : G, Ex g2 g68 →
  J g68))
  (∀ g69 : G, Ex g2 g69 →
  J g69)))
  (ifB (!x2)
  (ifB (ltI (0 : Int) ((t3l : Nat) : Int))
  (∀ g70 : G, Ex g2 g70 →
  R (.bool false) g70)
  (∀ g71 : G, Ex g2 g71 →
  J g71))
  (∀ g72 : G, Ex g2 g72 →
  J g72))))
theorem F69_eq (t0 : Int) (t1 : Int) (t2 : ByteArray) (t3a : Option Addr) (t3l : Nat) (t3c : Nat) (t4a : Option Addr) (t4l : Nat) (t4c : Nat) (inWith : Bool) (g : G) (R : Value → G → Prop) : fnG cfg69 199 [.tmp 4] c69 an69 [(.agg ⟨[(.int .i64 t0), (.int .i64 t1), (.string t2), (.slice t3a t3l t3c), (.slice t4a t4l t4c)]⟩), (.bool inWith)] g nobody R = F69 t0 t1 t2 t3a t3l t3c t4a t4l t4c inWith g R := by kernel_rfl
theorem call69 (t0 : Int) (t1 : Int) (t2 : ByteArray) (t3a : Option Addr) (t3l : Nat) (t3c : Nat) (t4a : Option Addr) (t4l : Nat) (t4c : Nat) (inWith : Bool) (g : G) (R : Value → G → Prop) (hF : F69 t0 t1 t2 t3a t3l t3c t4a t4l t4c inWith g R) : CallsG Tryd.prog 69 #[(.agg ⟨[(.int .i64 t0), (.int .i64 t1), (.string t2), (.slice t3a t3l t3c), (.slice t4a t4l t4c)]⟩), (.bool inWith)] g nobody R :=
  fn_soundG (c := cfg69) TTok FNSok mixed Tryd.func69 (show Tryd.f69.body = some c69 by kernel_rfl) (show Tryd.f69.ntmps = 199 by kernel_rfl) (show Tryd.f69.results.toList = [.tmp 4] by kernel_rfl) rfl ((F69_eq t0 t1 t2 t3a t3l t3c t4a t4l t4c inWith g R ).mpr hF)

/- 70 pilaster/syntax.shape -/
noncomputable def c70 : Code := match Tryd.f70.body with
  | some c => c
  | none => .skip
noncomputable def cfg70 : Cfg := ⟨Tryd.prog, TT, FNS, [1], [(1, 1), (4, 1), (7, 1), (28, 1), (38, 1), (43, 1), (51, 1), (72, 1), (86, 1), (93, 1), (109, 1), (118, 1), (128, 1), (147, 1), (163, 1), (169, 1), (175, 1), (197, 1), (204, 1), (215, 1), (221, 1), (231, 1), (245, 1), (252, 1), (260, 1), (285, 1), (294, 1)], [], TCH, false, false, none, PNF, false⟩
def an70 : AnnG := (.seq .leaf (.seq .leaf (.seq (.seq .leaf (.blk (.join ⟨[(9, .bool)], [], []⟩ (.seq .leaf (.cond .leaf (.seq .leaf (.cond .leaf (.seq .leaf (.cond .leaf (.seq .leaf (.cond .leaf (.seq .leaf (.cond .leaf (.seq .leaf (.cond .leaf (.seq .leaf (.cond .leaf (.seq .leaf (.cond .leaf (.seq .leaf (.cond .leaf (.seq .leaf (.cond .leaf (.seq .leaf (.cond .leaf (.seq .leaf (.cond .leaf (.seq .leaf (.cond .leaf .leaf)))))))))))))))))))))))))) (.cond (.seq .leaf .leaf) (.seq .leaf (.cond (.seq .leaf .leaf) (.seq .leaf (.cond (.seq .leaf .leaf) (.seq .leaf (.cond (.seq .leaf .leaf) (.seq .leaf (.cond (.seq .leaf .leaf) (.seq .leaf (.cond (.seq .leaf .leaf) (.join ⟨[(55, .bool)], [], []⟩ (.seq .leaf (.cond .leaf (.seq .leaf (.cond .leaf .leaf)))) (.cond (.seq .leaf .leaf) (.seq .leaf (.cond (.seq .leaf .leaf) (.seq .leaf (.cond (.seq .leaf .leaf) (.seq .leaf (.cond (.seq .leaf .leaf) (.seq .leaf (.cond (.seq .leaf .leaf) (.seq .leaf (.cond (.seq .leaf .leaf) (.seq .leaf (.cond (.seq .leaf .leaf) (.seq .leaf (.cond (.seq (.seq .leaf (.cond (.seq .leaf .leaf) .leaf)) (.seq .leaf .leaf)) (.seq .leaf (.cond (.seq .leaf .leaf) (.seq .leaf (.cond (.seq .leaf .leaf) (.join ⟨[(152, .bool)], [], []⟩ (.seq .leaf (.cond .leaf .leaf)) (.cond (.seq .leaf .leaf) (.seq .leaf (.cond (.seq .leaf .leaf) (.seq .leaf (.cond (.seq .leaf .leaf) (.seq .leaf (.cond (.seq .leaf .leaf) (.join ⟨[(183, .bool)], [], []⟩ (.seq .leaf (.cond .leaf (.seq .leaf (.cond .leaf (.seq .leaf (.cond .leaf .leaf)))))) (.cond (.seq .leaf .leaf) (.join ⟨[(191, .bool)], [], []⟩ (.seq .leaf (.cond .leaf .leaf)) (.cond (.seq .leaf .leaf) (.seq .leaf (.cond (.seq .leaf .leaf) (.seq .leaf (.cond (.seq .leaf .leaf) (.seq .leaf (.cond (.seq .leaf .leaf) (.seq .leaf (.cond (.seq .leaf .leaf) (.seq .leaf (.cond (.seq .leaf .leaf) (.seq .leaf (.cond (.seq .leaf .leaf) (.seq .leaf (.cond (.seq .leaf .leaf) (.join ⟨[(274, .bool)], [], []⟩ (.seq .leaf (.cond .leaf .leaf)) (.cond (.seq .leaf .leaf) (.seq .leaf (.cond (.seq .leaf .leaf) .leaf)))))))))))))))))))))))))))))))))))))))))))))))))))))))))))))))) (.seq .leaf .leaf))))
def F70 (t0 : Int) (t1 : Int) (t2 : ByteArray) (t3a : Option Addr) (t3l : Nat) (t3c : Nat) (t4a : Option Addr) (t4l : Nat) (t4c : Nat) (g : G) (R : Value → G → Prop) : Prop :=
  ∀ J : Bool → G → Prop,
  (∀ v_1 : Bool, ∀ g1 : G, (ifB v_1
  (∀ g2 : G, Ex g1 g2 →
  R (.bool (eqI ((t4l : Nat) : Int) (0 : Int))) g2)
  (ifB (eqI t0 (2 : Int))
  ((CallsP Tryd.prog 79 #[(.slice t4a t4l t4c), (.int .i64 (1 : Int)), (.int .i64 (0 : Int)), (.int .i64 (4 : Int))] g1 fun v g3 =>
  ∃ x : Bool, v = (.bool x) ∧ ∀ g4 : G, Ex g3 g4 →
  R (.bool x) g4))
  (ifB (eqI t0 (3 : Int))
  (∀ g5 : G, NewL g1 g5 3 [(.int .i64 (1 : Int)), (.int .i64 (1 : Int))] →
  (CallsP Tryd.prog 80 #[(.agg ⟨[(.int .i64 t0), (.int .i64 t1), (.string t2), (.slice t3a t3l t3c), (.slice t4a t4l t4c)]⟩), (.slice (some ⟨g1.w.heap.size, 0, none⟩) 2 2)] g5 fun v g6 =>
  ∃ x_1 : Bool, v = (.bool x_1) ∧ ∀ g7 : G, Ex g6 g7 →
  R (.bool x_1) g7))
  (ifB (eqI t0 (4 : Int))
  ((CallsP Tryd.prog 79 #[(.slice t4a t4l t4c), (.int .i64 (1 : Int)), (.int .i64 (2 : Int)), (.int .i64 (9 : Int))] g1 fun v g8 =>
  ∃ x_2 : Bool, v = (.bool x_2) ∧ ∀ g9 : G, Ex g8 g9 →
  R (.bool x_2) g9))
  (ifB (eqI t0 (14 : Int))
  ((CallsP Tryd.prog 79 #[(.slice t4a t4l t4c), (.int .i64 (2 : Int)), (.int .i64 (0 : Int)), (.int .i64 (1 : Int))] g1 fun v g10 =>
  ∃ x_3 : Bool, v = (.bool x_3) ∧ ∀ g11 : G, Ex g10 g11 →
  R (.bool x_3) g11))
  (ifB (eqI t0 (15 : Int))
  (ifB (!eqI ((t4l : Nat) : Int) (1 : Int))
  ((CallsP Tryd.prog 79 #[(.slice t4a t4l t4c), (.int .i64 (2 : Int)), (.int .i64 (0 : Int)), (.int .i64 (9 : Int))] g1 fun v g12 =>
  ∃ x_4 : Bool, v = (.bool x_4) ∧ ∀ g13 : G, Ex g12 g13 →
  R (.bool x_4) g13))
  (∀ g14 : G, Ex g1 g14 →
  R (.bool false) g14))
  (∀ J_1 : Bool → G → Prop,
  (∀ v_2 : Bool, ∀ g15 : G, (ifB v_2
  (∀ g16 : G, NewL g15 g16 3 [(.int .i64 (3 : Int))] →
  (CallsP Tryd.prog 80 #[(.agg ⟨[(.int .i64 t0), (.int .i64 t1), (.string t2), (.slice t3a t3l t3c), (.slice t4a t4l t4c)]⟩), (.slice (some ⟨g15.w.heap.size, 0, none⟩) 1 1)] g16 fun v g17 =>
  ∃ x_5 : Bool, v = (.bool x_5) ∧ ∀ g18 : G, Ex g17 g18 →
  R (.bool x_5) g18))
  (ifB (eqI t0 (26 : Int))
  (∀ g19 : G, NewL g15 g19 3 [(.int .i64 (3 : Int)), (.int .i64 (3 : Int))] →
  (CallsP Tryd.prog 80 #[(.agg ⟨[(.int .i64 t0), (.int .i64 t1), (.string t2), (.slice t3a t3l t3c), (.slice t4a t4l t4c)]⟩), (.slice (some ⟨g15.w.heap.size, 0, none⟩) 2 2)] g19 fun v g20 =>
  ∃ x_6 : Bool, v = (.bool x_6) ∧ ∀ g21 : G, Ex g20 g21 →
  R (.bool x_6) g21))
  (ifB (eqI t0 (27 : Int))
  (ifB (!eqI ((t4l : Nat) : Int) (1 : Int))
  ((CallsP Tryd.prog 79 #[(.slice t4a t4l t4c), (.int .i64 (3 : Int)), (.int .i64 (0 : Int)), (.int .i64 (9 : Int))] g15 fun v g22 =>
  ∃ x_7 : Bool, v = (.bool x_7) ∧ ∀ g23 : G, Ex g22 g23 →
  R (.bool x_7) g23))
  (∀ g24 : G, Ex g15 g24 →
  R (.bool false) g24))
  (ifB (eqI t0 (28 : Int))
  (∀ g25 : G, NewL g15 g25 3 [(.int .i64 (3 : Int)), (.int .i64 (3 : Int)), (.int .i64 (3 : Int))] →
  (CallsP Tryd.prog 80 #[(.agg ⟨[(.int .i64 t0), (.int .i64 t1), (.string t2), (.slice t3a t3l t3c), (.slice t4a t4l t4c)]⟩), (.slice (some ⟨g15.w.heap.size, 0, none⟩) 3 3)] g25 fun v g26 =>
  ∃ x_8 : Bool, v = (.bool x_8) ∧ ∀ g27 : G, Ex g26 g27 →
  R (.bool x_8) g27))
  (ifB (eqI t0 (29 : Int))
  (ifB (leI (2 : Int) ((t4l : Nat) : Int))
  ((0 ≤ (0 : Int) ∧ (0 : Int) < ((t4l : Nat) : Int)) ∧ derefP t4a fun ad => ∃ x0 : Int, ∃ x1 : Int, ∃ x2 : ByteArray, ∃ x3a : Option Addr, ∃ x3l : Nat, ∃ x3c : Nat, ∃ x4a : Option Addr, ∃ x4l : Nat, ∃ x4c : Nat, g15.w.cell? (Addr.add ad (Int.toNat (0 : Int) * 5)) = some (.int .i64 x0) ∧ g15.w.cell? (Addr.add (Addr.add ad (Int.toNat (0 : Int) * 5)) 1) = some (.int .i64 x1) ∧ g15.w.cell? (Addr.add (Addr.add ad (Int.toNat (0 : Int) * 5)) 2) = some (.string x2) ∧ g15.w.cell? (Addr.add (Addr.add ad (Int.toNat (0 : Int) * 5)) 3) = some (.slice x3a x3l x3c) ∧ g15.w.cell? (Addr.add (Addr.add ad (Int.toNat (0 : Int) * 5)) 4) = some (.slice x4a x4l x4c) ∧ (CallsP Tryd.prog 62 #[(.int .i64 (3 : Int)), (.agg ⟨[(.int .i64 x0), (.int .i64 x1), (.string x2), (.slice x3a x3l x3c), (.slice x4a x4l x4c)]⟩)] g15 fun v g28 =>
  ∃ x_9 : Bool, v = (.bool x_9) ∧ ifB x_9
  ((0 ≤ (1 : Int) ∧ (1 : Int) ≤ ((t4l : Nat) : Int)) ∧ ∀ g29 : G, NewL g28 g29 3 [(.int .i64 (30 : Int))] →
  (CallsP Tryd.prog 81 #[(.slice (slAddr t4a t4c (Int.toNat (1 : Int)) 5) (t4l - (Int.toNat (1 : Int))) (t4c - (Int.toNat (1 : Int)))), (.slice (some ⟨g28.w.heap.size, 0, none⟩) 1 1)] g29 fun v g30 =>
  ∃ x_10 : Bool, v = (.bool x_10) ∧ ∀ g31 : G, Ex g30 g31 →
  R (.bool x_10) g31))
  (∀ g32 : G, Ex g28 g32 →
  R (.bool false) g32)))
  (∀ g33 : G, Ex g15 g33 →
  R (.bool false) g33))
  (ifB (eqI t0 (30 : Int))
  (∀ g34 : G, NewL g15 g34 3 [(.int .i64 (2 : Int)), (.int .i64 (3 : Int))] →
  (CallsP Tryd.prog 80 #[(.agg ⟨[(.int .i64 t0), (.int .i64 t1), (.string t2), (.slice t3a t3l t3c), (.slice t4a t4l t4c)]⟩), (.slice (some ⟨g15.w.heap.size, 0, none⟩) 2 2)] g34 fun v g35 =>
  ∃ x_11 : Bool, v = (.bool x_11) ∧ ∀ g36 : G, Ex g35 g36 →
  R (.bool x_11) g36))
  (ifB (eqI t0 (31 : Int))
  (ifB (leI (1 : Int) ((t4l : Nat) : Int))
  (InI64 (((t4l : Nat) : Int) - (1 : Int)) ∧ (0 ≤ (((t4l : Nat) : Int) - (1 : Int)) ∧ (((t4l : Nat) : Int) - (1 : Int)) < ((t4l : Nat) : Int)) ∧ derefP t4a fun ad_1 => ∃ x0_1 : Int, ∃ x1_1 : Int, ∃ x2_1 : ByteArray, ∃ x3a_1 : Option Addr, ∃ x3l_1 : Nat, ∃ x3c_1 : Nat, ∃ x4a_1 : Option Addr, ∃ x4l_1 : Nat, ∃ x4c_1 : Nat, g15.w.cell? (Addr.add ad_1 (Int.toNat (((t4l : Nat) : Int) - (1 : Int)) * 5)) = some (.int .i64 x0_1) ∧ g15.w.cell? (Addr.add (Addr.add ad_1 (Int.toNat (((t4l : Nat) : Int) - (1 : Int)) * 5)) 1) = some (.int .i64 x1_1) ∧ g15.w.cell? (Addr.add (Addr.add ad_1 (Int.toNat (((t4l : Nat) : Int) - (1 : Int)) * 5)) 2) = some (.string x2_1) ∧ g15.w.cell? (Addr.add (Addr.add ad_1 (Int.toNat (((t4l : Nat) : Int) - (1 : Int)) * 5)) 3) = some (.slice x3a_1 x3l_1 x3c_1) ∧ g15.w.cell? (Addr.add (Addr.add ad_1 (Int.toNat (((t4l : Nat) : Int) - (1 : Int)) * 5)) 4) = some (.slice x4a_1 x4l_1 x4c_1) ∧ (CallsP Tryd.prog 62 #[(.int .i64 (3 : Int)), (.agg ⟨[(.int .i64 x0_1), (.int .i64 x1_1), (.string x2_1), (.slice x3a_1 x3l_1 x3c_1), (.slice x4a_1 x4l_1 x4c_1)]⟩)] g15 fun v g37 =>
  ∃ x_12 : Bool, v = (.bool x_12) ∧ ifB x_12
  (InI64 (((t4l : Nat) : Int) - (1 : Int)) ∧ (0 ≤ (((t4l : Nat) : Int) - (1 : Int)) ∧ (((t4l : Nat) : Int) - (1 : Int)) ≤ ((t4c : Nat) : Int)) ∧ ∀ g38 : G, NewL g37 g38 3 [(.int .i64 (41 : Int)), (.int .i64 (42 : Int)), (.int .i64 (50 : Int))] →
  (CallsP Tryd.prog 81 #[(.slice (slAddr t4a t4c 0 5) ((Int.toNat (((t4l : Nat) : Int) - (1 : Int))) - 0) (t4c - 0)), (.slice (some ⟨g37.w.heap.size, 0, none⟩) 3 3)] g38 fun v g39 =>
  ∃ x_13 : Bool, v = (.bool x_13) ∧ ∀ g40 : G, Ex g39 g40 →
  R (.bool x_13) g40))
  (∀ g41 : G, Ex g37 g41 →
  R (.bool false) g41)))
  (∀ g42 : G, Ex g15 g42 →
  R (.bool false) g42))
  (ifB (eqI t0 (32 : Int))
  (ifB (eqI t1 (12 : Int))
  (∀ g43 : G, NewL g15 g43 3 [(.int .i64 (3 : Int))] →
  (CallsP Tryd.prog 80 #[(.agg ⟨[(.int .i64 t0), (.int .i64 t1), (.string t2), (.slice t3a t3l t3c), (.slice t4a t4l t4c)]⟩), (.slice (some ⟨g15.w.heap.size, 0, none⟩) 1 1)] g43 fun v g44 =>
  ∃ x_14 : Bool, v = (.bool x_14) ∧ ∀ g45 : G, Ex g44 g45 →
  R (.bool x_14) g45))
  (∀ g46 : G, NewL g15 g46 3 [(.int .i64 (3 : Int)), (.int .i64 (3 : Int))] →
  (CallsP Tryd.prog 80 #[(.agg ⟨[(.int .i64 t0), (.int .i64 t1), (.string t2), (.slice t3a t3l t3c), (.slice t4a t4l t4c)]⟩), (.slice (some ⟨g15.w.heap.size, 0, none⟩) 2 2)] g46 fun v g47 =>
  ∃ x_15 : Bool, v = (.bool x_15) ∧ ∀ g48 : G, Ex g47 g48 →
  R (.bool x_15) g48)))
  (ifB (eqI t0 (33 : Int))
  (∀ g49 : G, NewL g15 g49 3 [(.int .i64 (3 : Int)), (.int .i64 (1 : Int))] →
  (CallsP Tryd.prog 80 #[(.agg ⟨[(.int .i64 t0), (.int .i64 t1), (.string t2), (.slice t3a t3l t3c), (.slice t4a t4l t4c)]⟩), (.slice (some ⟨g15.w.heap.size, 0, none⟩) 2 2)] g49 fun v g50 =>
  ∃ x_16 : Bool, v = (.bool x_16) ∧ ∀ g51 : G, Ex g50 g51 →
  R (.bool x_16) g51))
  (ifB (eqI t0 (34 : Int))
  (ifB (eqI ((t4l : Nat) : Int) (1 : Int))
  (∀ g52 : G, NewL g15 g52 3 [(.int .i64 (72 : Int))] →
  (CallsP Tryd.prog 81 #[(.slice t4a t4l t4c), (.slice (some ⟨g15.w.heap.size, 0, none⟩) 1 1)] g52 fun v g53 =>
  ∃ x_17 : Bool, v = (.bool x_17) ∧ ∀ g54 : G, Ex g53 g54 →
  R (.bool x_17) g54))
  (∀ g55 : G, Ex g15 g55 →
  R (.bool false) g55))
  (∀ J_2 : Bool → G → Prop,
  (∀ v_3 : Bool, ∀ g56 : G, (ifB v_3
  (∀ g57 : G, NewL g56 g57 3 [(.int .i64 (1 : Int))] →
  (CallsP Tryd.prog 80 #[(.agg ⟨[(.int .i64 t0), (.int .i64 t1), (.string t2), (.slice t3a t3l t3c), (.slice t4a t4l t4c)]⟩), (.slice (some ⟨g56.w.heap.size, 0, none⟩) 1 1)] g57 fun v g58 =>
  ∃ x_18 : Bool, v = (.bool x_18) ∧ ∀ g59 : G, Ex g58 g59 →
  R (.bool x_18) g59))
  (ifB (eqI t0 (44 : Int))
  (ifB (leI (1 : Int) ((t4l : Nat) : Int))
  (∀ g60 : G, NewL g56 g60 3 [(.int .i64 (45 : Int))] →
  (CallsP Tryd.prog 81 #[(.slice t4a t4l t4c), (.slice (some ⟨g56.w.heap.size, 0, none⟩) 1 1)] g60 fun v g61 =>
  ∃ x_19 : Bool, v = (.bool x_19) ∧ ifB x_19
  ((CallsP Tryd.prog 82 #[(.slice t4a t4l t4c)] g61 fun v g62 =>
  ∃ x_20 : Bool, v = (.bool x_20) ∧ ∀ g63 : G, Ex g62 g63 →
  R (.bool x_20) g63))
  (∀ g64 : G, Ex g61 g64 →
  R (.bool false) g64)))
  (∀ g65 : G, Ex g56 g65 →
  R (.bool false) g65))
  (ifB (eqI t0 (45 : Int))
  ((CallsP Tryd.prog 79 #[(.slice t4a t4l t4c), (.int .i64 (1 : Int)), (.int .i64 (0 : Int)), (.int .i64 (1 : Int))] g56 fun v g66 =>
  ∃ x_21 : Bool, v = (.bool x_21) ∧ ∀ g67 : G, Ex g66 g67 →
  R (.bool x_21) g67))
  (ifB (eqI t0 (46 : Int))
  (∀ g68 : G, NewL g56 g68 3 [(.int .i64 (7 : Int))] →
  (CallsP Tryd.prog 80 #[(.agg ⟨[(.int .i64 t0), (.int .i64 t1), (.string t2), (.slice t3a t3l t3c), (.slice t4a t4l t4c)]⟩), (.slice (some ⟨g56.w.heap.size, 0, none⟩) 1 1)] g68 fun v g69 =>
  ∃ x_22 : Bool, v = (.bool x_22) ∧ ∀ g70 : G, Ex g69 g70 →
  R (.bool x_22) g70))
  (∀ J_3 : Bool → G → Prop,
  (∀ v_4 : Bool, ∀ g71 : G, (ifB v_4
  (∀ g72 : G, NewL g71 g72 3 [(.int .i64 (6 : Int))] →
  (CallsP Tryd.prog 80 #[(.agg ⟨[(.int .i64 t0), (.int .i64 t1), (.string t2), (.slice t3a t3l t3c), (.slice t4a t4l t4c)]⟩), (.slice (some ⟨g71.w.heap.size, 0, none⟩) 1 1)] g72 fun v g73 =>
  ∃ x_23 : Bool, v = (.bool x_23) ∧ ∀ g74 : G, Ex g73 g74 →
  R (.bool x_23) g74))
  (∀ J_4 : Bool → G → Prop,
  (∀ v_5 : Bool, ∀ g75 : G, (ifB v_5
  (ifB (eqI ((t4l : Nat) : Int) (2 : Int))
  ((0 ≤ (0 : Int) ∧ (0 : Int) < ((t4l : Nat) : Int)) ∧ derefP t4a fun ad_2 => ∃ x0_2 : Int, ∃ x1_2 : Int, ∃ x2_2 : ByteArray, ∃ x3a_2 : Option Addr, ∃ x3l_2 : Nat, ∃ x3c_2 : Nat, ∃ x4a_2 : Option Addr, ∃ x4l_2 : Nat, ∃ x4c_2 : Nat, g75.w.cell? (Addr.add ad_2 (Int.toNat (0 : Int) * 5)) = some (.int .i64 x0_2) ∧ g75.w.cell? (Addr.add (Addr.add ad_2 (Int.toNat (0 : Int) * 5)) 1) = some (.int .i64 x1_2) ∧ g75.w.cell? (Addr.add (Addr.add ad_2 (Int.toNat (0 : Int) * 5)) 2) = some (.string x2_2) ∧ g75.w.cell? (Addr.add (Addr.add ad_2 (Int.toNat (0 : Int) * 5)) 3) = some (.slice x3a_2 x3l_2 x3c_2) ∧ g75.w.cell? (Addr.add (Addr.add ad_2 (Int.toNat (0 : Int) * 5)) 4) = some (.slice x4a_2 x4l_2 x4c_2) ∧ (CallsP Tryd.prog 62 #[(.int .i64 (3 : Int)), (.agg ⟨[(.int .i64 x0_2), (.int .i64 x1_2), (.string x2_2), (.slice x3a_2 x3l_2 x3c_2), (.slice x4a_2 x4l_2 x4c_2)]⟩)] g75 fun v g76 =>
  ∃ x_24 : Bool, v = (.bool x_24) ∧ ifB x_24
  ((0 ≤ (1 : Int) ∧ (1 : Int) ≤ ((t4l : Nat) : Int)) ∧ ∀ g77 : G, NewL g76 g77 3 [(.int .i64 (72 : Int))] →
  (CallsP Tryd.prog 81 #[(.slice (slAddr t4a t4c (Int.toNat (1 : Int)) 5) (t4l - (Int.toNat (1 : Int))) (t4c - (Int.toNat (1 : Int)))), (.slice (some ⟨g76.w.heap.size, 0, none⟩) 1 1)] g77 fun v g78 =>
  ∃ x_25 : Bool, v = (.bool x_25) ∧ ∀ g79 : G, Ex g78 g79 →
  R (.bool x_25) g79))
  (∀ g80 : G, Ex g76 g80 →
  R (.bool false) g80)))
  (∀ g81 : G, Ex g75 g81 →
  R (.bool false) g81))
  (ifB (eqI t0 (66 : Int))
  (ifB (eqI ((t4l : Nat) : Int) (1 : Int))
  (∀ g82 : G, NewL g75 g82 3 [(.int .i64 (2 : Int))] →
  (CallsP Tryd.prog 81 #[(.slice t4a t4l t4c), (.slice (some ⟨g75.w.heap.size, 0, none⟩) 1 1)] g82 fun v g83 =>
  ∃ x_26 : Bool, v = (.bool x_26) ∧ ifB x_26
  ((0 ≤ (0 : Int) ∧ (0 : Int) < ((t4l : Nat) : Int)) ∧ derefP t4a fun ad_3 => ∃ xa : Option Addr, ∃ xl : Nat, ∃ xc : Nat, g83.w.cell? (Addr.add (Addr.add ad_3 (Int.toNat (0 : Int) * 5)) 4) = some (.slice xa xl xc) ∧ ∀ g84 : G, Ex g83 g84 →
  R (.bool (eqI ((xl : Nat) : Int) (0 : Int))) g84)
  (∀ g85 : G, Ex g83 g85 →
  R (.bool false) g85)))
  (∀ g86 : G, Ex g75 g86 →
  R (.bool false) g86))
  (ifB (eqI t0 (71 : Int))
  ((CallsP Tryd.prog 79 #[(.slice t4a t4l t4c), (.int .i64 (5 : Int)), (.int .i64 (0 : Int)), (.int .i64 ((t4l : Nat) : Int))] g75 fun v g87 =>
  ∃ x_27 : Bool, v = (.bool x_27) ∧ ∀ g88 : G, Ex g87 g88 →
  R (.bool x_27) g88))
  (ifB (eqI t0 (73 : Int))
  (∀ g89 : G, NewL g75 g89 3 [(.int .i64 (6 : Int)), (.int .i64 (6 : Int))] →
  (CallsP Tryd.prog 80 #[(.agg ⟨[(.int .i64 t0), (.int .i64 t1), (.string t2), (.slice t3a t3l t3c), (.slice t4a t4l t4c)]⟩), (.slice (some ⟨g75.w.heap.size, 0, none⟩) 2 2)] g89 fun v g90 =>
  ∃ x_28 : Bool, v = (.bool x_28) ∧ ∀ g91 : G, Ex g90 g91 →
  R (.bool x_28) g91))
  (ifB (eqI t0 (74 : Int))
  (ifB (eqI ((t4l : Nat) : Int) (2 : Int))
  ((0 ≤ (0 : Int) ∧ (0 : Int) < ((t4l : Nat) : Int)) ∧ derefP t4a fun ad_4 => ∃ x0_3 : Int, ∃ x1_3 : Int, ∃ x2_3 : ByteArray, ∃ x3a_3 : Option Addr, ∃ x3l_3 : Nat, ∃ x3c_3 : Nat, ∃ x4a_3 : Option Addr, ∃ x4l_3 : Nat, ∃ x4c_3 : Nat, g75.w.cell? (Addr.add ad_4 (Int.toNat (0 : Int) * 5)) = some (.int .i64 x0_3) ∧ g75.w.cell? (Addr.add (Addr.add ad_4 (Int.toNat (0 : Int) * 5)) 1) = some (.int .i64 x1_3) ∧ g75.w.cell? (Addr.add (Addr.add ad_4 (Int.toNat (0 : Int) * 5)) 2) = some (.string x2_3) ∧ g75.w.cell? (Addr.add (Addr.add ad_4 (Int.toNat (0 : Int) * 5)) 3) = some (.slice x3a_3 x3l_3 x3c_3) ∧ g75.w.cell? (Addr.add (Addr.add ad_4 (Int.toNat (0 : Int) * 5)) 4) = some (.slice x4a_3 x4l_3 x4c_3) ∧ (CallsP Tryd.prog 62 #[(.int .i64 (6 : Int)), (.agg ⟨[(.int .i64 x0_3), (.int .i64 x1_3), (.string x2_3), (.slice x3a_3 x3l_3 x3c_3), (.slice x4a_3 x4l_3 x4c_3)]⟩)] g75 fun v g92 =>
  ∃ x_29 : Bool, v = (.bool x_29) ∧ ifB x_29
  ((0 ≤ (1 : Int) ∧ (1 : Int) ≤ ((t4l : Nat) : Int)) ∧ ∀ g93 : G, NewL g92 g93 3 [(.int .i64 (43 : Int))] →
  (CallsP Tryd.prog 81 #[(.slice (slAddr t4a t4c (Int.toNat (1 : Int)) 5) (t4l - (Int.toNat (1 : Int))) (t4c - (Int.toNat (1 : Int)))), (.slice (some ⟨g92.w.heap.size, 0, none⟩) 1 1)] g93 fun v g94 =>
  ∃ x_30 : Bool, v = (.bool x_30) ∧ ∀ g95 : G, Ex g94 g95 →
  R (.bool x_30) g95))
  (∀ g96 : G, Ex g92 g96 →
  R (.bool false) g96)))
  (∀ g97 : G, Ex g75 g97 →
  R (.bool false) g97))
  (ifB (eqI t0 (81 : Int))
  ((CallsP Tryd.prog 79 #[(.slice t4a t4l t4c), (.int .i64 (4 : Int)), (.int .i64 (0 : Int)), (.int .i64 ((t4l : Nat) : Int))] g75 fun v g98 =>
  ∃ x_31 : Bool, v = (.bool x_31) ∧ ∀ g99 : G, Ex g98 g99 →
  R (.bool x_31) g99))
  (ifB (eqI t0 (83 : Int))
  (∀ g100 : G, NewL g75 g100 3 [(.int .i64 (6 : Int)), (.int .i64 (7 : Int))] →
  (CallsP Tryd.prog 80 #[(.agg ⟨[(.int .i64 t0), (.int .i64 t1), (.string t2), (.slice t3a t3l t3c), (.slice t4a t4l t4c)]⟩), (.slice (some ⟨g75.w.heap.size, 0, none⟩) 2 2)] g100 fun v g101 =>
  ∃ x_32 : Bool, v = (.bool x_32) ∧ ∀ g102 : G, Ex g101 g102 →
  R (.bool x_32) g102))
  (ifB (eqI t0 (84 : Int))
  (∀ g103 : G, NewL g75 g103 3 [(.int .i64 (7 : Int)), (.int .i64 (7 : Int))] →
  (CallsP Tryd.prog 80 #[(.agg ⟨[(.int .i64 t0), (.int .i64 t1), (.string t2), (.slice t3a t3l t3c), (.slice t4a t4l t4c)]⟩), (.slice (some ⟨g75.w.heap.size, 0, none⟩) 2 2)] g103 fun v g104 =>
  ∃ x_33 : Bool, v = (.bool x_33) ∧ ∀ g105 : G, Ex g104 g105 →
  R (.bool x_33) g105))
  (∀ J_5 : Bool → G → Prop,
  (∀ v_6 : Bool, ∀ g106 : G, (ifB v_6
  (∀ g107 : G, NewL g106 g107 3 [(.int .i64 (7 : Int)), (.int .i64 (6 : Int))] →
  (CallsP Tryd.prog 80 #[(.agg ⟨[(.int .i64 t0), (.int .i64 t1), (.string t2), (.slice t3a t3l t3c), (.slice t4a t4l t4c)]⟩), (.slice (some ⟨g106.w.heap.size, 0, none⟩) 2 2)] g107 fun v g108 =>
  ∃ x_34 : Bool, v = (.bool x_34) ∧ ∀ g109 : G, Ex g108 g109 →
  R (.bool x_34) g109))
  (ifB (eqI t0 (87 : Int))
  (ifB (leI (1 : Int) ((t4l : Nat) : Int))
  (InI64 (((t4l : Nat) : Int) - (1 : Int)) ∧ (0 ≤ (((t4l : Nat) : Int) - (1 : Int)) ∧ (((t4l : Nat) : Int) - (1 : Int)) < ((t4l : Nat) : Int)) ∧ derefP t4a fun ad_5 => ∃ x0_4 : Int, ∃ x1_4 : Int, ∃ x2_4 : ByteArray, ∃ x3a_4 : Option Addr, ∃ x3l_4 : Nat, ∃ x3c_4 : Nat, ∃ x4a_4 : Option Addr, ∃ x4l_4 : Nat, ∃ x4c_4 : Nat, g106.w.cell? (Addr.add ad_5 (Int.toNat (((t4l : Nat) : Int) - (1 : Int)) * 5)) = some (.int .i64 x0_4) ∧ g106.w.cell? (Addr.add (Addr.add ad_5 (Int.toNat (((t4l : Nat) : Int) - (1 : Int)) * 5)) 1) = some (.int .i64 x1_4) ∧ g106.w.cell? (Addr.add (Addr.add ad_5 (Int.toNat (((t4l : Nat) : Int) - (1 : Int)) * 5)) 2) = some (.string x2_4) ∧ g106.w.cell? (Addr.add (Addr.add ad_5 (Int.toNat (((t4l : Nat) : Int) - (1 : Int)) * 5)) 3) = some (.slice x3a_4 x3l_4 x3c_4) ∧ g106.w.cell? (Addr.add (Addr.add ad_5 (Int.toNat (((t4l : Nat) : Int) - (1 : Int)) * 5)) 4) = some (.slice x4a_4 x4l_4 x4c_4) ∧ (CallsP Tryd.prog 62 #[(.int .i64 (7 : Int)), (.agg ⟨[(.int .i64 x0_4), (.int .i64 x1_4), (.string x2_4), (.slice x3a_4 x3l_4 x3c_4), (.slice x4a_4 x4l_4 x4c_4)]⟩)] g106 fun v g110 =>
  ∃ x_35 : Bool, v = (.bool x_35) ∧ ifB x_35
  (InI64 (((t4l : Nat) : Int) - (1 : Int)) ∧ (0 ≤ (((t4l : Nat) : Int) - (1 : Int)) ∧ (((t4l : Nat) : Int) - (1 : Int)) ≤ ((t4c : Nat) : Int)) ∧ (CallsP Tryd.prog 79 #[(.slice (slAddr t4a t4c 0 5) ((Int.toNat (((t4l : Nat) : Int) - (1 : Int))) - 0) (t4c - 0)), (.int .i64 (4 : Int)), (.int .i64 (0 : Int)), (.int .i64 ((t4l : Nat) : Int))] g110 fun v g111 =>
  ∃ x_36 : Bool, v = (.bool x_36) ∧ ∀ g112 : G, Ex g111 g112 →
  R (.bool x_36) g112))
  (∀ g113 : G, Ex g110 g113 →
  R (.bool false) g113)))
  (∀ g114 : G, Ex g106 g114 →
  R (.bool false) g114))
  (∀ g115 : G, Ex g106 g115 →
  R (.bool false) g115))) → J_5 v_6 g106) →
  ifB (eqI t0 (85 : Int))
  (J_5 true g75)
  (J_5 (eqI t0 (86 : Int)) g75)))))))))) → J_4 v_5 g75) →
  ifB (eqI t0 (50 : Int))
  (J_4 true g71)
  (J_4 (eqI t0 (88 : Int)) g71))) → J_3 v_4 g71) →
  ifB (eqI t0 (47 : Int))
  (J_3 true g56)
  (ifB (eqI t0 (63 : Int))
  (J_3 true g56)
  (ifB (eqI t0 (64 : Int))
  (J_3 true g56)
  (J_3 (eqI t0 (65 : Int)) g56)))))))) → J_2 v_3 g56) →
  ifB (eqI t0 (43 : Int))
  (J_2 true g15)
  (J_2 (eqI t0 (61 : Int)) g15)))))))))))) → J_1 v_2 g15) →
  ifB (eqI t0 (25 : Int))
  (J_1 true g1)
  (ifB (eqI t0 (41 : Int))
  (J_1 true g1)
  (J_1 (eqI t0 (42 : Int)) g1))))))))) → J v_1 g1) →
  ifB (eqI t0 (1 : Int))
  (∀ g116 : G, Ex g g116 →
  J true g116)
  (ifB (eqI t0 (5 : Int))
  (∀ g117 : G, Ex g g117 →
  J true g117)
  (ifB (eqI t0 (11 : Int))
  (∀ g118 : G, Ex g g118 →
  J true g118)
  (ifB (eqI t0 (12 : Int))
  (∀ g119 : G, Ex g g119 →
  J true g119)
  (ifB (eqI t0 (13 : Int))
  (∀ g120 : G, Ex g g120 →
  J true g120)
  (ifB (eqI t0 (21 : Int))
  (∀ g121 : G, Ex g g121 →
  J true g121)
  (ifB (eqI t0 (22 : Int))
  (∀ g122 : G, Ex g g122 →
  J true g122)
  (ifB (eqI t0 (23 : Int))
  (∀ g123 : G, Ex g g123 →
  J true g123)
  (ifB (eqI t0 (24 : Int))
  (∀ g124 : G, Ex g g124 →
  J true g124)
  (ifB (eqI t0 (48 : Int))
  (∀ g125 : G, Ex g g125 →
  J true g125)
  (ifB (eqI t0 (49 : Int))
  (∀ g126 : G, Ex g g126 →
  J true g126)
  (ifB (eqI t0 (62 : Int))
  (∀ g127 : G, Ex g g127 →
  J true g127)
  (ifB (eqI t0 (72 : Int))
  (∀ g128 : G, Ex g g128 →
  J true g128)
  (∀ g129 : G, Ex g g129 →
  J (eqI t0 (82 : Int)) g129)))))))))))))
theorem F70_eq (t0 : Int) (t1 : Int) (t2 : ByteArray) (t3a : Option Addr) (t3l : Nat) (t3c : Nat) (t4a : Option Addr) (t4l : Nat) (t4c : Nat) (g : G) (R : Value → G → Prop) : fnG cfg70 302 [.tmp 2] c70 an70 [(.agg ⟨[(.int .i64 t0), (.int .i64 t1), (.string t2), (.slice t3a t3l t3c), (.slice t4a t4l t4c)]⟩)] g nobody R = F70 t0 t1 t2 t3a t3l t3c t4a t4l t4c g R := by kernel_rfl
theorem call70 (t0 : Int) (t1 : Int) (t2 : ByteArray) (t3a : Option Addr) (t3l : Nat) (t3c : Nat) (t4a : Option Addr) (t4l : Nat) (t4c : Nat) (g : G) (R : Value → G → Prop) (hF : F70 t0 t1 t2 t3a t3l t3c t4a t4l t4c g R) : CallsG Tryd.prog 70 #[(.agg ⟨[(.int .i64 t0), (.int .i64 t1), (.string t2), (.slice t3a t3l t3c), (.slice t4a t4l t4c)]⟩)] g nobody R :=
  fn_soundG (c := cfg70) TTok FNSok mixed Tryd.func70 (show Tryd.f70.body = some c70 by kernel_rfl) (show Tryd.f70.ntmps = 302 by kernel_rfl) (show Tryd.f70.results.toList = [.tmp 2] by kernel_rfl) rfl ((F70_eq t0 t1 t2 t3a t3l t3c t4a t4l t4c g R ).mpr hF)

/- 71 pilaster/syntax.formed$1$1 -/
noncomputable def c71 : Code := match Tryd.f71.body with
  | some c => c
  | none => .skip
noncomputable def cfg71 : Cfg := ⟨Tryd.prog, TT, FNS, [4], [(4, 4)], [], TCH, true, false, none, PNF, false⟩
def an71 : AnnG := (.seq .leaf (.seq .leaf .leaf))
def F71 (x0 : Int) (x1 : Int) (x2 : ByteArray) (x3a : Option Addr) (x3l : Nat) (x3c : Nat) (x4a : Option Addr) (x4l : Nat) (x4c : Nat) (c0 : Option Addr) (c1 : Option Addr) (c2 : Option Addr) (g : G) (M : Nat → Prop) (R : Value → G → Prop) : Prop :=
  ∀ g1 : G, Ex g g1 →
  derefP c0 fun ad => ∃ xf : FuncId, ∃ xc : Array Value, g1.w.cell? ad = some (.func (.func xf) #[] xc) ∧ derefP c1 fun ad_1 => ∃ x : Int, g1.w.cell? ad_1 = some (.int .i64 x) ∧ InI64 (x + (1 : Int)) ∧ derefP c2 fun ad_2 => ∃ x_1 : Int, g1.w.cell? ad_2 = some (.int .i64 x_1) ∧ Enters Tryd.prog xf ∧ ∃ M1 : Nat → Prop, (∀ b, b < g.w.heap.size → M1 b → M b) ∧ (CallsG Tryd.prog xf ((⟨[(.agg ⟨[(.int .i64 x0), (.int .i64 x1), (.string x2), (.slice x3a x3l x3c), (.slice x4a x4l x4c)]⟩), (.int .i64 (x + (1 : Int))), (.bool (eqI x_1 (74 : Int)))]⟩ : Array Value) ++ xc) g1 M1 fun v g2 =>
  ∃ x_2 : Bool, v = (.bool x_2) ∧ ∀ g3 : G, Ex g2 g3 →
  R (.bool (!x_2)) g3)
theorem F71_eq (x0 : Int) (x1 : Int) (x2 : ByteArray) (x3a : Option Addr) (x3l : Nat) (x3c : Nat) (x4a : Option Addr) (x4l : Nat) (x4c : Nat) (c0 : Option Addr) (c1 : Option Addr) (c2 : Option Addr) (g : G) (M : Nat → Prop) (R : Value → G → Prop) : fnG cfg71 15 [.tmp 5] c71 an71 [(.agg ⟨[(.int .i64 x0), (.int .i64 x1), (.string x2), (.slice x3a x3l x3c), (.slice x4a x4l x4c)]⟩), (.pointer c0), (.pointer c1), (.pointer c2)] g M R = F71 x0 x1 x2 x3a x3l x3c x4a x4l x4c c0 c1 c2 g M R := by kernel_rfl
theorem call71 (x0 : Int) (x1 : Int) (x2 : ByteArray) (x3a : Option Addr) (x3l : Nat) (x3c : Nat) (x4a : Option Addr) (x4l : Nat) (x4c : Nat) (c0 : Option Addr) (c1 : Option Addr) (c2 : Option Addr) (g : G) (M : Nat → Prop) (R : Value → G → Prop) (hF : F71 x0 x1 x2 x3a x3l x3c x4a x4l x4c c0 c1 c2 g M R) : CallsG Tryd.prog 71 #[(.agg ⟨[(.int .i64 x0), (.int .i64 x1), (.string x2), (.slice x3a x3l x3c), (.slice x4a x4l x4c)]⟩), (.pointer c0), (.pointer c1), (.pointer c2)] g M R :=
  fn_soundG (c := cfg71) TTok FNSok mixed Tryd.func71 (show Tryd.f71.body = some c71 by kernel_rfl) (show Tryd.f71.ntmps = 15 by kernel_rfl) (show Tryd.f71.results.toList = [.tmp 5] by kernel_rfl) rfl ((F71_eq x0 x1 x2 x3a x3l x3c x4a x4l x4c c0 c1 c2 g M R ).mpr hF)

/- 72 pilaster/syntax.fields -/
noncomputable def c72 : Code := match Tryd.f72.body with
  | some c => c
  | none => .skip
noncomputable def cfg72 : Cfg := ⟨Tryd.prog, TT, FNS, [2], [(2, 2)], [], TCH, false, false, none, PNF, false⟩
def an72 : AnnG := (.seq .leaf (.seq (.seq .leaf (.blk (.join ⟨[(4, .bool)], [], []⟩ (.seq .leaf (.cond .leaf (.seq .leaf (.cond .leaf .leaf)))) (.cond (.seq .leaf .leaf) (.join ⟨[(9, .bool)], [], []⟩ (.seq .leaf (.cond .leaf (.seq .leaf (.cond .leaf (.seq .leaf (.cond .leaf (.seq .leaf (.cond .leaf (.seq .leaf (.cond .leaf (.seq .leaf (.cond .leaf (.seq .leaf (.cond .leaf (.seq .leaf (.cond .leaf (.seq .leaf (.cond .leaf (.seq .leaf (.cond .leaf (.seq .leaf (.cond .leaf .leaf)))))))))))))))))))))) (.cond (.seq .leaf .leaf) (.join ⟨[(23, .bool)], [], []⟩ (.seq .leaf (.cond .leaf (.seq .leaf (.cond .leaf (.seq .leaf (.cond .leaf (.seq .leaf (.cond .leaf (.seq .leaf (.cond .leaf (.seq .leaf (.cond .leaf (.seq .leaf (.cond .leaf (.seq .leaf (.cond .leaf (.seq .leaf (.cond .leaf (.seq .leaf (.cond .leaf (.seq .leaf (.cond .leaf .leaf)))))))))))))))))))))) (.cond (.seq .leaf .leaf) (.join ⟨[(37, .bool)], [], []⟩ (.seq .leaf (.cond .leaf (.seq .leaf (.cond .leaf (.seq .leaf (.cond .leaf .leaf)))))) (.cond (.seq .leaf .leaf) (.seq (.seq .leaf (.cond .leaf .leaf)) (.cond (.seq .leaf .leaf) .leaf)))))))))))) (.seq .leaf .leaf)))
def F72 (op : Int) (g : G) (R : Value → G → Prop) : Prop :=
  ∀ J : Bool → G → Prop,
  (∀ v_1 : Bool, ∀ g1 : G, (ifB v_1
  (∀ g2 : G, Ex g1 g2 →
  R (.agg ⟨[(.bool true), (.bool false), (.bool false)]⟩) g2)
  (∀ J_1 : Bool → G → Prop,
  (∀ v_2 : Bool, ∀ g3 : G, (ifB v_2
  (∀ g4 : G, Ex g3 g4 →
  R (.agg ⟨[(.bool false), (.bool true), (.bool false)]⟩) g4)
  (∀ J_2 : Bool → G → Prop,
  (∀ v_3 : Bool, ∀ g5 : G, (ifB v_3
  (∀ g6 : G, Ex g5 g6 →
  R (.agg ⟨[(.bool false), (.bool false), (.bool true)]⟩) g6)
  (∀ J_3 : Bool → G → Prop,
  (∀ v_4 : Bool, ∀ g7 : G, (ifB v_4
  (∀ g8 : G, Ex g7 g8 →
  R (.agg ⟨[(.bool false), (.bool true), (.bool true)]⟩) g8)
  (ifB (eqI op (73 : Int))
  (∀ g9 : G, Ex g7 g9 →
  R (.agg ⟨[(.bool true), (.bool true), (.bool false)]⟩) g9)
  (ifB (eqI op (83 : Int))
  (∀ g10 : G, Ex g7 g10 →
  R (.agg ⟨[(.bool true), (.bool true), (.bool false)]⟩) g10)
  (∀ g11 : G, Ex g7 g11 →
  R (.agg ⟨[(.bool false), (.bool false), (.bool false)]⟩) g11)))) → J_3 v_4 g7) →
  ifB (eqI op (42 : Int))
  (J_3 true g5)
  (ifB (eqI op (43 : Int))
  (J_3 true g5)
  (ifB (eqI op (44 : Int))
  (J_3 true g5)
  (J_3 (eqI op (62 : Int)) g5))))) → J_2 v_3 g5) →
  ifB (eqI op (2 : Int))
  (J_2 true g3)
  (ifB (eqI op (5 : Int))
  (J_2 true g3)
  (ifB (eqI op (14 : Int))
  (J_2 true g3)
  (ifB (eqI op (23 : Int))
  (J_2 true g3)
  (ifB (eqI op (24 : Int))
  (J_2 true g3)
  (ifB (eqI op (34 : Int))
  (J_2 true g3)
  (ifB (eqI op (48 : Int))
  (J_2 true g3)
  (ifB (eqI op (49 : Int))
  (J_2 true g3)
  (ifB (eqI op (66 : Int))
  (J_2 true g3)
  (ifB (eqI op (72 : Int))
  (J_2 true g3)
  (ifB (eqI op (74 : Int))
  (J_2 true g3)
  (J_2 (eqI op (82 : Int)) g3))))))))))))) → J_1 v_2 g3) →
  ifB (eqI op (1 : Int))
  (J_1 true g1)
  (ifB (eqI op (12 : Int))
  (J_1 true g1)
  (ifB (eqI op (22 : Int))
  (J_1 true g1)
  (ifB (eqI op (25 : Int))
  (J_1 true g1)
  (ifB (eqI op (41 : Int))
  (J_1 true g1)
  (ifB (eqI op (45 : Int))
  (J_1 true g1)
  (ifB (eqI op (46 : Int))
  (J_1 true g1)
  (ifB (eqI op (47 : Int))
  (J_1 true g1)
  (ifB (eqI op (50 : Int))
  (J_1 true g1)
  (ifB (eqI op (61 : Int))
  (J_1 true g1)
  (ifB (eqI op (63 : Int))
  (J_1 true g1)
  (J_1 (eqI op (64 : Int)) g1))))))))))))) → J v_1 g1) →
  ifB (eqI op (13 : Int))
  (∀ g12 : G, Ex g g12 →
  J true g12)
  (ifB (eqI op (21 : Int))
  (∀ g13 : G, Ex g g13 →
  J true g13)
  (∀ g14 : G, Ex g g14 →
  J (eqI op (32 : Int)) g14))
theorem F72_eq (op : Int) (g : G) (R : Value → G → Prop) : fnG cfg72 48 [.cell 2 105] c72 an72 [(.int .i64 op)] g nobody R = F72 op g R := by kernel_rfl
theorem call72 (op : Int) (g : G) (R : Value → G → Prop) (hF : F72 op g R) : CallsG Tryd.prog 72 #[(.int .i64 op)] g nobody R :=
  fn_soundG (c := cfg72) TTok FNSok mixed Tryd.func72 (show Tryd.f72.body = some c72 by kernel_rfl) (show Tryd.f72.ntmps = 48 by kernel_rfl) (show Tryd.f72.results.toList = [.cell 2 105] by kernel_rfl) rfl ((F72_eq op g R ).mpr hF)

/- 73 pilaster/ident.IsVar -/
noncomputable def c73 : Code := match Tryd.f73.body with
  | some c => c
  | none => .skip
noncomputable def cfg73 : Cfg := ⟨Tryd.prog, TT, FNS, [], [], [], TCH, false, false, none, PNF, false⟩
def an73 : AnnG := (.seq .leaf (.seq .leaf (.seq .leaf .leaf)))
def F73 (s : ByteArray) (g : G) (R : Value → G → Prop) : Prop :=
  (CallsP Tryd.prog 83 #[(.string s), (.string (bs [39]))] g fun v g1 =>
  ∃ x0 : ByteArray, ∃ x1 : Bool, v = (.tuple ⟨[(.string x0), (.bool x1)]⟩) ∧ ifB x1
  (ifB (leI ((s.size : Nat) : Int) (24 : Int))
  ((CallsP Tryd.prog 61 #[(.string x0), (.int .i64 (1 : Int))] g1 fun v g2 =>
  ∃ x : Bool, v = (.bool x) ∧ ∀ g3 : G, Ex g2 g3 →
  R (.bool x) g3))
  (∀ g4 : G, Ex g1 g4 →
  R (.bool false) g4))
  (∀ g5 : G, Ex g1 g5 →
  R (.bool false) g5))
theorem F73_eq (s : ByteArray) (g : G) (R : Value → G → Prop) : fnG cfg73 20 [.tmp 2] c73 an73 [(.string s)] g nobody R = F73 s g R := by kernel_rfl
theorem call73 (s : ByteArray) (g : G) (R : Value → G → Prop) (hF : F73 s g R) : CallsG Tryd.prog 73 #[(.string s)] g nobody R :=
  fn_soundG (c := cfg73) TTok FNSok mixed Tryd.func73 (show Tryd.f73.body = some c73 by kernel_rfl) (show Tryd.f73.ntmps = 20 by kernel_rfl) (show Tryd.f73.results.toList = [.tmp 2] by kernel_rfl) rfl ((F73_eq s g R ).mpr hF)

/- 74 pilaster/syntax.path -/
noncomputable def c74 : Code := match Tryd.f74.body with
  | some c => c
  | none => .skip
noncomputable def cfg74 : Cfg := ⟨Tryd.prog, TT, FNS, [], [], [], TCH, false, false, none, PNF, false⟩
def an74 : AnnG := (.seq .leaf (.join ⟨[], [], []⟩ (.seq .leaf (.cond (.seq .leaf .leaf) .leaf)) (.seq .leaf (.seq (.seq .leaf (.cond (.seq .leaf .leaf) .leaf)) (.seq (.seq .leaf (.cond (.seq .leaf .leaf) .leaf)) (.seq .leaf .leaf))))))
def F74 (la : Option Addr) (ll : Nat) (lc : Nat) (lower : Bool) (g : G) (R : Value → G → Prop) : Prop :=
  ∀ J : G → Prop,
  (∀ g1 : G, (InI64 (((ll : Nat) : Int) - (1 : Int)) ∧ (0 ≤ (((ll : Nat) : Int) - (1 : Int)) ∧ (((ll : Nat) : Int) - (1 : Int)) ≤ ((lc : Nat) : Int)) ∧ (CallsP Tryd.prog 11 #[(.slice (slAddr la lc 0 1) ((Int.toNat (((ll : Nat) : Int) - (1 : Int))) - 0) (lc - 0)), (.func (.func 84) #[] #[])] g1 fun v g2 =>
  ∃ x : Bool, v = (.bool x) ∧ ifB x
  (∀ g3 : G, Ex g2 g3 →
  R (.bool false) g3)
  (ifB lower
  ((0 ≤ (((ll : Nat) : Int) - (1 : Int)) ∧ (((ll : Nat) : Int) - (1 : Int)) < ((ll : Nat) : Int)) ∧ derefP la fun ad => ∃ x_1 : ByteArray, g2.w.cell? (Addr.add ad (Int.toNat (((ll : Nat) : Int) - (1 : Int)) * 1)) = some (.string x_1) ∧ (CallsP Tryd.prog 75 #[(.string x_1)] g2 fun v g4 =>
  ∃ x_2 : Bool, v = (.bool x_2) ∧ ∀ g5 : G, Ex g4 g5 →
  R (.bool x_2) g5))
  ((0 ≤ (((ll : Nat) : Int) - (1 : Int)) ∧ (((ll : Nat) : Int) - (1 : Int)) < ((ll : Nat) : Int)) ∧ derefP la fun ad_1 => ∃ x_3 : ByteArray, g2.w.cell? (Addr.add ad_1 (Int.toNat (((ll : Nat) : Int) - (1 : Int)) * 1)) = some (.string x_3) ∧ (CallsP Tryd.prog 52 #[(.string x_3)] g2 fun v g6 =>
  ∃ x_4 : Bool, v = (.bool x_4) ∧ ∀ g7 : G, Ex g6 g7 →
  R (.bool x_4) g7))))) → J g1) →
  ifB (ltI ((ll : Nat) : Int) (1 : Int))
  (∀ g8 : G, Ex g g8 →
  R (.bool false) g8)
  (ifB (ltI (8 : Int) ((ll : Nat) : Int))
  (∀ g9 : G, Ex g g9 →
  R (.bool false) g9)
  (J g))
theorem F74_eq (la : Option Addr) (ll : Nat) (lc : Nat) (lower : Bool) (g : G) (R : Value → G → Prop) : fnG cfg74 32 [.tmp 4] c74 an74 [(.slice la ll lc), (.bool lower)] g nobody R = F74 la ll lc lower g R := by kernel_rfl
theorem call74 (la : Option Addr) (ll : Nat) (lc : Nat) (lower : Bool) (g : G) (R : Value → G → Prop) (hF : F74 la ll lc lower g R) : CallsG Tryd.prog 74 #[(.slice la ll lc), (.bool lower)] g nobody R :=
  fn_soundG (c := cfg74) TTok FNSok mixed Tryd.func74 (show Tryd.f74.body = some c74 by kernel_rfl) (show Tryd.f74.ntmps = 32 by kernel_rfl) (show Tryd.f74.results.toList = [.tmp 4] by kernel_rfl) rfl ((F74_eq la ll lc lower g R ).mpr hF)

/- 75 pilaster/ident.IsLower -/
noncomputable def c75 : Code := match Tryd.f75.body with
  | some c => c
  | none => .skip
noncomputable def cfg75 : Cfg := ⟨Tryd.prog, TT, FNS, [], [], [], TCH, false, false, none, PNF, false⟩
def an75 : AnnG := (.seq .leaf (.seq .leaf .leaf))
def F75 (s : ByteArray) (g : G) (R : Value → G → Prop) : Prop :=
  (CallsP Tryd.prog 61 #[(.string s), (.int .i64 (1 : Int))] g fun v g1 =>
  ∃ x : Bool, v = (.bool x) ∧ ifB x
  ((CallsP Tryd.prog 85 #[(.string s)] g1 fun v g2 =>
  ∃ x_1 : Bool, v = (.bool x_1) ∧ ∀ g3 : G, Ex g2 g3 →
  R (.bool (!x_1)) g3))
  (∀ g4 : G, Ex g1 g4 →
  R (.bool false) g4))
theorem F75_eq (s : ByteArray) (g : G) (R : Value → G → Prop) : fnG cfg75 10 [.tmp 2] c75 an75 [(.string s)] g nobody R = F75 s g R := by kernel_rfl
theorem call75 (s : ByteArray) (g : G) (R : Value → G → Prop) (hF : F75 s g R) : CallsG Tryd.prog 75 #[(.string s)] g nobody R :=
  fn_soundG (c := cfg75) TTok FNSok mixed Tryd.func75 (show Tryd.f75.body = some c75 by kernel_rfl) (show Tryd.f75.ntmps = 10 by kernel_rfl) (show Tryd.f75.results.toList = [.tmp 2] by kernel_rfl) rfl ((F75_eq s g R ).mpr hF)

/- 76 pilaster/syntax.plain -/
noncomputable def c76 : Code := match Tryd.f76.body with
  | some c => c
  | none => .skip
noncomputable def cfg76 : Cfg := ⟨Tryd.prog, TT, FNS, [], [], [], TCH, false, false, none, PNF, false⟩
def an76 : AnnG := (.seq .leaf (.seq (.seq .leaf (.blk (.loop ⟨[(6, .int .i64)], [], []⟩ (.seq .leaf (.seq (.cond .leaf .leaf) (.seq (.blk (.seq .leaf (.seq .leaf (.cond (.seq .leaf .leaf) .leaf)))) .leaf)))))) (.seq .leaf .leaf)))
def F76 (s : ByteArray) (g : G) (R : Value → G → Prop) : Prop :=
  ∃ Inv : Nat → Int → G → Prop, ((∃ m0 : Nat, Inv m0 (0 : Int) g)) ∧
  ∀ m : Nat, ∀ v_1 : Int, ∀ g1 : G, Le g g1 → Inv m v_1 g1 →
  ifB (ltI v_1 ((s.size : Nat) : Int))
  (∃ b : UInt8, (0 ≤ v_1 ∧ s[Int.toNat v_1]? = some b) ∧ ifB (!eqI ((b.toNat : Nat) : Int) (10 : Int))
  (∃ b_1 : UInt8, (0 ≤ v_1 ∧ s[Int.toNat v_1]? = some b_1) ∧ ifB (ltI ((b_1.toNat : Nat) : Int) (32 : Int))
  (∀ g2 : G, Ex g1 g2 →
  R (.bool false) g2)
  (∃ b_2 : UInt8, (0 ≤ v_1 ∧ s[Int.toNat v_1]? = some b_2) ∧ ifB (ltI (126 : Int) ((b_2.toNat : Nat) : Int))
  (∀ g3 : G, Ex g1 g3 →
  R (.bool false) g3)
  (InI64 (v_1 + (1 : Int)) ∧ (∃ m_1 : Nat, m_1 < m ∧ Inv m_1 (v_1 + (1 : Int)) g1))))
  (InI64 (v_1 + (1 : Int)) ∧ (∃ m_1 : Nat, m_1 < m ∧ Inv m_1 (v_1 + (1 : Int)) g1)))
  (∀ g4 : G, Ex g1 g4 →
  R (.bool (leI ((s.size : Nat) : Int) (16384 : Int))) g4)
theorem F76_eq (s : ByteArray) (g : G) (R : Value → G → Prop) : fnG cfg76 29 [.tmp 2] c76 an76 [(.string s)] g nobody R = F76 s g R := by kernel_rfl
theorem call76 (s : ByteArray) (g : G) (R : Value → G → Prop) (hF : F76 s g R) : CallsG Tryd.prog 76 #[(.string s)] g nobody R :=
  fn_soundG (c := cfg76) TTok FNSok mixed Tryd.func76 (show Tryd.f76.body = some c76 by kernel_rfl) (show Tryd.f76.ntmps = 29 by kernel_rfl) (show Tryd.f76.results.toList = [.tmp 2] by kernel_rfl) rfl ((F76_eq s g R ).mpr hF)

/- 77 pilaster/syntax.own$1 -/
noncomputable def c77 : Code := match Tryd.f77.body with
  | some c => c
  | none => .skip
noncomputable def cfg77 : Cfg := ⟨Tryd.prog, TT, FNS, [], [], [], TCH, false, false, none, PNF, false⟩
def an77 : AnnG := (.seq .leaf (.seq .leaf .leaf))
def F77 (s : ByteArray) (g : G) (R : Value → G → Prop) : Prop :=
  (CallsP Tryd.prog 75 #[(.string s)] g fun v g1 =>
  ∃ x : Bool, v = (.bool x) ∧ ∀ g2 : G, Ex g1 g2 →
  R (.bool (!x)) g2)
theorem F77_eq (s : ByteArray) (g : G) (R : Value → G → Prop) : fnG cfg77 6 [.tmp 2] c77 an77 [(.string s)] g nobody R = F77 s g R := by kernel_rfl
theorem call77 (s : ByteArray) (g : G) (R : Value → G → Prop) (hF : F77 s g R) : CallsG Tryd.prog 77 #[(.string s)] g nobody R :=
  fn_soundG (c := cfg77) TTok FNSok mixed Tryd.func77 (show Tryd.f77.body = some c77 by kernel_rfl) (show Tryd.f77.ntmps = 6 by kernel_rfl) (show Tryd.f77.results.toList = [.tmp 2] by kernel_rfl) rfl ((F77_eq s g R ).mpr hF)

/- 78 pilaster/syntax.params -/
noncomputable def c78 : Code := match Tryd.f78.body with
  | some c => c
  | none => .skip
noncomputable def cfg78 : Cfg := ⟨Tryd.prog, TT, FNS, [], [], [], TCH, false, false, none, PNF, false⟩
def an78 : AnnG := (.seq .leaf (.seq (.seq .leaf (.blk (.loop ⟨[(7, .int .i64)], [], []⟩ (.seq .leaf (.seq (.cond .leaf .leaf) (.seq (.blk (.seq .leaf (.seq .leaf (.cond (.seq .leaf .leaf) .leaf)))) .leaf)))))) (.seq .leaf .leaf)))
def F78 (la : Option Addr) (ll : Nat) (lc : Nat) (g : G) (R : Value → G → Prop) : Prop :=
  ∃ Inv : Nat → Int → G → Prop, ((∃ m0 : Nat, Inv m0 (0 : Int) g)) ∧
  ∀ m : Nat, ∀ v_1 : Int, ∀ g1 : G, Le g g1 → Inv m v_1 g1 →
  ifB (ltI v_1 ((ll : Nat) : Int))
  ((0 ≤ v_1 ∧ v_1 < ((ll : Nat) : Int)) ∧ derefP la fun ad => ∃ s : ByteArray, g1.w.cell? (Addr.add ad (Int.toNat v_1 * 1)) = some (.string s) ∧ (CallsP Tryd.prog 73 #[(.string s)] g1 fun v g2 =>
  ∃ x : Bool, v = (.bool x) ∧ ifB (!x)
  (∀ g3 : G, Ex g2 g3 →
  R (.bool false) g3)
  ((0 ≤ v_1 ∧ v_1 ≤ ((lc : Nat) : Int)) ∧ (CallsP Tryd.prog 10 #[(.slice (slAddr la lc 0 1) ((Int.toNat v_1) - 0) (lc - 0)), (.string s)] g2 fun v g4 =>
  ∃ x_1 : Bool, v = (.bool x_1) ∧ ifB x_1
  (∀ g5 : G, Ex g4 g5 →
  R (.bool false) g5)
  (InI64 (v_1 + (1 : Int)) ∧ (∃ m_1 : Nat, m_1 < m ∧ Inv m_1 (v_1 + (1 : Int)) g4))))))
  (∀ g6 : G, Ex g1 g6 →
  R (.bool (leI ((ll : Nat) : Int) (4 : Int))) g6)
theorem F78_eq (la : Option Addr) (ll : Nat) (lc : Nat) (g : G) (R : Value → G → Prop) : fnG cfg78 26 [.tmp 2] c78 an78 [(.slice la ll lc)] g nobody R = F78 la ll lc g R := by kernel_rfl
theorem call78 (la : Option Addr) (ll : Nat) (lc : Nat) (g : G) (R : Value → G → Prop) (hF : F78 la ll lc g R) : CallsG Tryd.prog 78 #[(.slice la ll lc)] g nobody R :=
  fn_soundG (c := cfg78) TTok FNSok mixed Tryd.func78 (show Tryd.f78.body = some c78 by kernel_rfl) (show Tryd.f78.ntmps = 26 by kernel_rfl) (show Tryd.f78.results.toList = [.tmp 2] by kernel_rfl) rfl ((F78_eq la ll lc g R ).mpr hF)

/- 79 pilaster/syntax.many -/
noncomputable def c79 : Code := match Tryd.f79.body with
  | some c => c
  | none => .skip
noncomputable def cfg79 : Cfg := ⟨Tryd.prog, TT, FNS, [], [], [5], TCH, false, false, none, PNF, false⟩
def an79 : AnnG := (.seq .leaf (.seq .leaf .leaf))
def F79 (la : Option Addr) (ll : Nat) (lc : Nat) (cat : Int) (least : Int) (most : Int) (g : G) (R : Value → G → Prop) : Prop :=
  ∀ g1 : G, NewL g g1 3 ([(.int .i64 cat)] : List Value) →
  ifB (leI least ((ll : Nat) : Int))
  (ifB (leI ((ll : Nat) : Int) most)
  (∃ M1 : Nat → Prop, (∀ b, b < g.w.heap.size → M1 b → nobody b) ∧ (CallsG Tryd.prog 15 #[(.slice la ll lc), (.func (.func 86) #[] ⟨[(.pointer (some ⟨g.w.heap.size, 0, none⟩))]⟩)] g1 M1 fun v g2 =>
  ∃ x : Bool, v = (.bool x) ∧ ∀ g3 : G, Ex g2 g3 →
  R (.bool (!x)) g3))
  (∀ g4 : G, Ex g1 g4 →
  R (.bool false) g4))
  (∀ g5 : G, Ex g1 g5 →
  R (.bool false) g5)
theorem F79_eq (la : Option Addr) (ll : Nat) (lc : Nat) (cat : Int) (least : Int) (most : Int) (g : G) (R : Value → G → Prop) : fnG cfg79 25 [.tmp 8] c79 an79 [(.slice la ll lc), (.int .i64 cat), (.int .i64 least), (.int .i64 most)] g nobody R = F79 la ll lc cat least most g R := by kernel_rfl
theorem call79 (la : Option Addr) (ll : Nat) (lc : Nat) (cat : Int) (least : Int) (most : Int) (g : G) (R : Value → G → Prop) (hF : F79 la ll lc cat least most g R) : CallsG Tryd.prog 79 #[(.slice la ll lc), (.int .i64 cat), (.int .i64 least), (.int .i64 most)] g nobody R :=
  fn_soundG (c := cfg79) TTok FNSok mixed Tryd.func79 (show Tryd.f79.body = some c79 by kernel_rfl) (show Tryd.f79.ntmps = 25 by kernel_rfl) (show Tryd.f79.results.toList = [.tmp 8] by kernel_rfl) rfl ((F79_eq la ll lc cat least most g R ).mpr hF)

/- 80 pilaster/syntax.parts -/
noncomputable def c80 : Code := match Tryd.f80.body with
  | some c => c
  | none => .skip
noncomputable def cfg80 : Cfg := ⟨Tryd.prog, TT, FNS, [2], [(2, 2), (7, 2), (21, 2)], [], TCH, false, false, none, PNF, false⟩
def an80 : AnnG := (.seq .leaf (.seq (.seq .leaf (.cond (.seq .leaf .leaf) .leaf)) (.seq (.seq .leaf (.blk (.loop ⟨[(15, .int .i64)], [], []⟩ (.seq .leaf (.seq (.cond .leaf .leaf) (.seq (.blk (.seq .leaf (.seq .leaf (.cond (.seq .leaf .leaf) .leaf)))) .leaf)))))) (.seq .leaf .leaf))))
def F80 (t0 : Int) (t1 : Int) (t2 : ByteArray) (t3a : Option Addr) (t3l : Nat) (t3c : Nat) (t4a : Option Addr) (t4l : Nat) (t4c : Nat) (catsa : Option Addr) (catsl : Nat) (catsc : Nat) (g : G) (R : Value → G → Prop) : Prop :=
  ifB (!eqI ((t4l : Nat) : Int) ((catsl : Nat) : Int))
  (∀ g1 : G, Ex g g1 →
  R (.bool false) g1)
  (∃ Inv : Nat → Int → G → Prop, (∀ g2 : G, Ex g g2 →
  (∃ m0 : Nat, Inv m0 (0 : Int) g2)) ∧
  ∀ m : Nat, ∀ v_1 : Int, ∀ g3 : G, Le g g3 → Inv m v_1 g3 →
  ifB (ltI v_1 ((catsl : Nat) : Int))
  ((0 ≤ v_1 ∧ v_1 < ((catsl : Nat) : Int)) ∧ derefP catsa fun ad => ∃ cat : Int, g3.w.cell? (Addr.add ad (Int.toNat v_1 * 1)) = some (.int .i64 cat) ∧ (0 ≤ v_1 ∧ v_1 < ((t4l : Nat) : Int)) ∧ derefP t4a fun ad_1 => ∃ x0 : Int, ∃ x1 : Int, ∃ x2 : ByteArray, ∃ x3a : Option Addr, ∃ x3l : Nat, ∃ x3c : Nat, ∃ x4a : Option Addr, ∃ x4l : Nat, ∃ x4c : Nat, g3.w.cell? (Addr.add ad_1 (Int.toNat v_1 * 5)) = some (.int .i64 x0) ∧ g3.w.cell? (Addr.add (Addr.add ad_1 (Int.toNat v_1 * 5)) 1) = some (.int .i64 x1) ∧ g3.w.cell? (Addr.add (Addr.add ad_1 (Int.toNat v_1 * 5)) 2) = some (.string x2) ∧ g3.w.cell? (Addr.add (Addr.add ad_1 (Int.toNat v_1 * 5)) 3) = some (.slice x3a x3l x3c) ∧ g3.w.cell? (Addr.add (Addr.add ad_1 (Int.toNat v_1 * 5)) 4) = some (.slice x4a x4l x4c) ∧ (CallsP Tryd.prog 62 #[(.int .i64 cat), (.agg ⟨[(.int .i64 x0), (.int .i64 x1), (.string x2), (.slice x3a x3l x3c), (.slice x4a x4l x4c)]⟩)] g3 fun v g4 =>
  ∃ x : Bool, v = (.bool x) ∧ ifB (!x)
  (∀ g5 : G, Ex g4 g5 →
  R (.bool false) g5)
  (InI64 (v_1 + (1 : Int)) ∧ (∃ m_1 : Nat, m_1 < m ∧ Inv m_1 (v_1 + (1 : Int)) g4))))
  (∀ g6 : G, Ex g3 g6 →
  R (.bool true) g6))
theorem F80_eq (t0 : Int) (t1 : Int) (t2 : ByteArray) (t3a : Option Addr) (t3l : Nat) (t3c : Nat) (t4a : Option Addr) (t4l : Nat) (t4c : Nat) (catsa : Option Addr) (catsl : Nat) (catsc : Nat) (g : G) (R : Value → G → Prop) : fnG cfg80 29 [.tmp 4] c80 an80 [(.agg ⟨[(.int .i64 t0), (.int .i64 t1), (.string t2), (.slice t3a t3l t3c), (.slice t4a t4l t4c)]⟩), (.slice catsa catsl catsc)] g nobody R = F80 t0 t1 t2 t3a t3l t3c t4a t4l t4c catsa catsl catsc g R := by kernel_rfl
theorem call80 (t0 : Int) (t1 : Int) (t2 : ByteArray) (t3a : Option Addr) (t3l : Nat) (t3c : Nat) (t4a : Option Addr) (t4l : Nat) (t4c : Nat) (catsa : Option Addr) (catsl : Nat) (catsc : Nat) (g : G) (R : Value → G → Prop) (hF : F80 t0 t1 t2 t3a t3l t3c t4a t4l t4c catsa catsl catsc g R) : CallsG Tryd.prog 80 #[(.agg ⟨[(.int .i64 t0), (.int .i64 t1), (.string t2), (.slice t3a t3l t3c), (.slice t4a t4l t4c)]⟩), (.slice catsa catsl catsc)] g nobody R :=
  fn_soundG (c := cfg80) TTok FNSok mixed Tryd.func80 (show Tryd.f80.body = some c80 by kernel_rfl) (show Tryd.f80.ntmps = 29 by kernel_rfl) (show Tryd.f80.results.toList = [.tmp 4] by kernel_rfl) rfl ((F80_eq t0 t1 t2 t3a t3l t3c t4a t4l t4c catsa catsl catsc g R ).mpr hF)

/- 81 pilaster/syntax.only -/
noncomputable def c81 : Code := match Tryd.f81.body with
  | some c => c
  | none => .skip
noncomputable def cfg81 : Cfg := ⟨Tryd.prog, TT, FNS, [], [], [3], TCH, false, false, none, PNF, false⟩
def an81 : AnnG := (.seq .leaf (.seq .leaf .leaf))
def F81 (la : Option Addr) (ll : Nat) (lc : Nat) (opsa : Option Addr) (opsl : Nat) (opsc : Nat) (g : G) (R : Value → G → Prop) : Prop :=
  ∀ g1 : G, NewL g g1 114 ([(.slice opsa opsl opsc)] : List Value) →
  ∃ M1 : Nat → Prop, (∀ b, b < g.w.heap.size → M1 b → nobody b) ∧ (CallsG Tryd.prog 15 #[(.slice la ll lc), (.func (.func 87) #[] ⟨[(.pointer (some ⟨g.w.heap.size, 0, none⟩))]⟩)] g1 M1 fun v g2 =>
  ∃ x : Bool, v = (.bool x) ∧ ∀ g3 : G, Ex g2 g3 →
  R (.bool (!x)) g3)
theorem F81_eq (la : Option Addr) (ll : Nat) (lc : Nat) (opsa : Option Addr) (opsl : Nat) (opsc : Nat) (g : G) (R : Value → G → Prop) : fnG cfg81 9 [.tmp 4] c81 an81 [(.slice la ll lc), (.slice opsa opsl opsc)] g nobody R = F81 la ll lc opsa opsl opsc g R := by kernel_rfl
theorem call81 (la : Option Addr) (ll : Nat) (lc : Nat) (opsa : Option Addr) (opsl : Nat) (opsc : Nat) (g : G) (R : Value → G → Prop) (hF : F81 la ll lc opsa opsl opsc g R) : CallsG Tryd.prog 81 #[(.slice la ll lc), (.slice opsa opsl opsc)] g nobody R :=
  fn_soundG (c := cfg81) TTok FNSok mixed Tryd.func81 (show Tryd.f81.body = some c81 by kernel_rfl) (show Tryd.f81.ntmps = 9 by kernel_rfl) (show Tryd.f81.results.toList = [.tmp 4] by kernel_rfl) rfl ((F81_eq la ll lc opsa opsl opsc g R ).mpr hF)

/- 82 pilaster/syntax.differ -/
noncomputable def c82 : Code := match Tryd.f82.body with
  | some c => c
  | none => .skip
noncomputable def cfg82 : Cfg := ⟨Tryd.prog, TT, FNS, [], [], [4], TCH, false, false, none, PNF, false⟩
def an82 : AnnG := (.seq .leaf (.seq (.seq .leaf (.blk (.loop ⟨[(7, .int .i64)], [], []⟩ (.seq .leaf (.seq (.cond .leaf .leaf) (.seq (.blk (.seq .leaf (.seq .leaf (.cond (.seq .leaf .leaf) .leaf)))) .leaf)))))) (.seq .leaf .leaf)))
def F82 (la : Option Addr) (ll : Nat) (lc : Nat) (g : G) (R : Value → G → Prop) : Prop :=
  ∃ Inv : Nat → Int → G → Prop, ((∃ m0 : Nat, Inv m0 (0 : Int) g)) ∧
  ∀ m : Nat, ∀ v_1 : Int, ∀ g1 : G, Le g g1 → Inv m v_1 g1 →
  ifB (ltI v_1 ((ll : Nat) : Int))
  ((0 ≤ v_1 ∧ v_1 < ((ll : Nat) : Int)) ∧ derefP la fun ad => ∃ x0 : Int, ∃ x1 : Int, ∃ x2 : ByteArray, ∃ x3a : Option Addr, ∃ x3l : Nat, ∃ x3c : Nat, ∃ x4a : Option Addr, ∃ x4l : Nat, ∃ x4c : Nat, g1.w.cell? (Addr.add ad (Int.toNat v_1 * 5)) = some (.int .i64 x0) ∧ g1.w.cell? (Addr.add (Addr.add ad (Int.toNat v_1 * 5)) 1) = some (.int .i64 x1) ∧ g1.w.cell? (Addr.add (Addr.add ad (Int.toNat v_1 * 5)) 2) = some (.string x2) ∧ g1.w.cell? (Addr.add (Addr.add ad (Int.toNat v_1 * 5)) 3) = some (.slice x3a x3l x3c) ∧ g1.w.cell? (Addr.add (Addr.add ad (Int.toNat v_1 * 5)) 4) = some (.slice x4a x4l x4c) ∧ ∀ g2 : G, NewD g1 g2 44 [(.int .i64 (0 : Int)), (.int .i64 (0 : Int)), (.string (bs [])), (.slice none 0 0), (.slice none 0 0)] →
  stOk g2.w ⟨g1.w.heap.size, 0, none⟩ 5 ∧ ¬ g2.X (Addr.block ⟨g1.w.heap.size, 0, none⟩) ∧ mutAt g2 ⟨g1.w.heap.size, 0, none⟩ 5 ∧ ((Addr.block ⟨g1.w.heap.size, 0, none⟩) < g.w.heap.size → nobody (Addr.block ⟨g1.w.heap.size, 0, none⟩)) ∧ ∀ g3 : G, StG true g2 ⟨g1.w.heap.size, 0, none⟩ [(.int .i64 x0), (.int .i64 x1), (.string x2), (.slice x3a x3l x3c), (.slice x4a x4l x4c)] g3 →
  (0 ≤ v_1 ∧ v_1 ≤ ((lc : Nat) : Int)) ∧ ∃ M1 : Nat → Prop, (∀ b, b < g.w.heap.size → M1 b → nobody b) ∧ (CallsG Tryd.prog 15 #[(.slice (slAddr la lc 0 5) ((Int.toNat v_1) - 0) (lc - 0)), (.func (.func 89) #[] ⟨[(.pointer (some ⟨g1.w.heap.size, 0, none⟩))]⟩)] g3 M1 fun v g4 =>
  ∃ x : Bool, v = (.bool x) ∧ ifB x
  (∀ g5 : G, Ex g4 g5 →
  R (.bool false) g5)
  (InI64 (v_1 + (1 : Int)) ∧ (∃ m_1 : Nat, m_1 < m ∧ Inv m_1 (v_1 + (1 : Int)) g4))))
  (∀ g6 : G, Ex g1 g6 →
  R (.bool true) g6)
theorem F82_eq (la : Option Addr) (ll : Nat) (lc : Nat) (g : G) (R : Value → G → Prop) : fnG cfg82 18 [.tmp 2] c82 an82 [(.slice la ll lc)] g nobody R = F82 la ll lc g R := by kernel_rfl
theorem call82 (la : Option Addr) (ll : Nat) (lc : Nat) (g : G) (R : Value → G → Prop) (hF : F82 la ll lc g R) : CallsG Tryd.prog 82 #[(.slice la ll lc)] g nobody R :=
  fn_soundG (c := cfg82) TTok FNSok mixed Tryd.func82 (show Tryd.f82.body = some c82 by kernel_rfl) (show Tryd.f82.ntmps = 18 by kernel_rfl) (show Tryd.f82.results.toList = [.tmp 2] by kernel_rfl) rfl ((F82_eq la ll lc g R ).mpr hF)

/- 83 strings.CutPrefix -/
noncomputable def c83 : Code := match Tryd.f83.body with
  | some c => c
  | none => .skip
noncomputable def cfg83 : Cfg := ⟨Tryd.prog, TT, FNS, [], [], [], TCH, false, false, none, PNF, false⟩
def an83 : AnnG := (.seq .leaf (.seq .leaf .leaf))
def F83 (s : ByteArray) (prefix0 : ByteArray) (g : G) (R : Value → G → Prop) : Prop :=
  (CallsP Tryd.prog 90 #[(.string s), (.string prefix0)] g fun v g1 =>
  ∃ x0 : ByteArray, ∃ x1 : Bool, v = (.tuple ⟨[(.string x0), (.bool x1)]⟩) ∧ ∀ g2 : G, Ex g1 g2 →
  R (.tuple ⟨[(.string x0), (.bool x1)]⟩) g2)
theorem F83_eq (s : ByteArray) (prefix0 : ByteArray) (g : G) (R : Value → G → Prop) : fnG cfg83 11 [.tmp 4, .tmp 5] c83 an83 [(.string s), (.string prefix0)] g nobody R = F83 s prefix0 g R := by kernel_rfl
theorem call83 (s : ByteArray) (prefix0 : ByteArray) (g : G) (R : Value → G → Prop) (hF : F83 s prefix0 g R) : CallsG Tryd.prog 83 #[(.string s), (.string prefix0)] g nobody R :=
  fn_soundG (c := cfg83) TTok FNSok mixed Tryd.func83 (show Tryd.f83.body = some c83 by kernel_rfl) (show Tryd.f83.ntmps = 11 by kernel_rfl) (show Tryd.f83.results.toList = [.tmp 4, .tmp 5] by kernel_rfl) rfl ((F83_eq s prefix0 g R ).mpr hF)

/- 84 pilaster/syntax.path$1 -/
noncomputable def c84 : Code := match Tryd.f84.body with
  | some c => c
  | none => .skip
noncomputable def cfg84 : Cfg := ⟨Tryd.prog, TT, FNS, [], [], [], TCH, false, false, none, PNF, false⟩
def an84 : AnnG := (.seq .leaf (.seq .leaf .leaf))
def F84 (s : ByteArray) (g : G) (R : Value → G → Prop) : Prop :=
  (CallsP Tryd.prog 52 #[(.string s)] g fun v g1 =>
  ∃ x : Bool, v = (.bool x) ∧ ∀ g2 : G, Ex g1 g2 →
  R (.bool (!x)) g2)
theorem F84_eq (s : ByteArray) (g : G) (R : Value → G → Prop) : fnG cfg84 6 [.tmp 2] c84 an84 [(.string s)] g nobody R = F84 s g R := by kernel_rfl
theorem call84 (s : ByteArray) (g : G) (R : Value → G → Prop) (hF : F84 s g R) : CallsG Tryd.prog 84 #[(.string s)] g nobody R :=
  fn_soundG (c := cfg84) TTok FNSok mixed Tryd.func84 (show Tryd.f84.body = some c84 by kernel_rfl) (show Tryd.f84.ntmps = 6 by kernel_rfl) (show Tryd.f84.results.toList = [.tmp 2] by kernel_rfl) rfl ((F84_eq s g R ).mpr hF)

/- 85 pilaster/ident.word -/
noncomputable def c85 : Code := match Tryd.f85.body with
  | some c => c
  | none => .skip
noncomputable def cfg85 : Cfg := ⟨Tryd.prog, TT, FNS, [], [], [], TCH, false, false, none, PNF, false⟩
def an85 : AnnG := (.seq .leaf (.seq .leaf .leaf))
def F85 (s : ByteArray) (g : G) (R : Value → G → Prop) : Prop :=
  (CallsP Tryd.prog 91 #[(.string (bs [97, 110, 100, 97, 108, 115, 111, 32, 99, 97, 115, 101, 32, 100, 97, 116, 97, 32, 100, 105, 118, 32, 101, 108, 115, 101, 32, 101, 110, 100, 32, 102, 110, 32, 102, 117, 110, 32, 102, 117, 110, 99, 116, 111, 114, 32, 103, 101, 110, 101, 114, 97, 116, 105, 118, 101, 32, 105, 102, 32, 105, 109, 112, 111, 114, 116, 32, 105, 110, 32, 105, 110, 99, 108, 117, 100, 101, 32, 108, 101, 116, 32, 109, 111, 100, 32, 109, 111, 100, 117, 108, 101, 32, 111, 102, 32, 111, 112, 101, 110, 32, 111, 114, 101, 108, 115, 101, 32, 112, 97, 99, 107, 32, 115, 104, 97, 114, 105, 110, 103, 32, 115, 105, 103, 32, 115, 105, 103, 110, 97, 116, 117, 114, 101, 32, 115, 116, 114, 117, 99, 116, 32, 115, 116, 114, 117, 99, 116, 117, 114, 101, 32, 116, 104, 101, 110, 32, 116, 121, 112, 101, 32, 117, 110, 112, 97, 99, 107, 32, 118, 97, 108, 32, 119, 105, 116, 104]))] g fun v g1 =>
  ∃ xa : Option Addr, ∃ xl : Nat, ∃ xc : Nat, v = (.slice xa xl xc) ∧ (CallsP Tryd.prog 10 #[(.slice xa xl xc), (.string s)] g1 fun v g2 =>
  ∃ x : Bool, v = (.bool x) ∧ ∀ g3 : G, Ex g2 g3 →
  R (.bool x) g3))
theorem F85_eq (s : ByteArray) (g : G) (R : Value → G → Prop) : fnG cfg85 6 [.tmp 2] c85 an85 [(.string s)] g nobody R = F85 s g R := by kernel_rfl
theorem call85 (s : ByteArray) (g : G) (R : Value → G → Prop) (hF : F85 s g R) : CallsG Tryd.prog 85 #[(.string s)] g nobody R :=
  fn_soundG (c := cfg85) TTok FNSok mixed Tryd.func85 (show Tryd.f85.body = some c85 by kernel_rfl) (show Tryd.f85.ntmps = 6 by kernel_rfl) (show Tryd.f85.results.toList = [.tmp 2] by kernel_rfl) rfl ((F85_eq s g R ).mpr hF)

/- 86 pilaster/syntax.many$1 -/
noncomputable def c86 : Code := match Tryd.f86.body with
  | some c => c
  | none => .skip
noncomputable def cfg86 : Cfg := ⟨Tryd.prog, TT, FNS, [2], [(2, 2)], [], TCH, false, false, none, PNF, false⟩
def an86 : AnnG := (.seq .leaf (.seq .leaf .leaf))
def F86 (x0 : Int) (x1 : Int) (x2 : ByteArray) (x3a : Option Addr) (x3l : Nat) (x3c : Nat) (x4a : Option Addr) (x4l : Nat) (x4c : Nat) (c0 : Option Addr) (g : G) (R : Value → G → Prop) : Prop :=
  ∀ g1 : G, Ex g g1 →
  derefP c0 fun ad => ∃ x : Int, g1.w.cell? ad = some (.int .i64 x) ∧ (CallsP Tryd.prog 62 #[(.int .i64 x), (.agg ⟨[(.int .i64 x0), (.int .i64 x1), (.string x2), (.slice x3a x3l x3c), (.slice x4a x4l x4c)]⟩)] g1 fun v g2 =>
  ∃ x_1 : Bool, v = (.bool x_1) ∧ ∀ g3 : G, Ex g2 g3 →
  R (.bool (!x_1)) g3)
theorem F86_eq (x0 : Int) (x1 : Int) (x2 : ByteArray) (x3a : Option Addr) (x3l : Nat) (x3c : Nat) (x4a : Option Addr) (x4l : Nat) (x4c : Nat) (c0 : Option Addr) (g : G) (R : Value → G → Prop) : fnG cfg86 8 [.tmp 3] c86 an86 [(.agg ⟨[(.int .i64 x0), (.int .i64 x1), (.string x2), (.slice x3a x3l x3c), (.slice x4a x4l x4c)]⟩), (.pointer c0)] g nobody R = F86 x0 x1 x2 x3a x3l x3c x4a x4l x4c c0 g R := by kernel_rfl
theorem call86 (x0 : Int) (x1 : Int) (x2 : ByteArray) (x3a : Option Addr) (x3l : Nat) (x3c : Nat) (x4a : Option Addr) (x4l : Nat) (x4c : Nat) (c0 : Option Addr) (g : G) (R : Value → G → Prop) (hF : F86 x0 x1 x2 x3a x3l x3c x4a x4l x4c c0 g R) : CallsG Tryd.prog 86 #[(.agg ⟨[(.int .i64 x0), (.int .i64 x1), (.string x2), (.slice x3a x3l x3c), (.slice x4a x4l x4c)]⟩), (.pointer c0)] g nobody R :=
  fn_soundG (c := cfg86) TTok FNSok mixed Tryd.func86 (show Tryd.f86.body = some c86 by kernel_rfl) (show Tryd.f86.ntmps = 8 by kernel_rfl) (show Tryd.f86.results.toList = [.tmp 3] by kernel_rfl) rfl ((F86_eq x0 x1 x2 x3a x3l x3c x4a x4l x4c c0 g R ).mpr hF)

/- 87 pilaster/syntax.only$1 -/
noncomputable def c87 : Code := match Tryd.f87.body with
  | some c => c
  | none => .skip
noncomputable def cfg87 : Cfg := ⟨Tryd.prog, TT, FNS, [2], [(2, 2), (5, 2)], [], TCH, false, false, none, PNF, false⟩
def an87 : AnnG := (.seq .leaf (.seq .leaf .leaf))
def F87 (x0 : Int) (x1 : Int) (x2 : ByteArray) (x3a : Option Addr) (x3l : Nat) (x3c : Nat) (x4a : Option Addr) (x4l : Nat) (x4c : Nat) (c0 : Option Addr) (g : G) (R : Value → G → Prop) : Prop :=
  ∀ g1 : G, Ex g g1 →
  derefP c0 fun ad => ∃ xa : Option Addr, ∃ xl : Nat, ∃ xc : Nat, g1.w.cell? ad = some (.slice xa xl xc) ∧ (CallsP Tryd.prog 88 #[(.slice xa xl xc), (.int .i64 x0)] g1 fun v g2 =>
  ∃ x : Bool, v = (.bool x) ∧ ∀ g3 : G, Ex g2 g3 →
  R (.bool (!x)) g3)
theorem F87_eq (x0 : Int) (x1 : Int) (x2 : ByteArray) (x3a : Option Addr) (x3l : Nat) (x3c : Nat) (x4a : Option Addr) (x4l : Nat) (x4c : Nat) (c0 : Option Addr) (g : G) (R : Value → G → Prop) : fnG cfg87 9 [.tmp 3] c87 an87 [(.agg ⟨[(.int .i64 x0), (.int .i64 x1), (.string x2), (.slice x3a x3l x3c), (.slice x4a x4l x4c)]⟩), (.pointer c0)] g nobody R = F87 x0 x1 x2 x3a x3l x3c x4a x4l x4c c0 g R := by kernel_rfl
theorem call87 (x0 : Int) (x1 : Int) (x2 : ByteArray) (x3a : Option Addr) (x3l : Nat) (x3c : Nat) (x4a : Option Addr) (x4l : Nat) (x4c : Nat) (c0 : Option Addr) (g : G) (R : Value → G → Prop) (hF : F87 x0 x1 x2 x3a x3l x3c x4a x4l x4c c0 g R) : CallsG Tryd.prog 87 #[(.agg ⟨[(.int .i64 x0), (.int .i64 x1), (.string x2), (.slice x3a x3l x3c), (.slice x4a x4l x4c)]⟩), (.pointer c0)] g nobody R :=
  fn_soundG (c := cfg87) TTok FNSok mixed Tryd.func87 (show Tryd.f87.body = some c87 by kernel_rfl) (show Tryd.f87.ntmps = 9 by kernel_rfl) (show Tryd.f87.results.toList = [.tmp 3] by kernel_rfl) rfl ((F87_eq x0 x1 x2 x3a x3l x3c x4a x4l x4c c0 g R ).mpr hF)

/- 88 slices.Contains[[]int,int] -/
noncomputable def c88 : Code := match Tryd.f88.body with
  | some c => c
  | none => .skip
noncomputable def cfg88 : Cfg := ⟨Tryd.prog, TT, FNS, [], [], [], TCH, false, false, none, PNF, false⟩
def an88 : AnnG := (.seq .leaf (.seq .leaf .leaf))
def F88 (sa : Option Addr) (sl : Nat) (sc : Nat) (v_1 : Int) (g : G) (R : Value → G → Prop) : Prop :=
  (CallsP Tryd.prog 92 #[(.slice sa sl sc), (.int .i64 v_1)] g fun v g1 =>
  ∃ x : Int, v = (.int .i64 x) ∧ ∀ g2 : G, Ex g1 g2 →
  R (.bool (leI (0 : Int) x)) g2)
theorem F88_eq (sa : Option Addr) (sl : Nat) (sc : Nat) (v_1 : Int) (g : G) (R : Value → G → Prop) : fnG cfg88 9 [.tmp 4] c88 an88 [(.slice sa sl sc), (.int .i64 v_1)] g nobody R = F88 sa sl sc v_1 g R := by kernel_rfl
theorem call88 (sa : Option Addr) (sl : Nat) (sc : Nat) (v_1 : Int) (g : G) (R : Value → G → Prop) (hF : F88 sa sl sc v_1 g R) : CallsG Tryd.prog 88 #[(.slice sa sl sc), (.int .i64 v_1)] g nobody R :=
  fn_soundG (c := cfg88) TTok FNSok mixed Tryd.func88 (show Tryd.f88.body = some c88 by kernel_rfl) (show Tryd.f88.ntmps = 9 by kernel_rfl) (show Tryd.f88.results.toList = [.tmp 4] by kernel_rfl) rfl ((F88_eq sa sl sc v_1 g R ).mpr hF)

/- 89 pilaster/syntax.differ$1 -/
noncomputable def c89 : Code := match Tryd.f89.body with
  | some c => c
  | none => .skip
noncomputable def cfg89 : Cfg := ⟨Tryd.prog, TT, FNS, [2], [(2, 2), (6, 2)], [], TCH, false, false, none, PNF, false⟩
def an89 : AnnG := (.seq .leaf (.seq .leaf .leaf))
def F89 (y0 : Int) (y1 : Int) (y2 : ByteArray) (y3a : Option Addr) (y3l : Nat) (y3c : Nat) (y4a : Option Addr) (y4l : Nat) (y4c : Nat) (c0 : Option Addr) (g : G) (R : Value → G → Prop) : Prop :=
  derefP c0 fun ad => ∀ g1 : G, Ex g g1 →
  ∃ x : ByteArray, g1.w.cell? (Addr.add ad 2) = some (.string x) ∧ ∀ g2 : G, Ex g1 g2 →
  R (.bool (strEq x y2)) g2
theorem F89_eq (y0 : Int) (y1 : Int) (y2 : ByteArray) (y3a : Option Addr) (y3l : Nat) (y3c : Nat) (y4a : Option Addr) (y4l : Nat) (y4c : Nat) (c0 : Option Addr) (g : G) (R : Value → G → Prop) : fnG cfg89 9 [.tmp 3] c89 an89 [(.agg ⟨[(.int .i64 y0), (.int .i64 y1), (.string y2), (.slice y3a y3l y3c), (.slice y4a y4l y4c)]⟩), (.pointer c0)] g nobody R = F89 y0 y1 y2 y3a y3l y3c y4a y4l y4c c0 g R := by kernel_rfl
theorem call89 (y0 : Int) (y1 : Int) (y2 : ByteArray) (y3a : Option Addr) (y3l : Nat) (y3c : Nat) (y4a : Option Addr) (y4l : Nat) (y4c : Nat) (c0 : Option Addr) (g : G) (R : Value → G → Prop) (hF : F89 y0 y1 y2 y3a y3l y3c y4a y4l y4c c0 g R) : CallsG Tryd.prog 89 #[(.agg ⟨[(.int .i64 y0), (.int .i64 y1), (.string y2), (.slice y3a y3l y3c), (.slice y4a y4l y4c)]⟩), (.pointer c0)] g nobody R :=
  fn_soundG (c := cfg89) TTok FNSok mixed Tryd.func89 (show Tryd.f89.body = some c89 by kernel_rfl) (show Tryd.f89.ntmps = 9 by kernel_rfl) (show Tryd.f89.results.toList = [.tmp 3] by kernel_rfl) rfl ((F89_eq y0 y1 y2 y3a y3l y3c y4a y4l y4c c0 g R ).mpr hF)

/- 90 internal/stringslite.CutPrefix -/
noncomputable def c90 : Code := match Tryd.f90.body with
  | some c => c
  | none => .skip
noncomputable def cfg90 : Cfg := ⟨Tryd.prog, TT, FNS, [], [], [], TCH, false, false, none, PNF, false⟩
def an90 : AnnG := (.seq .leaf (.seq (.seq .leaf (.cond (.seq .leaf .leaf) .leaf)) (.seq .leaf .leaf)))
def F90 (s : ByteArray) (prefix0 : ByteArray) (g : G) (R : Value → G → Prop) : Prop :=
  (CallsP Tryd.prog 93 #[(.string s), (.string prefix0)] g fun v g1 =>
  ∃ x : Bool, v = (.bool x) ∧ ifB (!x)
  (∀ g2 : G, Ex g1 g2 →
  R (.tuple ⟨[(.string s), (.bool false)]⟩) g2)
  ((0 ≤ ((prefix0.size : Nat) : Int) ∧ ((prefix0.size : Nat) : Int) ≤ ((s.size : Nat) : Int)) ∧ ∀ g3 : G, Ex g1 g3 →
  R (.tuple ⟨[(.string (ByteArray.extract s (Int.toNat ((prefix0.size : Nat) : Int)) s.size)), (.bool true)]⟩) g3))
theorem F90_eq (s : ByteArray) (prefix0 : ByteArray) (g : G) (R : Value → G → Prop) : fnG cfg90 15 [.tmp 4, .tmp 5] c90 an90 [(.string s), (.string prefix0)] g nobody R = F90 s prefix0 g R := by kernel_rfl
theorem call90 (s : ByteArray) (prefix0 : ByteArray) (g : G) (R : Value → G → Prop) (hF : F90 s prefix0 g R) : CallsG Tryd.prog 90 #[(.string s), (.string prefix0)] g nobody R :=
  fn_soundG (c := cfg90) TTok FNSok mixed Tryd.func90 (show Tryd.f90.body = some c90 by kernel_rfl) (show Tryd.f90.ntmps = 15 by kernel_rfl) (show Tryd.f90.results.toList = [.tmp 4, .tmp 5] by kernel_rfl) rfl ((F90_eq s prefix0 g R ).mpr hF)

/- 91 strings.Fields -/
/- 92 slices.Index[[]int,int] -/
noncomputable def c92 : Code := match Tryd.f92.body with
  | some c => c
  | none => .skip
noncomputable def cfg92 : Cfg := ⟨Tryd.prog, TT, FNS, [], [], [], TCH, false, false, none, PNF, false⟩
def an92 : AnnG := (.seq .leaf (.seq (.seq .leaf (.blk (.loop ⟨[(8, .int .i64)], [], []⟩ (.seq .leaf (.seq (.cond .leaf .leaf) (.seq (.blk (.seq .leaf (.seq .leaf (.cond (.seq .leaf .leaf) .leaf)))) .leaf)))))) (.seq .leaf .leaf)))
def F92 (sa : Option Addr) (sl : Nat) (sc : Nat) (v_1 : Int) (g : G) (R : Value → G → Prop) : Prop :=
  ∃ Inv : Nat → Int → G → Prop, ((∃ m0 : Nat, Inv m0 (0 : Int) g)) ∧
  ∀ m : Nat, ∀ v_2 : Int, ∀ g1 : G, Le g g1 → Inv m v_2 g1 →
  ifB (ltI v_2 ((sl : Nat) : Int))
  ((0 ≤ v_2 ∧ v_2 < ((sl : Nat) : Int)) ∧ derefP sa fun ad => ∃ x : Int, g1.w.cell? (Addr.add ad (Int.toNat v_2 * 1)) = some (.int .i64 x) ∧ ifB (eqI v_1 x)
  (∀ g2 : G, Ex g1 g2 →
  R (.int .i64 v_2) g2)
  (InI64 (v_2 + (1 : Int)) ∧ (∃ m_1 : Nat, m_1 < m ∧ Inv m_1 (v_2 + (1 : Int)) g1)))
  (∀ g3 : G, Ex g1 g3 →
  R (.int .i64 (-1 : Int)) g3)
theorem F92_eq (sa : Option Addr) (sl : Nat) (sc : Nat) (v_1 : Int) (g : G) (R : Value → G → Prop) : fnG cfg92 19 [.tmp 4] c92 an92 [(.slice sa sl sc), (.int .i64 v_1)] g nobody R = F92 sa sl sc v_1 g R := by kernel_rfl
theorem call92 (sa : Option Addr) (sl : Nat) (sc : Nat) (v_1 : Int) (g : G) (R : Value → G → Prop) (hF : F92 sa sl sc v_1 g R) : CallsG Tryd.prog 92 #[(.slice sa sl sc), (.int .i64 v_1)] g nobody R :=
  fn_soundG (c := cfg92) TTok FNSok mixed Tryd.func92 (show Tryd.f92.body = some c92 by kernel_rfl) (show Tryd.f92.ntmps = 19 by kernel_rfl) (show Tryd.f92.results.toList = [.tmp 4] by kernel_rfl) rfl ((F92_eq sa sl sc v_1 g R ).mpr hF)

/- 93 internal/stringslite.HasPrefix -/
noncomputable def c93 : Code := match Tryd.f93.body with
  | some c => c
  | none => .skip
noncomputable def cfg93 : Cfg := ⟨Tryd.prog, TT, FNS, [], [], [], TCH, false, false, none, PNF, false⟩
def an93 : AnnG := (.seq .leaf (.seq .leaf .leaf))
def F93 (s : ByteArray) (prefix0 : ByteArray) (g : G) (R : Value → G → Prop) : Prop :=
  ifB (leI ((prefix0.size : Nat) : Int) ((s.size : Nat) : Int))
  ((0 ≤ ((prefix0.size : Nat) : Int) ∧ ((prefix0.size : Nat) : Int) ≤ ((s.size : Nat) : Int)) ∧ ∀ g1 : G, Ex g g1 →
  R (.bool (strEq (ByteArray.extract s 0 (Int.toNat ((prefix0.size : Nat) : Int))) prefix0)) g1)
  (∀ g2 : G, Ex g g2 →
  R (.bool false) g2)
theorem F93_eq (s : ByteArray) (prefix0 : ByteArray) (g : G) (R : Value → G → Prop) : fnG cfg93 18 [.tmp 4] c93 an93 [(.string s), (.string prefix0)] g nobody R = F93 s prefix0 g R := by kernel_rfl
theorem call93 (s : ByteArray) (prefix0 : ByteArray) (g : G) (R : Value → G → Prop) (hF : F93 s prefix0 g R) : CallsG Tryd.prog 93 #[(.string s), (.string prefix0)] g nobody R :=
  fn_soundG (c := cfg93) TTok FNSok mixed Tryd.func93 (show Tryd.f93.body = some c93 by kernel_rfl) (show Tryd.f93.ntmps = 18 by kernel_rfl) (show Tryd.f93.results.toList = [.tmp 4] by kernel_rfl) rfl ((F93_eq s prefix0 g R ).mpr hF)

/- 94 strings.FieldsFunc -/
/- 95 unicode.IsSpace -/
end Go.Proofs.YtmkdbndniffkfaaDoor
