/- Printed by a program (wip/tools/gen2.py): for each function its condition as a plain formula, and that the formula gives the call. -/
import Derived.Test.YtmakoecgogjemaaDoorProg
import Derived.Test.YtmakoecgogjemaaDoorVda
namespace Go.Proofs.YtmakoecgogjemaaDoor.P8
open Go Go.Vc Go.RowKit
set_option maxRecDepth 100000
set_option linter.unusedVariables false
def TT : List TI := [
  ⟨3, .int .i64, 1, 8, some (.int .i64 (0 : Int)), (.e (.one (.int .i64)))⟩,
  ⟨4, .bool, 1, 1, some (.bool false), (.e (.one (.bool)))⟩,
  ⟨25, .struct #[{ name := "Op", type := 3, offset := 0, embedded := false, tag := "", pkgPath := "", byteOffset := 0 }, { name := "N", type := 3, offset := 1, embedded := false, tag := "", pkgPath := "", byteOffset := 8 }, { name := "S", type := 9, offset := 2, embedded := false, tag := "", pkgPath := "", byteOffset := 16 }, { name := "Names", type := 22, offset := 3, embedded := false, tag := "", pkgPath := "", byteOffset := 32 }, { name := "L", type := 23, offset := 4, embedded := false, tag := "", pkgPath := "", byteOffset := 56 }], 5, 80, some (.agg ⟨[(.int .i64 (0 : Int)), (.int .i64 (0 : Int)), (.string (bs [])), (.slice none 0 0), (.slice none 0 0)]⟩), (.e (.agg [(.int .i64), (.int .i64), (.str), (.sl), (.sl)]))⟩,
  ⟨35, .int .i64, 1, 8, some (.int .i64 (0 : Int)), (.e (.one (.int .i64)))⟩,
  ⟨41, .slice 3, 1, 24, some (.slice none 0 0), (.e (.one (.sl)))⟩,
  ⟨42, .tuple #[25, 35], 1, 0, some (.tuple ⟨[(.agg ⟨[(.int .i64 (0 : Int)), (.int .i64 (0 : Int)), (.string (bs [])), (.slice none 0 0), (.slice none 0 0)]⟩), (.int .i64 (0 : Int))]⟩), (.tup [(.agg [(.int .i64), (.int .i64), (.str), (.sl), (.sl)]), (.one (.int .i64))])⟩,
  ⟨48, .tuple #[25, 4], 1, 0, some (.tuple ⟨[(.agg ⟨[(.int .i64 (0 : Int)), (.int .i64 (0 : Int)), (.string (bs [])), (.slice none 0 0), (.slice none 0 0)]⟩), (.bool false)]⟩), (.tup [(.agg [(.int .i64), (.int .i64), (.str), (.sl), (.sl)]), (.one (.bool))])⟩]
theorem TTok : TOk Tryd.prog TT := tok_of (by kernel_rfl)
def FNS : List Nat := [9, 11, 13, 15, 17, 25, 27]
theorem FNSok : FOk Tryd.prog FNS := fok_of (by kernel_rfl)
theorem mixed : Tryd.prog.follows .mixedOrders = true := by kernel_rfl
def TCH : List Nat := [15, 37, 38, 40, 49, 52, 55]

/- 8 pilaster/pilasterlaw03.SyntaxAgain -/
noncomputable def c8 : Code := match Tryd.f8.body with
  | some c => c
  | none => .skip
noncomputable def cfg8 : Cfg := ⟨Tryd.prog, TT, FNS, [3, 5, 10, 12, 14, 16, 18], [(3, 3), (5, 5), (10, 10), (12, 12), (14, 14), (16, 16), (18, 18), (36, 3), (62, 12), (86, 12)], [4], TCH, false, false⟩
def an8 : AnnG := (.seq .leaf (.seq (.seq .leaf (.cond (.seq .leaf .leaf) .leaf)) (.seq .leaf (.join ⟨[], [], []⟩ (.seq (.treeB 18 (.quiet 0 (.eff 1 (.quiet 2 (.quiet 3 (.quiet 4 (.eff 5 (.quiet 6 (.quiet 7 (.quiet 8 (.quiet 9 (.quiet 10 (.quiet 11 (.quiet 12 (.quiet 13 (.quiet 14 (.quiet 15 (.quiet 17 (.eff 16 .fin .fin)))))))))))) .fin)))) .fin))) (.cond (.seq .leaf .leaf) .leaf)) (.seq .leaf (.seq .leaf (.seq .leaf (.seq (.seq .leaf (.cond (.seq .leaf .leaf) .leaf)) (.seq .leaf (.join ⟨[], [], []⟩ (.seq .leaf (.cond (.seq .leaf .leaf) .leaf)) (.seq (.seq .leaf (.cond (.seq .leaf .leaf) .leaf)) (.seq .leaf (.seq .leaf (.seq (.treeB 25 (.quiet 0 (.quiet 1 (.quiet 2 (.quiet 3 (.eff 4 (.quiet 5 (.quiet 6 (.quiet 7 (.quiet 8 (.quiet 9 (.quiet 10 (.quiet 11 (.quiet 12 (.eff 13 (.quiet 14 (.quiet 15 (.quiet 16 (.quiet 18 (.quiet 20 (.quiet 23 (.eff 17 (.eff 19 (.eff 21 (.quiet 22 (.eff 24 .fin .fin)) .fin) .fin) .fin))))))) .fin))))))))) .fin)))))) .leaf))))))))))))))
def F8 (t0 : Int) (t1 : Int) (t2 : ByteArray) (t3a : Option Addr) (t3l : Nat) (t3c : Nat) (t4a : Option Addr) (t4l : Nat) (t4c : Nat) (ata : Option Addr) (atl : Nat) (atc : Nat) (by0 : Int) (by1 : Int) (by2 : ByteArray) (by3a : Option Addr) (by3l : Nat) (by3c : Nat) (by4a : Option Addr) (by4l : Nat) (by4c : Nat) (g : G) (R : Value → G → Prop) : Prop :=
  ∀ g1 : G, Ex g g1 →
  ∀ g2 : G, NewL g1 g2 41 ([(.slice ata atl atc)] : List Value) →
  ∀ g3 : G, Ex g2 g3 →
  (CallsP Tryd.prog 9 #[] g3 fun v g4 =>
  ∃ x : Bool, v = (.bool x) ∧ ifB (!x)
  (∀ g5 : G, Ex g4 g5 →
  R (.bool false) g5)
  (∀ g6 : G, NewD g4 g6 3 [(.int .i64 (0 : Int))] →
  ∀ g7 : G, NewD g6 g7 3 [(.int .i64 (0 : Int))] →
  stOk g7.w ⟨g4.w.heap.size, 0, none⟩ 1 ∧ ¬ g7.X (Addr.block ⟨g4.w.heap.size, 0, none⟩) ∧ mutAt g7 ⟨g4.w.heap.size, 0, none⟩ 1 ∧ ((Addr.block ⟨g4.w.heap.size, 0, none⟩) < g.w.heap.size → nobody (Addr.block ⟨g4.w.heap.size, 0, none⟩)) ∧ ∀ g8 : G, StG false g7 ⟨g4.w.heap.size, 0, none⟩ [(.int .i64 (1000 : Int))] g8 →
  stOk g8.w ⟨g6.w.heap.size, 0, none⟩ 1 ∧ ¬ g8.X (Addr.block ⟨g6.w.heap.size, 0, none⟩) ∧ mutAt g8 ⟨g6.w.heap.size, 0, none⟩ 1 ∧ ((Addr.block ⟨g6.w.heap.size, 0, none⟩) < g.w.heap.size → nobody (Addr.block ⟨g6.w.heap.size, 0, none⟩)) ∧ ∀ g9 : G, StG false g8 ⟨g6.w.heap.size, 0, none⟩ [(.int .i64 (1000 : Int))] g9 →
  ∀ J : G → Prop,
  (∀ g10 : G, (Enters Tryd.prog 29 ∧ (CallsP Tryd.prog 29 ((⟨[(.agg ⟨[(.int .i64 t0), (.int .i64 t1), (.string t2), (.slice t3a t3l t3c), (.slice t4a t4l t4c)]⟩)]⟩ : Array Value) ++ ⟨[(.pointer (some ⟨g1.w.heap.size, 0, none⟩))]⟩) g10 fun v g11 =>
  ∃ x00 : Int, ∃ x01 : Int, ∃ x02 : ByteArray, ∃ x03a : Option Addr, ∃ x03l : Nat, ∃ x03c : Nat, ∃ x04a : Option Addr, ∃ x04l : Nat, ∃ x04c : Nat, ∃ x1 : Bool, v = (.tuple ⟨[(.agg ⟨[(.int .i64 x00), (.int .i64 x01), (.string x02), (.slice x03a x03l x03c), (.slice x04a x04l x04c)]⟩), (.bool x1)]⟩) ∧ ∀ g12 : G, Ex g11 g12 →
  ∃ ata_1 : Option Addr, ∃ atl_1 : Nat, ∃ atc_1 : Nat, g12.w.cell? ⟨g1.w.heap.size, 0, none⟩ = some (.slice ata_1 atl_1 atc_1) ∧ (CallsP Tryd.prog 27 #[(.agg ⟨[(.int .i64 t0), (.int .i64 t1), (.string t2), (.slice t3a t3l t3c), (.slice t4a t4l t4c)]⟩), (.slice ata_1 atl_1 atc_1), (.agg ⟨[(.int .i64 by0), (.int .i64 by1), (.string by2), (.slice by3a by3l by3c), (.slice by4a by4l by4c)]⟩)] g12 fun v g13 =>
  ∃ x00_1 : Int, ∃ x01_1 : Int, ∃ x02_1 : ByteArray, ∃ x03a_1 : Option Addr, ∃ x03l_1 : Nat, ∃ x03c_1 : Nat, ∃ x04a_1 : Option Addr, ∃ x04l_1 : Nat, ∃ x04c_1 : Nat, ∃ x1_1 : Int, v = (.tuple ⟨[(.agg ⟨[(.int .i64 x00_1), (.int .i64 x01_1), (.string x02_1), (.slice x03a_1 x03l_1 x03c_1), (.slice x04a_1 x04l_1 x04c_1)]⟩), (.int .i64 x1_1)]⟩) ∧ ifB (!x1)
  (ifB (eqI x1_1 (2 : Int))
  (∀ g14 : G, Ex g13 g14 →
  R (.bool (eqI x00_1 (0 : Int))) g14)
  (∀ g15 : G, Ex g13 g15 →
  R (.bool false) g15))
  (∀ g16 : G, Ex g13 g16 →
  ∃ ata_2 : Option Addr, ∃ atl_2 : Nat, ∃ atc_2 : Nat, g16.w.cell? ⟨g1.w.heap.size, 0, none⟩ = some (.slice ata_2 atl_2 atc_2) ∧ (CallsP Tryd.prog 27 #[(.agg ⟨[(.int .i64 t0), (.int .i64 t1), (.string t2), (.slice t3a t3l t3c), (.slice t4a t4l t4c)]⟩), (.slice ata_2 atl_2 atc_2), (.agg ⟨[(.int .i64 x00), (.int .i64 x01), (.string x02), (.slice x03a x03l x03c), (.slice x04a x04l x04c)]⟩)] g16 fun v g17 =>
  ∃ x00_2 : Int, ∃ x01_2 : Int, ∃ x02_2 : ByteArray, ∃ x03a_2 : Option Addr, ∃ x03l_2 : Nat, ∃ x03c_2 : Nat, ∃ x04a_2 : Option Addr, ∃ x04l_2 : Nat, ∃ x04c_2 : Nat, ∃ x1_2 : Int, v = (.tuple ⟨[(.agg ⟨[(.int .i64 x00_2), (.int .i64 x01_2), (.string x02_2), (.slice x03a_2 x03l_2 x03c_2), (.slice x04a_2 x04l_2 x04c_2)]⟩), (.int .i64 x1_2)]⟩) ∧ ∀ J_1 : G → Prop,
  (∀ g18 : G, (ifB (!eqI x1_1 (0 : Int))
  (ifB (eqI x1_1 (3 : Int))
  (∀ g19 : G, Ex g18 g19 →
  R (.bool (eqI x00_1 (0 : Int))) g19)
  (∀ g20 : G, Ex g18 g20 →
  R (.bool false) g20))
  (Enters Tryd.prog 29 ∧ (CallsP Tryd.prog 29 ((⟨[(.agg ⟨[(.int .i64 x00_1), (.int .i64 x01_1), (.string x02_1), (.slice x03a_1 x03l_1 x03c_1), (.slice x04a_1 x04l_1 x04c_1)]⟩)]⟩ : Array Value) ++ ⟨[(.pointer (some ⟨g1.w.heap.size, 0, none⟩))]⟩) g18 fun v g21 =>
  ∃ x00_3 : Int, ∃ x01_3 : Int, ∃ x02_3 : ByteArray, ∃ x03a_3 : Option Addr, ∃ x03l_3 : Nat, ∃ x03c_3 : Nat, ∃ x04a_3 : Option Addr, ∃ x04l_3 : Nat, ∃ x04c_3 : Nat, ∃ x1_3 : Bool, v = (.tuple ⟨[(.agg ⟨[(.int .i64 x00_3), (.int .i64 x01_3), (.string x02_3), (.slice x03a_3 x03l_3 x03c_3), (.slice x04a_3 x04l_3 x04c_3)]⟩), (.bool x1_3)]⟩) ∧ ∀ g22 : G, Ex g21 g22 →
  ∃ ata_3 : Option Addr, ∃ atl_3 : Nat, ∃ atc_3 : Nat, g22.w.cell? ⟨g1.w.heap.size, 0, none⟩ = some (.slice ata_3 atl_3 atc_3) ∧ (CallsP Tryd.prog 27 #[(.agg ⟨[(.int .i64 x00_1), (.int .i64 x01_1), (.string x02_1), (.slice x03a_1 x03l_1 x03c_1), (.slice x04a_1 x04l_1 x04c_1)]⟩), (.slice ata_3 atl_3 atc_3), (.agg ⟨[(.int .i64 x00), (.int .i64 x01), (.string x02), (.slice x03a x03l x03c), (.slice x04a x04l x04c)]⟩)] g22 fun v g23 =>
  ∃ x00_4 : Int, ∃ x01_4 : Int, ∃ x02_4 : ByteArray, ∃ x03a_4 : Option Addr, ∃ x03l_4 : Nat, ∃ x03c_4 : Nat, ∃ x04a_4 : Option Addr, ∃ x04l_4 : Nat, ∃ x04c_4 : Nat, ∃ x1_4 : Int, v = (.tuple ⟨[(.agg ⟨[(.int .i64 x00_4), (.int .i64 x01_4), (.string x02_4), (.slice x03a_4 x03l_4 x03c_4), (.slice x04a_4 x04l_4 x04c_4)]⟩), (.int .i64 x1_4)]⟩) ∧ ∀ g24 : G, Ex g23 g24 →
  ∃ MR1 : Nat → Prop, (∀ b, MR1 b → ¬ g24.X b) ∧ ifB x1_3
  ((CallsP Tryd.prog 25 #[(.agg ⟨[(.int .i64 x00_3), (.int .i64 x01_3), (.string x02_3), (.slice x03a_3 x03l_3 x03c_3), (.slice x04a_3 x04l_3 x04c_3)]⟩), (.agg ⟨[(.int .i64 by0), (.int .i64 by1), (.string by2), (.slice by3a by3l by3c), (.slice by4a by4l by4c)]⟩)] g24 fun v g25 =>
  ∃ x_1 : Bool, v = (.bool x_1) ∧ ifB x_1
  (ifB (eqI x1_4 (0 : Int))
  ((CallsP Tryd.prog 25 #[(.agg ⟨[(.int .i64 x00_4), (.int .i64 x01_4), (.string x02_4), (.slice x03a_4 x03l_4 x03c_4), (.slice x04a_4 x04l_4 x04c_4)]⟩), (.agg ⟨[(.int .i64 t0), (.int .i64 t1), (.string t2), (.slice t3a t3l t3c), (.slice t4a t4l t4c)]⟩)] g25 fun v g26 =>
  ∃ x_2 : Bool, v = (.bool x_2) ∧ ifB x_2
  ((CallsP Tryd.prog 17 #[(.agg ⟨[(.int .i64 x00_1), (.int .i64 x01_1), (.string x02_1), (.slice x03a_1 x03l_1 x03c_1), (.slice x04a_1 x04l_1 x04c_1)]⟩)] g26 fun v g27 =>
  ∃ x_3 : Int, v = (.int .i64 x_3) ∧ (CallsP Tryd.prog 17 #[(.agg ⟨[(.int .i64 t0), (.int .i64 t1), (.string t2), (.slice t3a t3l t3c), (.slice t4a t4l t4c)]⟩)] g27 fun v g28 =>
  ∃ x_4 : Int, v = (.int .i64 x_4) ∧ (CallsP Tryd.prog 17 #[(.agg ⟨[(.int .i64 x00), (.int .i64 x01), (.string x02), (.slice x03a x03l x03c), (.slice x04a x04l x04c)]⟩)] g28 fun v g29 =>
  ∃ x_5 : Int, v = (.int .i64 x_5) ∧ InI64 (x_4 - x_5) ∧ (CallsP Tryd.prog 17 #[(.agg ⟨[(.int .i64 by0), (.int .i64 by1), (.string by2), (.slice by3a by3l by3c), (.slice by4a by4l by4c)]⟩)] g29 fun v g30 =>
  ∃ x_6 : Int, v = (.int .i64 x_6) ∧ InI64 ((x_4 - x_5) + x_6) ∧ ∀ g31 : G, Ex g30 g31 →
  R (.bool (eqI x_3 ((x_4 - x_5) + x_6))) g31)))))
  (∀ g32 : G, Ex g26 g32 →
  R (.bool false) g32)))
  (∀ g33 : G, Ex g25 g33 →
  R (.bool false) g33))
  (∀ g34 : G, Ex g25 g34 →
  R (.bool false) g34)))
  (∀ g35 : G, Ex g24 g35 →
  R (.bool false) g35))))) → J_1 g18) →
  ifB (!eqI x1_2 (0 : Int))
  (∀ g36 : G, Ex g17 g36 →
  R (.bool false) g36)
  (∀ g37 : G, Ex g17 g37 →
  (CallsP Tryd.prog 25 #[(.agg ⟨[(.int .i64 x00_2), (.int .i64 x01_2), (.string x02_2), (.slice x03a_2 x03l_2 x03c_2), (.slice x04a_2 x04l_2 x04c_2)]⟩), (.agg ⟨[(.int .i64 t0), (.int .i64 t1), (.string t2), (.slice t3a t3l t3c), (.slice t4a t4l t4c)]⟩)] g37 fun v g38 =>
  ∃ x_7 : Bool, v = (.bool x_7) ∧ ifB (!x_7)
  (∀ g39 : G, Ex g38 g39 →
  R (.bool false) g39)
  (J_1 g38)))))))) → J g10) →
  ∀ g40 : G, Ex g9 g40 →
  ∃ MR2 : Nat → Prop, (∀ b, MR2 b → ¬ g40.X b) ∧ ∃ M4 : Nat → Prop, (∀ b, b < g.w.heap.size → M4 b → nobody b) ∧ (CallsG Tryd.prog 15 #[(.agg ⟨[(.int .i64 t0), (.int .i64 t1), (.string t2), (.slice t3a t3l t3c), (.slice t4a t4l t4c)]⟩), (.pointer (some ⟨g4.w.heap.size, 0, none⟩)), (.int .i64 (0 : Int))] g40 M4 fun v g41 =>
  ∃ x_8 : Bool, v = (.bool x_8) ∧ SameBut MR2 g40 g41 ∧ ifB (!x_8)
  (∀ g42 : G, Ex g41 g42 →
  R (.bool true) g42)
  (∃ M3 : Nat → Prop, (∀ b, b < g.w.heap.size → M3 b → nobody b) ∧ (CallsG Tryd.prog 15 #[(.agg ⟨[(.int .i64 by0), (.int .i64 by1), (.string by2), (.slice by3a by3l by3c), (.slice by4a by4l by4c)]⟩), (.pointer (some ⟨g6.w.heap.size, 0, none⟩)), (.int .i64 (0 : Int))] g41 M3 fun v g43 =>
  ∃ x_9 : Bool, v = (.bool x_9) ∧ SameBut MR2 g40 g43 ∧ ifB (!x_9)
  (∀ g44 : G, Ex g43 g44 →
  R (.bool true) g44)
  (¬ MR2 (Addr.block ⟨g1.w.heap.size, 0, none⟩) ∧ ∃ ata_4 : Option Addr, ∃ atl_4 : Nat, ∃ atc_4 : Nat, g40.w.cell? ⟨g1.w.heap.size, 0, none⟩ = some (.slice ata_4 atl_4 atc_4) ∧ ifB (ltI (50 : Int) ((atl_4 : Nat) : Int))
  (∀ g45 : G, Ex g43 g45 →
  R (.bool true) g45)
  ((CallsP Tryd.prog 13 #[(.int .i64 t0)] g43 fun v g46 =>
  ∃ x_10 : Int, v = (.int .i64 x_10) ∧ (CallsP Tryd.prog 11 #[(.int .i64 x_10), (.agg ⟨[(.int .i64 t0), (.int .i64 t1), (.string t2), (.slice t3a t3l t3c), (.slice t4a t4l t4c)]⟩)] g46 fun v g47 =>
  ∃ x_11 : Bool, v = (.bool x_11) ∧ ifB (!x_11)
  (∀ g48 : G, Ex g47 g48 →
  R (.bool true) g48)
  (J g47))))))))))
theorem F8_eq (t0 : Int) (t1 : Int) (t2 : ByteArray) (t3a : Option Addr) (t3l : Nat) (t3c : Nat) (t4a : Option Addr) (t4l : Nat) (t4c : Nat) (ata : Option Addr) (atl : Nat) (atc : Nat) (by0 : Int) (by1 : Int) (by2 : ByteArray) (by3a : Option Addr) (by3l : Nat) (by3c : Nat) (by4a : Option Addr) (by4l : Nat) (by4c : Nat) (g : G) (R : Value → G → Prop) : fnG cfg8 131 [.tmp 6] c8 an8 [(.agg ⟨[(.int .i64 t0), (.int .i64 t1), (.string t2), (.slice t3a t3l t3c), (.slice t4a t4l t4c)]⟩), (.slice ata atl atc), (.agg ⟨[(.int .i64 by0), (.int .i64 by1), (.string by2), (.slice by3a by3l by3c), (.slice by4a by4l by4c)]⟩)] g nobody R = F8 t0 t1 t2 t3a t3l t3c t4a t4l t4c ata atl atc by0 by1 by2 by3a by3l by3c by4a by4l by4c g R := by kernel_rfl
theorem call8 (t0 : Int) (t1 : Int) (t2 : ByteArray) (t3a : Option Addr) (t3l : Nat) (t3c : Nat) (t4a : Option Addr) (t4l : Nat) (t4c : Nat) (ata : Option Addr) (atl : Nat) (atc : Nat) (by0 : Int) (by1 : Int) (by2 : ByteArray) (by3a : Option Addr) (by3l : Nat) (by3c : Nat) (by4a : Option Addr) (by4l : Nat) (by4c : Nat) (g : G) (R : Value → G → Prop) (hF : F8 t0 t1 t2 t3a t3l t3c t4a t4l t4c ata atl atc by0 by1 by2 by3a by3l by3c by4a by4l by4c g R) : CallsG Tryd.prog 8 #[(.agg ⟨[(.int .i64 t0), (.int .i64 t1), (.string t2), (.slice t3a t3l t3c), (.slice t4a t4l t4c)]⟩), (.slice ata atl atc), (.agg ⟨[(.int .i64 by0), (.int .i64 by1), (.string by2), (.slice by3a by3l by3c), (.slice by4a by4l by4c)]⟩)] g nobody R :=
  fn_soundG (c := cfg8) TTok FNSok mixed Tryd.func8 (show Tryd.f8.body = some c8 by kernel_rfl) (show Tryd.f8.ntmps = 131 by kernel_rfl) (show Tryd.f8.results.toList = [.tmp 6] by kernel_rfl) rfl ((F8_eq t0 t1 t2 t3a t3l t3c t4a t4l t4c ata atl atc by0 by1 by2 by3a by3l by3c by4a by4l by4c g R).mpr hF)
end Go.Proofs.YtmakoecgogjemaaDoor.P8
