/- Printed by a program (wip/tools/gen.py): for each function its condition as a plain formula, and that the formula gives the call. -/
import Derived.Test.YtmkcffflebdheaaDoorProg
import Derived.Test.YtmkcffflebdheaaDoorVc12
namespace Go.Proofs.YtmkcffflebdheaaDoor
open Go Go.Vc Go.RowKit
set_option maxRecDepth 100000
set_option linter.unusedVariables false
def z50 : List Value := List.replicate 128 (.int .u8 (0 : Int))
def z62 : List Value := List.replicate 64 (.int .u32 (0 : Int))
def TT : List TI := [
  ⟨0, .tuple #[], 1, 0, some (.tuple ⟨[]⟩), (.tup [])⟩,
  ⟨3, .int .i64, 1, 8, some (.int .i64 (0 : Int)), (.e (.one (.int .i64)))⟩,
  ⟨4, .bool, 1, 1, some (.bool false), (.e (.one (.bool)))⟩,
  ⟨5, .int .u8, 1, 1, some (.int .u8 (0 : Int)), (.e (.one (.int .u8)))⟩,
  ⟨9, .string, 1, 16, some (.string (bs [])), (.e (.one (.str)))⟩,
  ⟨22, .slice 5, 1, 24, some (.slice none 0 0), (.e (.one (.sl)))⟩,
  ⟨29, .func #[9] #[4] false, 1, 8, some .nilFunc, (.e (.one (.fn)))⟩,
  ⟨31, .int .i64, 1, 8, some (.int .i64 (0 : Int)), (.e (.one (.int .i64)))⟩,
  ⟨32, .tuple #[9, 31], 1, 0, some (.tuple ⟨[(.string (bs [])), (.int .i64 (0 : Int))]⟩), (.tup [(.one (.str)), (.one (.int .i64))])⟩,
  ⟨34, .slice 9, 1, 24, some (.slice none 0 0), (.e (.one (.sl)))⟩,
  ⟨38, .tuple #[9, 3], 1, 0, some (.tuple ⟨[(.string (bs [])), (.int .i64 (0 : Int))]⟩), (.tup [(.one (.str)), (.one (.int .i64))])⟩,
  ⟨41, .int .u32, 1, 4, some (.int .u32 (0 : Int)), (.e (.one (.int .u32)))⟩,
  ⟨42, .slice 41, 1, 24, some (.slice none 0 0), (.e (.one (.sl)))⟩,
  ⟨46, .array 8 41, 8, 32, some (.agg ⟨[(.int .u32 (0 : Int)), (.int .u32 (0 : Int)), (.int .u32 (0 : Int)), (.int .u32 (0 : Int)), (.int .u32 (0 : Int)), (.int .u32 (0 : Int)), (.int .u32 (0 : Int)), (.int .u32 (0 : Int))]⟩), (.e (.arr 8))⟩,
  ⟨47, .int .u64, 1, 8, some (.int .u64 (0 : Int)), (.e (.one (.int .u64)))⟩,
  ⟨49, .array 64 5, 64, 64, some (.agg ⟨[(.int .u8 (0 : Int)), (.int .u8 (0 : Int)), (.int .u8 (0 : Int)), (.int .u8 (0 : Int)), (.int .u8 (0 : Int)), (.int .u8 (0 : Int)), (.int .u8 (0 : Int)), (.int .u8 (0 : Int)), (.int .u8 (0 : Int)), (.int .u8 (0 : Int)), (.int .u8 (0 : Int)), (.int .u8 (0 : Int)), (.int .u8 (0 : Int)), (.int .u8 (0 : Int)), (.int .u8 (0 : Int)), (.int .u8 (0 : Int)), (.int .u8 (0 : Int)), (.int .u8 (0 : Int)), (.int .u8 (0 : Int)), (.int .u8 (0 : Int)), (.int .u8 (0 : Int)), (.int .u8 (0 : Int)), (.int .u8 (0 : Int)), (.int .u8 (0 : Int)), (.int .u8 (0 : Int)), (.int .u8 (0 : Int)), (.int .u8 (0 : Int)), (.int .u8 (0 : Int)), (.int .u8 (0 : Int)), (.int .u8 (0 : Int)), (.int .u8 (0 : Int)), (.int .u8 (0 : Int)), (.int .u8 (0 : Int)), (.int .u8 (0 : Int)), (.int .u8 (0 : Int)), (.int .u8 (0 : Int)), (.int .u8 (0 : Int)), (.int .u8 (0 : Int)), (.int .u8 (0 : Int)), (.int .u8 (0 : Int)), (.int .u8 (0 : Int)), (.int .u8 (0 : Int)), (.int .u8 (0 : Int)), (.int .u8 (0 : Int)), (.int .u8 (0 : Int)), (.int .u8 (0 : Int)), (.int .u8 (0 : Int)), (.int .u8 (0 : Int)), (.int .u8 (0 : Int)), (.int .u8 (0 : Int)), (.int .u8 (0 : Int)), (.int .u8 (0 : Int)), (.int .u8 (0 : Int)), (.int .u8 (0 : Int)), (.int .u8 (0 : Int)), (.int .u8 (0 : Int)), (.int .u8 (0 : Int)), (.int .u8 (0 : Int)), (.int .u8 (0 : Int)), (.int .u8 (0 : Int)), (.int .u8 (0 : Int)), (.int .u8 (0 : Int)), (.int .u8 (0 : Int)), (.int .u8 (0 : Int))]⟩), (.e (.arr 64))⟩,
  ⟨50, .array 128 5, 128, 128, some (.agg ⟨z50⟩), (.e (.arr 128))⟩,
  ⟨51, .pointer 53, 1, 8, some (.pointer none), (.e (.one (.ptr)))⟩,
  ⟨53, .struct #[{ name := "addr", type := 51, offset := 0, embedded := false, tag := "", pkgPath := "strings", byteOffset := 0 }, { name := "buf", type := 22, offset := 1, embedded := false, tag := "", pkgPath := "strings", byteOffset := 8 }], 2, 32, some (.agg ⟨[(.pointer none), (.slice none 0 0)]⟩), (.e (.agg [(.ptr), (.sl)]))⟩,
  ⟨55, .interface #[("Error", 57)], 1, 16, some .nilIface, (.e (.one (.any)))⟩,
  ⟨60, .int .u64, 1, 8, some (.int .u64 (0 : Int)), (.e (.one (.int .u64)))⟩,
  ⟨62, .array 64 41, 64, 256, some (.agg ⟨z62⟩), (.e (.arr 64))⟩]
theorem TTok : TOk Tryd.prog TT := tok_of (by kernel_rfl)
def FNS : List Nat := [8, 9, 10, 11, 12, 13, 14, 15, 16, 17, 18, 20, 21, 22, 23, 24, 25, 26, 28, 29, 30, 31, 32, 33, 34, 35, 37]
theorem FNSok : FOk Tryd.prog FNS := fok_of (by kernel_rfl)
theorem mixed : Tryd.prog.follows .mixedOrders = true := by kernel_rfl

/- 3 pilaster/pilasterlaw39.DigestSums -/
noncomputable def c3 : Code := match Tryd.f3.body with
  | some c => c
  | none => .skip
def an3 : Ann := (.seq .leaf (.seq (.seq .leaf (.cond (.seq .leaf .leaf) .leaf)) (.seq (.seq .leaf (.cond (.seq .leaf .leaf) .leaf)) (.seq .leaf (.seq .leaf .leaf)))))
def F3 (ba : Option Addr) (bl : Nat) (bc : Nat) (w : World) (R : Value → World → Prop) : Prop :=
  (Calls Tryd.prog 8 #[] w fun en w1 => ∃ x : Bool, en = .returned (.bool x) ∧ ifB (!x)
  (R (.bool false) w1)
  (ifB (ltI (3000 : Int) ((bl : Nat) : Int))
  (R (.bool true) w1)
  ((Calls Tryd.prog 9 #[(.slice ba bl bc)] w1 fun en w2 => ∃ want : ByteArray, en = .returned (.string want) ∧ (Calls Tryd.prog 10 #[(.slice ba bl bc)] w2 fun en w3 => ∃ x_1 : ByteArray, en = .returned (.string x_1) ∧ ifB (strEq x_1 want)
  (∃ x_2 : ByteArray, ∃ w4 : World, Sem.run Tryd.prog (convert 22 9 (.slice ba bl bc)) w3 = .ok (.string x_2) w4 ∧ (Calls Tryd.prog 11 #[(.string x_2)] w4 fun en w5 => ∃ x_3 : ByteArray, en = .returned (.string x_3) ∧ R (.bool (strEq x_3 want)) w5))
  (R (.bool false) w3))))))
theorem F3_eq (ba : Option Addr) (bl : Nat) (bc : Nat) (w : World) (R : Value → World → Prop) : fnVC true Tryd.prog TT FNS 22 [.tmp 2] c3 an3 [(.slice ba bl bc)] w none R = F3 ba bl bc w R := by kernel_rfl
theorem call3 (ba : Option Addr) (bl : Nat) (bc : Nat) (w : World) (R : Value → World → Prop) (hF : F3 ba bl bc w R) : Calls Tryd.prog 3 #[(.slice ba bl bc)] w fun e w' => ∃ v, e = .returned v ∧ R v w' :=
  fn_calls TTok FNSok mixed Tryd.func3 (show Tryd.f3.body = some c3 by kernel_rfl) (show Tryd.f3.ntmps = 22 by kernel_rfl) (show Tryd.f3.results.toList = [.tmp 2] by kernel_rfl) rfl ((F3_eq ba bl bc w R).symm ▸ hF)

/- 4 pilaster/pilasterlaw39.DigestBlocks -/
noncomputable def c4 : Code := match Tryd.f4.body with
  | some c => c
  | none => .skip
def an4 : Ann := (.seq .leaf (.seq (.seq .leaf (.cond (.seq .leaf .leaf) .leaf)) (.seq (.join [(11, .bool)] .leaf (.cond (.seq .leaf .leaf) .leaf)) (.seq .leaf (.seq .leaf .leaf)))))
def F4 (n : Int) (w : World) (R : Value → World → Prop) : Prop :=
  (Calls Tryd.prog 8 #[] w fun en w1 => ∃ x : Bool, en = .returned (.bool x) ∧ ifB (!x)
  (R (.bool false) w1)
  (∀ J : Bool → World → Prop,
  (∀ v : Bool, ∀ w2 : World, (ifB v
  (ifB (ltI (0 : Int) n)
  (R (.bool true) w2)
  ((Calls Tryd.prog 12 #[(.int .i64 n)] w2 fun en w3 => ∃ x_1 : Int, en = .returned (.int .i64 x_1) ∧ R (.bool (eqI x_1 (0 : Int))) w3)))
  ((Calls Tryd.prog 12 #[(.int .i64 n)] w2 fun en w4 => ∃ k : Int, en = .returned (.int .i64 k) ∧ InI64 ((64 : Int) * k) ∧ InI64 (n + (9 : Int)) ∧ ifB (leI (n + (9 : Int)) ((64 : Int) * k))
  (InI64 (k - (1 : Int)) ∧ InI64 ((64 : Int) * (k - (1 : Int))) ∧ InI64 (n + (9 : Int)) ∧ ifB (ltI ((64 : Int) * (k - (1 : Int))) (n + (9 : Int)))
  (InI64 (n + (64 : Int)) ∧ (Calls Tryd.prog 12 #[(.int .i64 (n + (64 : Int)))] w4 fun en w5 => ∃ x_2 : Int, en = .returned (.int .i64 x_2) ∧ InI64 (k + (1 : Int)) ∧ R (.bool (eqI x_2 (k + (1 : Int)))) w5))
  (R (.bool false) w4))
  (R (.bool false) w4)))) → J v w2) →
  ifB (ltI n (0 : Int))
  (J true w1)
  (J (ltI (1125899906842624 : Int) n) w1)))
theorem F4_eq (n : Int) (w : World) (R : Value → World → Prop) : fnVC true Tryd.prog TT FNS 42 [.tmp 2] c4 an4 [(.int .i64 n)] w none R = F4 n w R := by kernel_rfl
theorem call4 (n : Int) (w : World) (R : Value → World → Prop) (hF : F4 n w R) : Calls Tryd.prog 4 #[(.int .i64 n)] w fun e w' => ∃ v, e = .returned v ∧ R v w' :=
  fn_calls TTok FNSok mixed Tryd.func4 (show Tryd.f4.body = some c4 by kernel_rfl) (show Tryd.f4.ntmps = 42 by kernel_rfl) (show Tryd.f4.results.toList = [.tmp 2] by kernel_rfl) rfl ((F4_eq n w R).symm ▸ hF)

/- 5 pilaster/pilasterlaw39.DigestForms -/
noncomputable def c5 : Code := match Tryd.f5.body with
  | some c => c
  | none => .skip
def an5 : Ann := (.seq .leaf (.seq (.seq .leaf (.cond (.seq .leaf .leaf) .leaf)) (.join [] (.seq .leaf (.cond (.seq .leaf .leaf) .leaf)) (.seq .leaf .leaf))))
def F5 (s : ByteArray) (n : Int) (w : World) (R : Value → World → Prop) : Prop :=
  (Calls Tryd.prog 8 #[] w fun en w1 => ∃ x : Bool, en = .returned (.bool x) ∧ ifB (!x)
  (R (.bool false) w1)
  (∀ J : World → Prop,
  (∀ w2 : World, ((Calls Tryd.prog 13 #[(.string s)] w2 fun en w3 => ∃ x_1 : Bool, en = .returned (.bool x_1) ∧ (Calls Tryd.prog 14 #[(.string s)] w3 fun en w4 => ∃ x_2 : Bool, en = .returned (.bool x_2) ∧ ifB (x_1 == x_2)
  ((Calls Tryd.prog 12 #[(.int .i64 n)] w4 fun en w5 => ∃ x_3 : Int, en = .returned (.int .i64 x_3) ∧ (Calls Tryd.prog 15 #[(.int .i64 n)] w5 fun en w6 => ∃ x_4 : Int, en = .returned (.int .i64 x_4) ∧ R (.bool (eqI x_3 x_4)) w6)))
  (R (.bool false) w4)))) → J w2) →
  ifB (ltI (200 : Int) ((s.size : Nat) : Int))
  (R (.bool true) w1)
  (ifB (ltI (1125899906842624 : Int) n)
  (R (.bool true) w1)
  (J w1))))
theorem F5_eq (s : ByteArray) (n : Int) (w : World) (R : Value → World → Prop) : fnVC true Tryd.prog TT FNS 26 [.tmp 4] c5 an5 [(.string s), (.int .i64 n)] w none R = F5 s n w R := by kernel_rfl
theorem call5 (s : ByteArray) (n : Int) (w : World) (R : Value → World → Prop) (hF : F5 s n w R) : Calls Tryd.prog 5 #[(.string s), (.int .i64 n)] w fun e w' => ∃ v, e = .returned v ∧ R v w' :=
  fn_calls TTok FNSok mixed Tryd.func5 (show Tryd.f5.body = some c5 by kernel_rfl) (show Tryd.f5.ntmps = 26 by kernel_rfl) (show Tryd.f5.results.toList = [.tmp 4] by kernel_rfl) rfl ((F5_eq s n w R).symm ▸ hF)

/- 6 pilaster/pilasterlaw39.DigestValid -/
noncomputable def c6 : Code := match Tryd.f6.body with
  | some c => c
  | none => .skip
def an6 : Ann := (.seq .leaf (.seq (.seq .leaf (.cond (.seq .leaf .leaf) .leaf)) (.join [] (.seq .leaf (.cond (.seq .leaf .leaf) .leaf)) (.seq .leaf (.seq .leaf (.join [] (.seq .leaf (.cond (.seq .leaf .leaf) .leaf)) (.seq .leaf (.seq .leaf .leaf))))))))
def F6 (a : ByteArray) (b : ByteArray) (w : World) (R : Value → World → Prop) : Prop :=
  (Calls Tryd.prog 8 #[] w fun en w1 => ∃ x : Bool, en = .returned (.bool x) ∧ ifB (!x)
  (R (.bool false) w1)
  (∀ J : World → Prop,
  (∀ w2 : World, (∀ w3 : World, w3 = w2.alloc (.cells ⟨[(.string a)]⟩ 9) →
  (Calls Tryd.prog 16 #[(.slice (some ⟨w2.heap.size, 0, none⟩) 1 1)] w3 fun en w4 => ∃ x0 : ByteArray, ∃ x1 : Int, en = .returned (.tuple ⟨[(.string x0), (.int .i64 x1)]⟩) ∧ ∀ w5 : World, w5 = w4.alloc (.cells ⟨[(.string a), (.string b)]⟩ 9) →
  (Calls Tryd.prog 16 #[(.slice (some ⟨w4.heap.size, 0, none⟩) 2 2)] w5 fun en w6 => ∃ x0_1 : ByteArray, ∃ x1_1 : Int, en = .returned (.tuple ⟨[(.string x0_1), (.int .i64 x1_1)]⟩) ∧ ∀ J_1 : World → Prop,
  (∀ w7 : World, ((Calls Tryd.prog 17 #[(.int .i64 ((a.size : Nat) : Int))] w7 fun en w8 => ∃ x_1 : ByteArray, en = .returned (.string x_1) ∧ x_1.size + (bs [58]).size ≤ 9223372036854775807 ∧ (x_1 ++ (bs [58])).size + a.size ≤ 9223372036854775807 ∧ (Calls Tryd.prog 17 #[(.int .i64 ((b.size : Nat) : Int))] w8 fun en w9 => ∃ x_2 : ByteArray, en = .returned (.string x_2) ∧ ((x_1 ++ (bs [58])) ++ a).size + x_2.size ≤ 9223372036854775807 ∧ (((x_1 ++ (bs [58])) ++ a) ++ x_2).size + (bs [58]).size ≤ 9223372036854775807 ∧ ((((x_1 ++ (bs [58])) ++ a) ++ x_2) ++ (bs [58])).size + b.size ≤ 9223372036854775807 ∧ (Calls Tryd.prog 11 #[(.string (((((x_1 ++ (bs [58])) ++ a) ++ x_2) ++ (bs [58])) ++ b))] w9 fun en w10 => ∃ x_3 : ByteArray, en = .returned (.string x_3) ∧ ifB (strEq x0_1 x_3)
  (∃ xa : Option Addr, ∃ xl : Nat, ∃ xc : Nat, ∃ w11 : World, Sem.run Tryd.prog (convert 9 22 (.string (((((x_1 ++ (bs [58])) ++ a) ++ x_2) ++ (bs [58])) ++ b))) w10 = .ok (.slice xa xl xc) w11 ∧ (Calls Tryd.prog 10 #[(.slice xa xl xc)] w11 fun en w12 => ∃ x_4 : ByteArray, en = .returned (.string x_4) ∧ ifB (strEq x0_1 x_4)
  (ifB (!strEq a b)
  (R (.bool true) w12)
  ((Calls Tryd.prog 11 #[(.string a)] w12 fun en w13 => ∃ x_5 : ByteArray, en = .returned (.string x_5) ∧ (Calls Tryd.prog 11 #[(.string b)] w13 fun en w14 => ∃ x_6 : ByteArray, en = .returned (.string x_6) ∧ R (.bool (strEq x_5 x_6)) w14))))
  (R (.bool false) w12)))
  (R (.bool false) w10))))) → J_1 w7) →
  ifB (!eqI x1 (0 : Int))
  (R (.bool false) w6)
  (ifB (!eqI x1_1 (0 : Int))
  (R (.bool false) w6)
  ((Calls Tryd.prog 13 #[(.string x0)] w6 fun en w15 => ∃ x_7 : Bool, en = .returned (.bool x_7) ∧ ifB (!x_7)
  (R (.bool false) w15)
  ((Calls Tryd.prog 13 #[(.string x0_1)] w15 fun en w16 => ∃ x_8 : Bool, en = .returned (.bool x_8) ∧ ifB (!x_8)
  (R (.bool false) w16)
  ((Calls Tryd.prog 11 #[(.string a)] w16 fun en w17 => ∃ x_9 : ByteArray, en = .returned (.string x_9) ∧ (Calls Tryd.prog 13 #[(.string x_9)] w17 fun en w18 => ∃ x_10 : Bool, en = .returned (.bool x_10) ∧ ifB (!x_10)
  (R (.bool false) w18)
  ((Calls Tryd.prog 17 #[(.int .i64 ((a.size : Nat) : Int))] w18 fun en w19 => ∃ x_11 : ByteArray, en = .returned (.string x_11) ∧ x_11.size + (bs [58]).size ≤ 9223372036854775807 ∧ (x_11 ++ (bs [58])).size + a.size ≤ 9223372036854775807 ∧ (Calls Tryd.prog 11 #[(.string ((x_11 ++ (bs [58])) ++ a))] w19 fun en w20 => ∃ x_12 : ByteArray, en = .returned (.string x_12) ∧ ifB (!strEq x0 x_12)
  (R (.bool false) w20)
  (J_1 w20))))))))))))))) → J w2) →
  ifB (ltI (300 : Int) ((a.size : Nat) : Int))
  (R (.bool true) w1)
  (ifB (ltI (300 : Int) ((b.size : Nat) : Int))
  (R (.bool true) w1)
  (J w1))))
theorem F6_eq (a : ByteArray) (b : ByteArray) (w : World) (R : Value → World → Prop) : fnVC true Tryd.prog TT FNS 102 [.tmp 4] c6 an6 [(.string a), (.string b)] w none R = F6 a b w R := by kernel_rfl
theorem call6 (a : ByteArray) (b : ByteArray) (w : World) (R : Value → World → Prop) (hF : F6 a b w R) : Calls Tryd.prog 6 #[(.string a), (.string b)] w fun e w' => ∃ v, e = .returned v ∧ R v w' :=
  fn_calls TTok FNSok mixed Tryd.func6 (show Tryd.f6.body = some c6 by kernel_rfl) (show Tryd.f6.ntmps = 102 by kernel_rfl) (show Tryd.f6.results.toList = [.tmp 4] by kernel_rfl) rfl ((F6_eq a b w R).symm ▸ hF)

/- 7 pilaster/pilasterlaw39.DigestLists -/
noncomputable def c7 : Code := match Tryd.f7.body with
  | some c => c
  | none => .skip
def an7 : Ann := (.seq .leaf (.seq (.seq .leaf (.cond (.seq .leaf .leaf) .leaf)) (.join [] (.seq .leaf (.cond (.seq .leaf .leaf) .leaf)) (.seq .leaf (.seq .leaf (.seq .leaf .leaf))))))
def F7 (la : Option Addr) (ll : Nat) (lc : Nat) (w : World) (R : Value → World → Prop) : Prop :=
  (Calls Tryd.prog 8 #[] w fun en w1 => ∃ x : Bool, en = .returned (.bool x) ∧ ifB (!x)
  (R (.bool false) w1)
  (∀ J : World → Prop,
  (∀ w2 : World, ((Calls Tryd.prog 16 #[(.slice la ll lc)] w2 fun en w3 => ∃ x0 : ByteArray, ∃ x1 : Int, en = .returned (.tuple ⟨[(.string x0), (.int .i64 x1)]⟩) ∧ (Calls Tryd.prog 20 #[(.slice la ll lc)] w3 fun en w4 => ∃ x0_1 : ByteArray, ∃ x1_1 : Int, en = .returned (.tuple ⟨[(.string x0_1), (.int .i64 x1_1)]⟩) ∧ ifB (strEq x0 x0_1)
  (R (.bool (eqI x1 x1_1)) w4)
  (R (.bool false) w4)))) → J w2) →
  ifB (ltI (100 : Int) ((ll : Nat) : Int))
  (ifB (leI ((ll : Nat) : Int) (1000 : Int))
  (R (.bool true) w1)
  (ifB (ltI (1005 : Int) ((ll : Nat) : Int))
  (R (.bool true) w1)
  ((Calls Tryd.prog 18 #[(.slice la ll lc), (.func (.func 19) #[] #[])] w1 fun en w5 => ∃ x_1 : Bool, en = .returned (.bool x_1) ∧ ifB x_1
  (R (.bool true) w5)
  (J w5)))))
  (ifB (ltI (1005 : Int) ((ll : Nat) : Int))
  (R (.bool true) w1)
  ((Calls Tryd.prog 18 #[(.slice la ll lc), (.func (.func 19) #[] #[])] w1 fun en w6 => ∃ x_2 : Bool, en = .returned (.bool x_2) ∧ ifB x_2
  (R (.bool true) w6)
  (J w6))))))
theorem F7_eq (la : Option Addr) (ll : Nat) (lc : Nat) (w : World) (R : Value → World → Prop) : fnVC true Tryd.prog TT FNS 44 [.tmp 2] c7 an7 [(.slice la ll lc)] w none R = F7 la ll lc w R := by kernel_rfl
theorem call7 (la : Option Addr) (ll : Nat) (lc : Nat) (w : World) (R : Value → World → Prop) (hF : F7 la ll lc w R) : Calls Tryd.prog 7 #[(.slice la ll lc)] w fun e w' => ∃ v, e = .returned v ∧ R v w' :=
  fn_calls TTok FNSok mixed Tryd.func7 (show Tryd.f7.body = some c7 by kernel_rfl) (show Tryd.f7.ntmps = 44 by kernel_rfl) (show Tryd.f7.results.toList = [.tmp 2] by kernel_rfl) rfl ((F7_eq la ll lc w R).symm ▸ hF)

/- 8 pilaster/pilasterlaw39.awake -/
noncomputable def c8 : Code := match Tryd.f8.body with
  | some c => c
  | none => .skip
def an8 : Ann := (.seq .leaf (.seq .leaf .leaf))
def F8 (w : World) (R : Value → World → Prop) : Prop :=
  (Calls Tryd.prog 10 #[(.slice none 0 0)] w fun en w1 => ∃ x : ByteArray, en = .returned (.string x) ∧ (Calls Tryd.prog 21 #[(.string x), (.string (bs [101, 51, 98, 48, 99, 52, 52, 50]))] w1 fun en w2 => ∃ x_1 : Bool, en = .returned (.bool x_1) ∧ ifB x_1
  ((Calls Tryd.prog 11 #[(.string (bs [97, 98, 99]))] w2 fun en w3 => ∃ x_2 : ByteArray, en = .returned (.string x_2) ∧ (Calls Tryd.prog 21 #[(.string x_2), (.string (bs [98, 97, 55, 56, 49, 54, 98, 102]))] w3 fun en w4 => ∃ x_3 : Bool, en = .returned (.bool x_3) ∧ R (.bool x_3) w4)))
  (R (.bool false) w2)))
theorem F8_eq (w : World) (R : Value → World → Prop) : fnVC true Tryd.prog TT FNS 7 [.tmp 0] c8 an8 [] w none R = F8 w R := by kernel_rfl
theorem call8 (w : World) (R : Value → World → Prop) (hF : F8 w R) : Calls Tryd.prog 8 #[] w fun e w' => ∃ v, e = .returned v ∧ R v w' :=
  fn_calls TTok FNSok mixed Tryd.func8 (show Tryd.f8.body = some c8 by kernel_rfl) (show Tryd.f8.ntmps = 7 by kernel_rfl) (show Tryd.f8.results.toList = [.tmp 0] by kernel_rfl) rfl ((F8_eq w R).symm ▸ hF)

/- 9 pilaster/pilasterref39.Sum -/
noncomputable def c9 : Code := match Tryd.f9.body with
  | some c => c
  | none => .skip
def an9 : Ann := (.seq .leaf (.seq .leaf (.seq .leaf (.seq (.seq .leaf (.blk (.loop [(3, .sl), (5, .int .i64)] (.seq (.seq .leaf (.cond .leaf .leaf)) (.seq (.blk .leaf) .leaf))))) (.seq .leaf (.seq .leaf (.seq (.seq .leaf (.blk (.loop [(7, .str), (8, .int .i64)] (.seq (.seq .leaf (.cond .leaf .leaf)) (.seq (.blk (.seq .leaf (.blk (.loop [(7, .str), (9, .int .i64)] (.seq (.seq .leaf (.cond .leaf .leaf)) (.seq (.blk (.seq .leaf .leaf)) .leaf)))))) .leaf))))) (.seq .leaf .leaf))))))))
def F9 (ba : Option Addr) (bl : Nat) (bc : Nat) (w : World) (R : Value → World → Prop) : Prop :=
  ∀ w1 : World, w1 = w.alloc (.cells ⟨[(.int .u32 (1779033703 : Int)), (.int .u32 (3144134277 : Int)), (.int .u32 (1013904242 : Int)), (.int .u32 (2773480762 : Int)), (.int .u32 (1359893119 : Int)), (.int .u32 (2600822924 : Int)), (.int .u32 (528734635 : Int)), (.int .u32 (1541459225 : Int))]⟩ 41) →
  (Calls Tryd.prog 22 #[(.slice ba bl bc)] w1 fun en w2 => ∃ pa : Option Addr, ∃ pl : Nat, ∃ pc : Nat, en = .returned (.slice pa pl pc) ∧ ∃ (Inv : Option Addr → Nat → Nat → Int → World → Prop) (mu : Option Addr → Nat → Nat → Int → World → Nat), (Inv (some ⟨w.heap.size, 0, none⟩) 8 8 (0 : Int) w2) ∧
  ∀ ha : Option Addr, ∀ hl : Nat, ∀ hc : Nat, ∀ i : Int, ∀ w3 : World, Inv ha hl hc i w3 →
  ifB (ltI i ((pl : Nat) : Int))
  (InI64 (i + (64 : Int)) ∧ (0 ≤ (i + (64 : Int)) ∧ (i + (64 : Int)) ≤ ((pc : Nat) : Int)) ∧ (0 ≤ i ∧ i ≤ (((Int.toNat (i + (64 : Int))) : Nat) : Int)) ∧ (Calls Tryd.prog 23 #[(.slice ha hl hc), (.slice (slAddr pa pc (Int.toNat i) 1) ((Int.toNat (i + (64 : Int))) - (Int.toNat i)) (pc - (Int.toNat i)))] w3 fun en w4 => ∃ ha_1 : Option Addr, ∃ hl_1 : Nat, ∃ hc_1 : Nat, en = .returned (.slice ha_1 hl_1 hc_1) ∧ InI64 (i + (64 : Int)) ∧ (Inv ha_1 hl_1 hc_1 (i + (64 : Int)) w4 ∧ mu ha_1 hl_1 hc_1 (i + (64 : Int)) w4 < mu ha hl hc i w3)))
  (∃ (Inv_1 : ByteArray → Int → World → Prop) (mu_1 : ByteArray → Int → World → Nat), (Inv_1 (bs []) (0 : Int) w3) ∧
  ∀ s : ByteArray, ∀ i_1 : Int, ∀ w5 : World, Inv_1 s i_1 w5 →
  ifB (ltI i_1 (8 : Int))
  (∃ (Inv_2 : ByteArray → Int → World → Prop) (mu_2 : ByteArray → Int → World → Nat), (Inv_2 s (28 : Int) w5) ∧
  ∀ s_1 : ByteArray, ∀ k : Int, ∀ w6 : World, Inv_2 s_1 k w6 →
  ifB (leI (0 : Int) k)
  ((0 ≤ i_1 ∧ i_1 < ((hl : Nat) : Int)) ∧ derefP ha fun ad => ∃ x : Int, w6.cell? (Addr.add ad (Int.toNat i_1 * 1)) = some (.int .u32 x) ∧ 0 ≤ k ∧ InI64 (bits BinOp.and IntKind.u32 (shrI IntKind.u32 x k) (15 : Int)) ∧ InI64 ((bits BinOp.and IntKind.u32 (shrI IntKind.u32 x k) (15 : Int)) + (1 : Int)) ∧ (0 ≤ ((bits BinOp.and IntKind.u32 (shrI IntKind.u32 x k) (15 : Int)) + (1 : Int)) ∧ ((bits BinOp.and IntKind.u32 (shrI IntKind.u32 x k) (15 : Int)) + (1 : Int)) ≤ (((bs [48, 49, 50, 51, 52, 53, 54, 55, 56, 57, 97, 98, 99, 100, 101, 102]).size : Nat) : Int)) ∧ (0 ≤ (bits BinOp.and IntKind.u32 (shrI IntKind.u32 x k) (15 : Int)) ∧ (bits BinOp.and IntKind.u32 (shrI IntKind.u32 x k) (15 : Int)) ≤ (((Int.toNat ((bits BinOp.and IntKind.u32 (shrI IntKind.u32 x k) (15 : Int)) + (1 : Int))) : Nat) : Int)) ∧ s_1.size + (ByteArray.extract (bs [48, 49, 50, 51, 52, 53, 54, 55, 56, 57, 97, 98, 99, 100, 101, 102]) (Int.toNat (bits BinOp.and IntKind.u32 (shrI IntKind.u32 x k) (15 : Int))) (Int.toNat ((bits BinOp.and IntKind.u32 (shrI IntKind.u32 x k) (15 : Int)) + (1 : Int)))).size ≤ 9223372036854775807 ∧ InI64 (k - (4 : Int)) ∧ (Inv_2 (s_1 ++ (ByteArray.extract (bs [48, 49, 50, 51, 52, 53, 54, 55, 56, 57, 97, 98, 99, 100, 101, 102]) (Int.toNat (bits BinOp.and IntKind.u32 (shrI IntKind.u32 x k) (15 : Int))) (Int.toNat ((bits BinOp.and IntKind.u32 (shrI IntKind.u32 x k) (15 : Int)) + (1 : Int))))) (k - (4 : Int)) w6 ∧ mu_2 (s_1 ++ (ByteArray.extract (bs [48, 49, 50, 51, 52, 53, 54, 55, 56, 57, 97, 98, 99, 100, 101, 102]) (Int.toNat (bits BinOp.and IntKind.u32 (shrI IntKind.u32 x k) (15 : Int))) (Int.toNat ((bits BinOp.and IntKind.u32 (shrI IntKind.u32 x k) (15 : Int)) + (1 : Int))))) (k - (4 : Int)) w6 < mu_2 s_1 k w6))
  (InI64 (i_1 + (1 : Int)) ∧ (Inv_1 s_1 (i_1 + (1 : Int)) w6 ∧ mu_1 s_1 (i_1 + (1 : Int)) w6 < mu_1 s i_1 w5)))
  (R (.string s) w5)))
theorem F9_eq (ba : Option Addr) (bl : Nat) (bc : Nat) (w : World) (R : Value → World → Prop) : fnVC true Tryd.prog TT FNS 51 [.tmp 2] c9 an9 [(.slice ba bl bc)] w none R = F9 ba bl bc w R := by kernel_rfl
theorem call9 (ba : Option Addr) (bl : Nat) (bc : Nat) (w : World) (R : Value → World → Prop) (hF : F9 ba bl bc w R) : Calls Tryd.prog 9 #[(.slice ba bl bc)] w fun e w' => ∃ v, e = .returned v ∧ R v w' :=
  fn_calls TTok FNSok mixed Tryd.func9 (show Tryd.f9.body = some c9 by kernel_rfl) (show Tryd.f9.ntmps = 51 by kernel_rfl) (show Tryd.f9.results.toList = [.tmp 2] by kernel_rfl) rfl ((F9_eq ba bl bc w R).symm ▸ hF)

/- 10 pilaster/digest.Sum -/
noncomputable def c10 : Code := match Tryd.f10.body with
  | some c => c
  | none => .skip
def an10 : Ann := (.seq .leaf (.seq .leaf (.seq .leaf (.seq (.blk (.loop [(0, .sl)] (.seq (.seq .leaf (.cond .leaf .leaf)) (.blk (.seq (.draw 5 [(0, true), (1, true), (2, true), (3, true), (4, true)]) .leaf))))) (.seq .leaf (.seq .leaf (.seq .leaf (.seq .leaf (.join [(7, .int .i64)] (.seq .leaf (.cond .leaf .leaf)) (.seq (.seq .leaf (.blk (.loop [(36, .int .i64)] (.seq .leaf (.seq (.cond .leaf .leaf) (.seq (.blk (.seq .leaf .leaf)) .leaf)))))) (.seq (.draw 4 [(0, true), (1, true), (2, true), (3, true)]) (.join [] (.seq .leaf (.cond (.draw 4 [(0, true), (1, true), (2, true), (3, true)]) .leaf)) (.seq .leaf (.seq (.seq .leaf (.blk (.loop [(63, .int .i64)] (.seq .leaf (.seq (.cond .leaf .leaf) (.seq (.blk (.seq .leaf (.seq .leaf (.blk (.loop [(12, .int .i64)] (.seq (.seq .leaf (.cond .leaf .leaf)) (.seq (.blk .leaf) .leaf))))))) .leaf)))))) (.seq .leaf .leaf)))))))))))))))
def F10 (ba : Option Addr) (bl : Nat) (bc : Nat) (w : World) (R : Value → World → Prop) : Prop :=
  ∀ w1 : World, w1 = w.alloc (.cells ⟨[(.int .u32 (0 : Int)), (.int .u32 (0 : Int)), (.int .u32 (0 : Int)), (.int .u32 (0 : Int)), (.int .u32 (0 : Int)), (.int .u32 (0 : Int)), (.int .u32 (0 : Int)), (.int .u32 (0 : Int))]⟩ 46) →
  ([(.int .u32 (1779033703 : Int)), (.int .u32 (3144134277 : Int)), (.int .u32 (1013904242 : Int)), (.int .u32 (2773480762 : Int)), (.int .u32 (1359893119 : Int)), (.int .u32 (2600822924 : Int)), (.int .u32 (528734635 : Int)), (.int .u32 (1541459225 : Int))] : List Value).length = 8 ∧ stOk w1 ⟨w.heap.size, 0, none⟩ 8 ∧ (∀ u ∈ ([(.int .u32 (1779033703 : Int)), (.int .u32 (3144134277 : Int)), (.int .u32 (1013904242 : Int)), (.int .u32 (2773480762 : Int)), (.int .u32 (1359893119 : Int)), (.int .u32 (2600822924 : Int)), (.int .u32 (528734635 : Int)), (.int .u32 (1541459225 : Int))] : List Value), u.oneCell' = true) ∧ ∀ w2 : World, w2 = stL ⟨w.heap.size, 0, none⟩ 0 ([(.int .u32 (1779033703 : Int)), (.int .u32 (3144134277 : Int)), (.int .u32 (1013904242 : Int)), (.int .u32 (2773480762 : Int)), (.int .u32 (1359893119 : Int)), (.int .u32 (2600822924 : Int)), (.int .u32 (528734635 : Int)), (.int .u32 (1541459225 : Int))] : List Value) w1 →
  ∃ (Inv : Option Addr → Nat → Nat → World → Prop) (mu : Option Addr → Nat → Nat → World → Nat), (Inv ba bl bc w2) ∧
  ∀ ba_1 : Option Addr, ∀ bl_1 : Nat, ∀ bc_1 : Nat, ∀ w3 : World, Inv ba_1 bl_1 bc_1 w3 →
  ifB (leI (64 : Int) ((bl_1 : Nat) : Int))
  (∀ w4 : World, w4 = w3.drew →
  ∃ h : List Value, h.length = 8 ∧ cellsOn w4 ⟨w.heap.size, 0, none⟩ h ∧ (0 ≤ (64 : Int) ∧ (64 : Int) ≤ ((bc_1 : Nat) : Int)) ∧ 64 ≤ ((Int.toNat (64 : Int)) - 0) ∧ derefP (slAddr ba_1 bc_1 0 1) fun ad => ∃ x : List Value, x.length = 64 ∧ cellsOn w4 ad x ∧ (Calls Tryd.prog 24 #[(.agg ⟨h⟩), (.agg ⟨x⟩)] w4 fun en w5 => ∃ x_1 : List Value, x_1.length = 8 ∧ en = .returned (.agg ⟨x_1⟩) ∧ x_1.length = 8 ∧ stOk w5 ⟨w.heap.size, 0, none⟩ 8 ∧ (∀ u ∈ x_1, u.oneCell' = true) ∧ ∀ w6 : World, w6 = stL ⟨w.heap.size, 0, none⟩ 0 x_1 w5 →
  (0 ≤ (64 : Int) ∧ (64 : Int) ≤ ((bl_1 : Nat) : Int)) ∧ (Inv (slAddr ba_1 bc_1 (Int.toNat (64 : Int)) 1) (bl_1 - (Int.toNat (64 : Int))) (bc_1 - (Int.toNat (64 : Int))) w6 ∧ mu (slAddr ba_1 bc_1 (Int.toNat (64 : Int)) 1) (bl_1 - (Int.toNat (64 : Int))) (bc_1 - (Int.toNat (64 : Int))) w6 < mu ba_1 bl_1 bc_1 w3)))
  (∀ w7 : World, w7 = w3.alloc (.cells ⟨z50⟩ 50) →
  ∃ n : Int, ∃ w8 : World, Sem.run Tryd.prog (Builtin.copy_ #[22, 22] 3 #[(.slice (slAddr (some ⟨w3.heap.size, 0, none⟩) 128 0 1) (128 - 0) (128 - 0)), (.slice ba_1 bl_1 bc_1)]) w7 = .ok (.int .i64 n) w8 ∧ (0 ≤ n ∧ n < ((128 : Nat) : Int)) ∧ stOk1 w8 (Addr.add ⟨w3.heap.size, 0, none⟩ (Int.toNat n * 1)) ∧ ∀ w9 : World, w9 = w8.setCell (Addr.add ⟨w3.heap.size, 0, none⟩ (Int.toNat n * 1)) (.int .u8 (128 : Int)) →
  ∀ J : Int → World → Prop,
  (∀ size : Int, ∀ w10 : World, (∃ (Inv_1 : Int → World → Prop) (mu_1 : Int → World → Nat), (Inv_1 (0 : Int) w10) ∧
  ∀ v : Int, ∀ w11 : World, Inv_1 v w11 →
  ifB (ltI v (8 : Int))
  (InI64 (size - (1 : Int)) ∧ InI64 ((size - (1 : Int)) - v) ∧ InI64 ((8 : Int) * v) ∧ 0 ≤ ((8 : Int) * v) ∧ (0 ≤ ((size - (1 : Int)) - v) ∧ ((size - (1 : Int)) - v) < ((128 : Nat) : Int)) ∧ stOk1 w11 (Addr.add ⟨w3.heap.size, 0, none⟩ (Int.toNat ((size - (1 : Int)) - v) * 1)) ∧ ∀ w12 : World, w12 = w11.setCell (Addr.add ⟨w3.heap.size, 0, none⟩ (Int.toNat ((size - (1 : Int)) - v) * 1)) (.int .u8 (IntKind.u8.wrap (shrI IntKind.u64 (IntKind.u64.wrap ((IntKind.u64.wrap ((bl : Nat) : Int)) * (8 : Int))) ((8 : Int) * v)))) →
  InI64 (v + (1 : Int)) ∧ (Inv_1 (v + (1 : Int)) w12 ∧ mu_1 (v + (1 : Int)) w12 < mu_1 v w11))
  (∀ w13 : World, w13 = w11.drew →
  ∃ h_1 : List Value, h_1.length = 8 ∧ cellsOn w13 ⟨w.heap.size, 0, none⟩ h_1 ∧ (0 ≤ (64 : Int) ∧ (64 : Int) ≤ ((128 : Nat) : Int)) ∧ 64 ≤ ((Int.toNat (64 : Int)) - 0) ∧ derefP (slAddr (some ⟨w3.heap.size, 0, none⟩) 128 0 1) fun ad_1 => ∃ x_2 : List Value, x_2.length = 64 ∧ cellsOn w13 ad_1 x_2 ∧ (Calls Tryd.prog 24 #[(.agg ⟨h_1⟩), (.agg ⟨x_2⟩)] w13 fun en w14 => ∃ x_3 : List Value, x_3.length = 8 ∧ en = .returned (.agg ⟨x_3⟩) ∧ x_3.length = 8 ∧ stOk w14 ⟨w.heap.size, 0, none⟩ 8 ∧ (∀ u ∈ x_3, u.oneCell' = true) ∧ ∀ w15 : World, w15 = stL ⟨w.heap.size, 0, none⟩ 0 x_3 w14 →
  ∀ J_1 : World → Prop,
  (∀ w16 : World, (∀ w17 : World, w17 = w16.alloc (.cells ⟨[(.pointer none), (.slice none 0 0)]⟩ 53) →
  ∃ h_2 : List Value, h_2.length = 8 ∧ cellsOn w17 ⟨w.heap.size, 0, none⟩ h_2 ∧ ∃ (Inv_2 : Int → World → Prop) (mu_2 : Int → World → Nat), (Inv_2 (0 : Int) w17) ∧
  ∀ v_1 : Int, ∀ w18 : World, Inv_2 v_1 w18 →
  ifB (ltI v_1 (8 : Int))
  (∃ x_4 : Int, (0 ≤ v_1 ∧ v_1 < ((8 : Nat) : Int)) ∧ (⟨h_2⟩ : Array Value)[Int.toNat v_1]? = some (.int .u32 x_4) ∧ ∃ (Inv_3 : Int → World → Prop) (mu_3 : Int → World → Nat), (Inv_3 (28 : Int) w18) ∧
  ∀ i : Int, ∀ w19 : World, Inv_3 i w19 →
  ifB (leI (0 : Int) i)
  (0 ≤ i ∧ ∃ b : UInt8, (0 ≤ (bits BinOp.and IntKind.u32 (shrI IntKind.u32 x_4 i) (15 : Int)) ∧ (bs [48, 49, 50, 51, 52, 53, 54, 55, 56, 57, 97, 98, 99, 100, 101, 102])[Int.toNat (bits BinOp.and IntKind.u32 (shrI IntKind.u32 x_4 i) (15 : Int))]? = some b) ∧ (Calls Tryd.prog 25 #[(.pointer (some ⟨w16.heap.size, 0, none⟩)), (.int .u8 ((b.toNat : Nat) : Int))] w19 fun en w20 => ∃ x_5 : Value, en = .returned x_5 ∧ InI64 (i - (4 : Int)) ∧ (Inv_3 (i - (4 : Int)) w20 ∧ mu_3 (i - (4 : Int)) w20 < mu_3 i w19)))
  (InI64 (v_1 + (1 : Int)) ∧ (Inv_2 (v_1 + (1 : Int)) w19 ∧ mu_2 (v_1 + (1 : Int)) w19 < mu_2 v_1 w18)))
  ((Calls Tryd.prog 26 #[(.pointer (some ⟨w16.heap.size, 0, none⟩))] w18 fun en w21 => ∃ x_6 : ByteArray, en = .returned (.string x_6) ∧ R (.string x_6) w21))) → J_1 w16) →
  ifB (eqI size (128 : Int))
  (∀ w22 : World, w22 = w15.drew →
  ∃ h_3 : List Value, h_3.length = 8 ∧ cellsOn w22 ⟨w.heap.size, 0, none⟩ h_3 ∧ (0 ≤ (64 : Int) ∧ (64 : Int) ≤ ((128 : Nat) : Int)) ∧ 64 ≤ (128 - (Int.toNat (64 : Int))) ∧ derefP (slAddr (some ⟨w3.heap.size, 0, none⟩) 128 (Int.toNat (64 : Int)) 1) fun ad_2 => ∃ x_7 : List Value, x_7.length = 64 ∧ cellsOn w22 ad_2 x_7 ∧ (Calls Tryd.prog 24 #[(.agg ⟨h_3⟩), (.agg ⟨x_7⟩)] w22 fun en w23 => ∃ x_8 : List Value, x_8.length = 8 ∧ en = .returned (.agg ⟨x_8⟩) ∧ x_8.length = 8 ∧ stOk w23 ⟨w.heap.size, 0, none⟩ 8 ∧ (∀ u ∈ x_8, u.oneCell' = true) ∧ ∀ w24 : World, w24 = stL ⟨w.heap.size, 0, none⟩ 0 x_8 w23 →
  J_1 w24))
  (J_1 w15)))) → J size w10) →
  ifB (ltI (55 : Int) n)
  (J (128 : Int) w9)
  (J (64 : Int) w9))
theorem F10_eq (ba : Option Addr) (bl : Nat) (bc : Nat) (w : World) (R : Value → World → Prop) : fnVC true Tryd.prog TT FNS 78 [.tmp 2] c10 an10 [(.slice ba bl bc)] w none R = F10 ba bl bc w R := by kernel_rfl
theorem call10 (ba : Option Addr) (bl : Nat) (bc : Nat) (w : World) (R : Value → World → Prop) (hF : F10 ba bl bc w R) : Calls Tryd.prog 10 #[(.slice ba bl bc)] w fun e w' => ∃ v, e = .returned v ∧ R v w' :=
  fn_calls TTok FNSok mixed Tryd.func10 (show Tryd.f10.body = some c10 by kernel_rfl) (show Tryd.f10.ntmps = 78 by kernel_rfl) (show Tryd.f10.results.toList = [.tmp 2] by kernel_rfl) rfl ((F10_eq ba bl bc w R).symm ▸ hF)

/- 11 pilaster/digest.Text -/
noncomputable def c11 : Code := match Tryd.f11.body with
  | some c => c
  | none => .skip
def an11 : Ann := (.seq .leaf (.seq .leaf .leaf))
def F11 (s : ByteArray) (w : World) (R : Value → World → Prop) : Prop :=
  ∃ xa : Option Addr, ∃ xl : Nat, ∃ xc : Nat, ∃ w1 : World, Sem.run Tryd.prog (convert 9 22 (.string s)) w = .ok (.slice xa xl xc) w1 ∧ (Calls Tryd.prog 10 #[(.slice xa xl xc)] w1 fun en w2 => ∃ x : ByteArray, en = .returned (.string x) ∧ R (.string x) w2)
theorem F11_eq (s : ByteArray) (w : World) (R : Value → World → Prop) : fnVC true Tryd.prog TT FNS 6 [.tmp 2] c11 an11 [(.string s)] w none R = F11 s w R := by kernel_rfl
theorem call11 (s : ByteArray) (w : World) (R : Value → World → Prop) (hF : F11 s w R) : Calls Tryd.prog 11 #[(.string s)] w fun e w' => ∃ v, e = .returned v ∧ R v w' :=
  fn_calls TTok FNSok mixed Tryd.func11 (show Tryd.f11.body = some c11 by kernel_rfl) (show Tryd.f11.ntmps = 6 by kernel_rfl) (show Tryd.f11.results.toList = [.tmp 2] by kernel_rfl) rfl ((F11_eq s w R).symm ▸ hF)

/- 12 pilaster/digest.Blocks -/
noncomputable def c12 : Code := match Tryd.f12.body with
  | some c => c
  | none => .skip
def an12 : Ann := (.seq .leaf (.seq (.blk (.seq .leaf (.cond (.seq .leaf .leaf) (.seq .leaf (.cond (.seq .leaf .leaf) .leaf))))) (.seq .leaf .leaf)))
def F12 (n : Int) (w : World) (R : Value → World → Prop) : Prop :=
  ifB (ltI n (0 : Int))
  (R (.int .i64 (0 : Int)) w)
  ((64 : Int) ≠ 0 ∧ ifB (ltI (55 : Int) (Int.tmod n (64 : Int)))
  ((64 : Int) ≠ 0 ∧ InI64 (Int.tdiv n (64 : Int)) ∧ InI64 ((Int.tdiv n (64 : Int)) + (2 : Int)) ∧ R (.int .i64 ((Int.tdiv n (64 : Int)) + (2 : Int))) w)
  ((64 : Int) ≠ 0 ∧ InI64 (Int.tdiv n (64 : Int)) ∧ InI64 ((Int.tdiv n (64 : Int)) + (1 : Int)) ∧ R (.int .i64 ((Int.tdiv n (64 : Int)) + (1 : Int))) w))
theorem F12_eq (n : Int) (w : World) (R : Value → World → Prop) : fnVC true Tryd.prog TT FNS 16 [.tmp 2] c12 an12 [(.int .i64 n)] w none R = F12 n w R := by kernel_rfl
theorem call12 (n : Int) (w : World) (R : Value → World → Prop) (hF : F12 n w R) : Calls Tryd.prog 12 #[(.int .i64 n)] w fun e w' => ∃ v, e = .returned v ∧ R v w' :=
  fn_calls TTok FNSok mixed Tryd.func12 (show Tryd.f12.body = some c12 by kernel_rfl) (show Tryd.f12.ntmps = 16 by kernel_rfl) (show Tryd.f12.results.toList = [.tmp 2] by kernel_rfl) rfl ((F12_eq n w R).symm ▸ hF)

/- 13 pilaster/digest.Valid -/
noncomputable def c13 : Code := match Tryd.f13.body with
  | some c => c
  | none => .skip
def an13 : Ann := (.seq .leaf (.seq (.seq .leaf (.blk (.loop [(6, .int .i64)] (.seq .leaf (.seq (.cond .leaf .leaf) (.seq (.blk (.seq .leaf (.seq .leaf (.cond (.seq .leaf .leaf) .leaf)))) .leaf)))))) (.seq .leaf .leaf)))
def F13 (s : ByteArray) (w : World) (R : Value → World → Prop) : Prop :=
  ∃ (Inv : Int → World → Prop) (mu : Int → World → Nat), (Inv (0 : Int) w) ∧
  ∀ v : Int, ∀ w1 : World, Inv v w1 →
  ifB (ltI v ((s.size : Nat) : Int))
  (∃ b : UInt8, (0 ≤ v ∧ s[Int.toNat v]? = some b) ∧ ifB (ltI ((b.toNat : Nat) : Int) (48 : Int))
  (∃ b_1 : UInt8, (0 ≤ v ∧ s[Int.toNat v]? = some b_1) ∧ ifB (ltI ((b_1.toNat : Nat) : Int) (97 : Int))
  (R (.bool false) w1)
  (∃ b_2 : UInt8, (0 ≤ v ∧ s[Int.toNat v]? = some b_2) ∧ ifB (ltI (102 : Int) ((b_2.toNat : Nat) : Int))
  (R (.bool false) w1)
  (InI64 (v + (1 : Int)) ∧ (Inv (v + (1 : Int)) w1 ∧ mu (v + (1 : Int)) w1 < mu v w1))))
  (∃ b_3 : UInt8, (0 ≤ v ∧ s[Int.toNat v]? = some b_3) ∧ ifB (ltI (57 : Int) ((b_3.toNat : Nat) : Int))
  (∃ b_4 : UInt8, (0 ≤ v ∧ s[Int.toNat v]? = some b_4) ∧ ifB (ltI ((b_4.toNat : Nat) : Int) (97 : Int))
  (R (.bool false) w1)
  (∃ b_5 : UInt8, (0 ≤ v ∧ s[Int.toNat v]? = some b_5) ∧ ifB (ltI (102 : Int) ((b_5.toNat : Nat) : Int))
  (R (.bool false) w1)
  (InI64 (v + (1 : Int)) ∧ (Inv (v + (1 : Int)) w1 ∧ mu (v + (1 : Int)) w1 < mu v w1))))
  (InI64 (v + (1 : Int)) ∧ (Inv (v + (1 : Int)) w1 ∧ mu (v + (1 : Int)) w1 < mu v w1))))
  (R (.bool (eqI ((s.size : Nat) : Int) (64 : Int))) w1)
theorem F13_eq (s : ByteArray) (w : World) (R : Value → World → Prop) : fnVC true Tryd.prog TT FNS 35 [.tmp 2] c13 an13 [(.string s)] w none R = F13 s w R := by kernel_rfl
theorem call13 (s : ByteArray) (w : World) (R : Value → World → Prop) (hF : F13 s w R) : Calls Tryd.prog 13 #[(.string s)] w fun e w' => ∃ v, e = .returned v ∧ R v w' :=
  fn_calls TTok FNSok mixed Tryd.func13 (show Tryd.f13.body = some c13 by kernel_rfl) (show Tryd.f13.ntmps = 35 by kernel_rfl) (show Tryd.f13.results.toList = [.tmp 2] by kernel_rfl) rfl ((F13_eq s w R).symm ▸ hF)

/- 14 pilaster/pilasterref39.Valid -/
noncomputable def c14 : Code := match Tryd.f14.body with
  | some c => c
  | none => .skip
def an14 : Ann := (.seq .leaf (.seq (.seq .leaf (.blk (.loop [(3, .int .i64)] (.seq (.seq .leaf (.cond .leaf .leaf)) (.join [] (.blk (.seq .leaf (.cond (.seq .leaf .leaf) .leaf))) .leaf))))) (.seq .leaf .leaf)))
def F14 (s : ByteArray) (w : World) (R : Value → World → Prop) : Prop :=
  ∃ (Inv : Int → World → Prop) (mu : Int → World → Nat), (Inv (0 : Int) w) ∧
  ∀ i : Int, ∀ w1 : World, Inv i w1 →
  ifB (ltI i ((s.size : Nat) : Int))
  (∀ J : World → Prop,
  (∀ w2 : World, (InI64 (i + (1 : Int)) ∧ (Inv (i + (1 : Int)) w2 ∧ mu (i + (1 : Int)) w2 < mu i w1)) → J w2) →
  ∃ b : UInt8, (0 ≤ i ∧ s[Int.toNat i]? = some b) ∧ ifB (leI (48 : Int) ((b.toNat : Nat) : Int))
  (∃ b_1 : UInt8, (0 ≤ i ∧ s[Int.toNat i]? = some b_1) ∧ ifB (leI ((b_1.toNat : Nat) : Int) (57 : Int))
  (J w1)
  (∃ b_2 : UInt8, (0 ≤ i ∧ s[Int.toNat i]? = some b_2) ∧ ifB (leI (97 : Int) ((b_2.toNat : Nat) : Int))
  (∃ b_3 : UInt8, (0 ≤ i ∧ s[Int.toNat i]? = some b_3) ∧ ifB (!(leI ((b_3.toNat : Nat) : Int) (102 : Int)))
  (R (.bool false) w1)
  (J w1))
  (R (.bool false) w1)))
  (∃ b_4 : UInt8, (0 ≤ i ∧ s[Int.toNat i]? = some b_4) ∧ ifB (leI (97 : Int) ((b_4.toNat : Nat) : Int))
  (∃ b_5 : UInt8, (0 ≤ i ∧ s[Int.toNat i]? = some b_5) ∧ ifB (!(leI ((b_5.toNat : Nat) : Int) (102 : Int)))
  (R (.bool false) w1)
  (J w1))
  (R (.bool false) w1)))
  (R (.bool (eqI ((s.size : Nat) : Int) (64 : Int))) w1)
theorem F14_eq (s : ByteArray) (w : World) (R : Value → World → Prop) : fnVC true Tryd.prog TT FNS 36 [.tmp 2] c14 an14 [(.string s)] w none R = F14 s w R := by kernel_rfl
theorem call14 (s : ByteArray) (w : World) (R : Value → World → Prop) (hF : F14 s w R) : Calls Tryd.prog 14 #[(.string s)] w fun e w' => ∃ v, e = .returned v ∧ R v w' :=
  fn_calls TTok FNSok mixed Tryd.func14 (show Tryd.f14.body = some c14 by kernel_rfl) (show Tryd.f14.ntmps = 36 by kernel_rfl) (show Tryd.f14.results.toList = [.tmp 2] by kernel_rfl) rfl ((F14_eq s w R).symm ▸ hF)

/- 15 pilaster/pilasterref39.Blocks -/
noncomputable def c15 : Code := match Tryd.f15.body with
  | some c => c
  | none => .skip
def an15 : Ann := (.seq .leaf (.seq (.seq .leaf (.cond (.seq .leaf .leaf) .leaf)) (.seq .leaf .leaf)))
def F15 (n : Int) (w : World) (R : Value → World → Prop) : Prop :=
  ifB (ltI n (0 : Int))
  (R (.int .i64 (0 : Int)) w)
  (InI64 (n + (8 : Int)) ∧ (64 : Int) ≠ 0 ∧ InI64 (Int.tdiv (n + (8 : Int)) (64 : Int)) ∧ InI64 ((Int.tdiv (n + (8 : Int)) (64 : Int)) + (1 : Int)) ∧ R (.int .i64 ((Int.tdiv (n + (8 : Int)) (64 : Int)) + (1 : Int))) w)
theorem F15_eq (n : Int) (w : World) (R : Value → World → Prop) : fnVC true Tryd.prog TT FNS 9 [.tmp 2] c15 an15 [(.int .i64 n)] w none R = F15 n w R := by kernel_rfl
theorem call15 (n : Int) (w : World) (R : Value → World → Prop) (hF : F15 n w R) : Calls Tryd.prog 15 #[(.int .i64 n)] w fun e w' => ∃ v, e = .returned v ∧ R v w' :=
  fn_calls TTok FNSok mixed Tryd.func15 (show Tryd.f15.body = some c15 by kernel_rfl) (show Tryd.f15.ntmps = 9 by kernel_rfl) (show Tryd.f15.results.toList = [.tmp 2] by kernel_rfl) rfl ((F15_eq n w R).symm ▸ hF)

/- 16 pilaster/digest.List -/
noncomputable def c16 : Code := match Tryd.f16.body with
  | some c => c
  | none => .skip
def an16 : Ann := (.seq .leaf (.seq (.seq .leaf (.cond (.seq .leaf .leaf) .leaf)) (.seq .leaf (.seq (.seq .leaf (.blk (.loop [(4, .int .i64), (15, .int .i64)] (.seq .leaf (.seq (.cond .leaf .leaf) (.seq (.blk (.seq .leaf .leaf)) .leaf)))))) (.seq (.seq .leaf (.cond (.seq .leaf .leaf) .leaf)) (.seq .leaf (.seq (.seq .leaf (.blk (.loop [(7, .sl), (28, .int .i64)] (.seq .leaf (.seq (.cond .leaf .leaf) (.seq (.blk (.seq .leaf (.seq .leaf .leaf))) .leaf)))))) (.seq .leaf .leaf))))))))
def F16 (la : Option Addr) (ll : Nat) (lc : Nat) (w : World) (R : Value → World → Prop) : Prop :=
  ifB (ltI (1000 : Int) ((ll : Nat) : Int))
  (R (.tuple ⟨[(.string (bs [])), (.int .i64 (5 : Int))]⟩) w)
  (∃ (Inv : Int → Int → World → Prop) (mu : Int → Int → World → Nat), (Inv (0 : Int) (0 : Int) w) ∧
  ∀ n : Int, ∀ v : Int, ∀ w1 : World, Inv n v w1 →
  ifB (ltI v ((ll : Nat) : Int))
  ((0 ≤ v ∧ v < ((ll : Nat) : Int)) ∧ derefP la fun ad => ∃ s : ByteArray, w1.cell? (Addr.add ad (Int.toNat v * 1)) = some (.string s) ∧ InI64 (n + ((s.size : Nat) : Int)) ∧ InI64 (v + (1 : Int)) ∧ (Inv (n + ((s.size : Nat) : Int)) (v + (1 : Int)) w1 ∧ mu (n + ((s.size : Nat) : Int)) (v + (1 : Int)) w1 < mu n v w1))
  (ifB (ltI (1048576 : Int) n)
  (R (.tuple ⟨[(.string (bs [])), (.int .i64 (5 : Int))]⟩) w1)
  (∃ (Inv_1 : Option Addr → Nat → Nat → Int → World → Prop) (mu_1 : Option Addr → Nat → Nat → Int → World → Nat), (Inv_1 none 0 0 (0 : Int) w1) ∧
  ∀ ba : Option Addr, ∀ bl : Nat, ∀ bc : Nat, ∀ v_1 : Int, ∀ w2 : World, Inv_1 ba bl bc v_1 w2 →
  ifB (ltI v_1 ((ll : Nat) : Int))
  ((0 ≤ v_1 ∧ v_1 < ((ll : Nat) : Int)) ∧ derefP la fun ad_1 => ∃ s_1 : ByteArray, w2.cell? (Addr.add ad_1 (Int.toNat v_1 * 1)) = some (.string s_1) ∧ (Calls Tryd.prog 17 #[(.int .i64 ((s_1.size : Nat) : Int))] w2 fun en w3 => ∃ x : ByteArray, en = .returned (.string x) ∧ ∃ xa : Option Addr, ∃ xl : Nat, ∃ xc : Nat, ∃ w4 : World, Sem.run Tryd.prog (Builtin.append_ #[22, 9] 22 #[(.slice ba bl bc), (.string x)]) w3 = .ok (.slice xa xl xc) w4 ∧ ∀ w5 : World, w5 = w4.alloc (.cells ⟨[(.int .u8 (58 : Int))]⟩ 5) →
  ∃ ba_1 : Option Addr, ∃ bl_1 : Nat, ∃ bc_1 : Nat, ∃ w6 : World, Sem.run Tryd.prog (Builtin.append_ #[22, 22] 22 #[(.slice xa xl xc), (.slice (some ⟨w4.heap.size, 0, none⟩) 1 1)]) w5 = .ok (.slice ba_1 bl_1 bc_1) w6 ∧ ∃ ba_2 : Option Addr, ∃ bl_2 : Nat, ∃ bc_2 : Nat, ∃ w7 : World, Sem.run Tryd.prog (Builtin.append_ #[22, 9] 22 #[(.slice ba_1 bl_1 bc_1), (.string s_1)]) w6 = .ok (.slice ba_2 bl_2 bc_2) w7 ∧ InI64 (v_1 + (1 : Int)) ∧ (Inv_1 ba_2 bl_2 bc_2 (v_1 + (1 : Int)) w7 ∧ mu_1 ba_2 bl_2 bc_2 (v_1 + (1 : Int)) w7 < mu_1 ba bl bc v_1 w2)))
  ((Calls Tryd.prog 10 #[(.slice ba bl bc)] w2 fun en w8 => ∃ x_1 : ByteArray, en = .returned (.string x_1) ∧ R (.tuple ⟨[(.string x_1), (.int .i64 (0 : Int))]⟩) w8)))))
theorem F16_eq (la : Option Addr) (ll : Nat) (lc : Nat) (w : World) (R : Value → World → Prop) : fnVC true Tryd.prog TT FNS 45 [.tmp 2, .tmp 3] c16 an16 [(.slice la ll lc)] w none R = F16 la ll lc w R := by kernel_rfl
theorem call16 (la : Option Addr) (ll : Nat) (lc : Nat) (w : World) (R : Value → World → Prop) (hF : F16 la ll lc w R) : Calls Tryd.prog 16 #[(.slice la ll lc)] w fun e w' => ∃ v, e = .returned v ∧ R v w' :=
  fn_calls TTok FNSok mixed Tryd.func16 (show Tryd.f16.body = some c16 by kernel_rfl) (show Tryd.f16.ntmps = 45 by kernel_rfl) (show Tryd.f16.results.toList = [.tmp 2, .tmp 3] by kernel_rfl) rfl ((F16_eq la ll lc w R).symm ▸ hF)

/- 18 slices.ContainsFunc[[]string,string] -/
noncomputable def c18 : Code := match Tryd.f18.body with
  | some c => c
  | none => .skip
def an18 : Ann := (.seq .leaf (.seq .leaf .leaf))
def F18 (sa : Option Addr) (sl : Nat) (sc : Nat) (ff : FuncId) (fc : Array Value) (w : World) (R : Value → World → Prop) : Prop :=
  (Calls Tryd.prog 28 #[(.slice sa sl sc), (.func (.func ff) #[] fc)] w fun en w1 => ∃ x : Int, en = .returned (.int .i64 x) ∧ R (.bool (leI (0 : Int) x)) w1)
theorem F18_eq (sa : Option Addr) (sl : Nat) (sc : Nat) (ff : FuncId) (fc : Array Value) (w : World) (R : Value → World → Prop) : fnVC true Tryd.prog TT FNS 9 [.tmp 4] c18 an18 [(.slice sa sl sc), (.func (.func ff) #[] fc)] w none R = F18 sa sl sc ff fc w R := by kernel_rfl
theorem call18 (sa : Option Addr) (sl : Nat) (sc : Nat) (ff : FuncId) (fc : Array Value) (w : World) (R : Value → World → Prop) (hF : F18 sa sl sc ff fc w R) : Calls Tryd.prog 18 #[(.slice sa sl sc), (.func (.func ff) #[] fc)] w fun e w' => ∃ v, e = .returned v ∧ R v w' :=
  fn_calls TTok FNSok mixed Tryd.func18 (show Tryd.f18.body = some c18 by kernel_rfl) (show Tryd.f18.ntmps = 9 by kernel_rfl) (show Tryd.f18.results.toList = [.tmp 4] by kernel_rfl) rfl ((F18_eq sa sl sc ff fc w R).symm ▸ hF)

/- 19 pilaster/pilasterlaw39.DigestLists$1 -/
noncomputable def c19 : Code := match Tryd.f19.body with
  | some c => c
  | none => .skip
def an19 : Ann := (.seq .leaf (.seq .leaf .leaf))
def F19 (s : ByteArray) (w : World) (R : Value → World → Prop) : Prop :=
  ifB (ltI (1000 : Int) ((s.size : Nat) : Int))
  (ifB (ltI ((s.size : Nat) : Int) (1048576 : Int))
  (R (.bool true) w)
  (R (.bool (ltI (1048676 : Int) ((s.size : Nat) : Int))) w))
  (R (.bool (ltI (1048676 : Int) ((s.size : Nat) : Int))) w)
theorem F19_eq (s : ByteArray) (w : World) (R : Value → World → Prop) : fnVC true Tryd.prog TT FNS 16 [.tmp 2] c19 an19 [(.string s)] w none R = F19 s w R := by kernel_rfl
theorem call19 (s : ByteArray) (w : World) (R : Value → World → Prop) (hF : F19 s w R) : Calls Tryd.prog 19 #[(.string s)] w fun e w' => ∃ v, e = .returned v ∧ R v w' :=
  fn_calls TTok FNSok mixed Tryd.func19 (show Tryd.f19.body = some c19 by kernel_rfl) (show Tryd.f19.ntmps = 16 by kernel_rfl) (show Tryd.f19.results.toList = [.tmp 2] by kernel_rfl) rfl ((F19_eq s w R).symm ▸ hF)

/- 20 pilaster/pilasterref39.List -/
noncomputable def c20 : Code := match Tryd.f20.body with
  | some c => c
  | none => .skip
def an20 : Ann := (.seq .leaf (.seq (.seq .leaf (.cond (.seq .leaf .leaf) .leaf)) (.seq .leaf (.seq (.seq .leaf (.blk (.loop [(4, .int .i64), (5, .int .i64)] (.seq (.seq .leaf (.cond .leaf .leaf)) (.seq (.blk .leaf) .leaf))))) (.seq (.seq .leaf (.cond (.seq .leaf .leaf) .leaf)) (.seq .leaf (.seq (.seq .leaf (.blk (.loop [(6, .sl), (7, .int .i64)] (.seq (.seq .leaf (.cond .leaf .leaf)) (.seq (.blk (.draw 13 [(0, true), (1, true), (2, true), (3, true), (4, true), (5, true), (9, true), (10, true), (11, true), (12, true), (6, false), (7, true), (8, false)])) .leaf))))) (.seq .leaf .leaf))))))))
def F20 (la : Option Addr) (ll : Nat) (lc : Nat) (w : World) (R : Value → World → Prop) : Prop :=
  ifB (ltI (1000 : Int) ((ll : Nat) : Int))
  (R (.tuple ⟨[(.string (bs [])), (.int .i64 (5 : Int))]⟩) w)
  (∃ (Inv : Int → Int → World → Prop) (mu : Int → Int → World → Nat), (Inv (0 : Int) (0 : Int) w) ∧
  ∀ total : Int, ∀ i : Int, ∀ w1 : World, Inv total i w1 →
  ifB (ltI i ((ll : Nat) : Int))
  ((0 ≤ i ∧ i < ((ll : Nat) : Int)) ∧ derefP la fun ad => ∃ x : ByteArray, w1.cell? (Addr.add ad (Int.toNat i * 1)) = some (.string x) ∧ InI64 (total + ((x.size : Nat) : Int)) ∧ InI64 (i + (1 : Int)) ∧ (Inv (total + ((x.size : Nat) : Int)) (i + (1 : Int)) w1 ∧ mu (total + ((x.size : Nat) : Int)) (i + (1 : Int)) w1 < mu total i w1))
  (ifB (ltI (1048576 : Int) total)
  (R (.tuple ⟨[(.string (bs [])), (.int .i64 (5 : Int))]⟩) w1)
  (∃ (Inv_1 : Option Addr → Nat → Nat → Int → World → Prop) (mu_1 : Option Addr → Nat → Nat → Int → World → Nat), (Inv_1 none 0 0 (0 : Int) w1) ∧
  ∀ ba : Option Addr, ∀ bl : Nat, ∀ bc : Nat, ∀ i_1 : Int, ∀ w2 : World, Inv_1 ba bl bc i_1 w2 →
  ifB (ltI i_1 ((ll : Nat) : Int))
  (∀ w3 : World, w3 = w2.drew →
  (0 ≤ i_1 ∧ i_1 < ((ll : Nat) : Int)) ∧ derefP la fun ad_1 => ∃ x_1 : ByteArray, w3.cell? (Addr.add ad_1 (Int.toNat i_1 * 1)) = some (.string x_1) ∧ (0 ≤ i_1 ∧ i_1 < ((ll : Nat) : Int)) ∧ derefP la fun ad_2 => ∃ x_2 : ByteArray, w3.cell? (Addr.add ad_2 (Int.toNat i_1 * 1)) = some (.string x_2) ∧ (Calls Tryd.prog 29 #[(.int .i64 ((x_1.size : Nat) : Int))] w3 fun en w4 => ∃ x_3 : ByteArray, en = .returned (.string x_3) ∧ Below w3.heap.size w3 w4 ∧ x_3.size + (bs [58]).size ≤ 9223372036854775807 ∧ ∃ xa : Option Addr, ∃ xl : Nat, ∃ xc : Nat, ∃ w5 : World, Sem.run Tryd.prog (Builtin.append_ #[22, 9] 22 #[(.slice ba bl bc), (.string (x_3 ++ (bs [58])))]) w4 = .ok (.slice xa xl xc) w5 ∧ Below w3.heap.size w3 w5 ∧ ∃ ba_1 : Option Addr, ∃ bl_1 : Nat, ∃ bc_1 : Nat, ∃ w6 : World, Sem.run Tryd.prog (Builtin.append_ #[22, 9] 22 #[(.slice xa xl xc), (.string x_2)]) w5 = .ok (.slice ba_1 bl_1 bc_1) w6 ∧ InI64 (i_1 + (1 : Int)) ∧ (Inv_1 ba_1 bl_1 bc_1 (i_1 + (1 : Int)) w6 ∧ mu_1 ba_1 bl_1 bc_1 (i_1 + (1 : Int)) w6 < mu_1 ba bl bc i_1 w2)))
  ((Calls Tryd.prog 9 #[(.slice ba bl bc)] w2 fun en w7 => ∃ x_4 : ByteArray, en = .returned (.string x_4) ∧ R (.tuple ⟨[(.string x_4), (.int .i64 (0 : Int))]⟩) w7)))))
theorem F20_eq (la : Option Addr) (ll : Nat) (lc : Nat) (w : World) (R : Value → World → Prop) : fnVC true Tryd.prog TT FNS 48 [.tmp 2, .tmp 3] c20 an20 [(.slice la ll lc)] w none R = F20 la ll lc w R := by kernel_rfl
theorem call20 (la : Option Addr) (ll : Nat) (lc : Nat) (w : World) (R : Value → World → Prop) (hF : F20 la ll lc w R) : Calls Tryd.prog 20 #[(.slice la ll lc)] w fun e w' => ∃ v, e = .returned v ∧ R v w' :=
  fn_calls TTok FNSok mixed Tryd.func20 (show Tryd.f20.body = some c20 by kernel_rfl) (show Tryd.f20.ntmps = 48 by kernel_rfl) (show Tryd.f20.results.toList = [.tmp 2, .tmp 3] by kernel_rfl) rfl ((F20_eq la ll lc w R).symm ▸ hF)

/- 21 strings.HasPrefix -/
noncomputable def c21 : Code := match Tryd.f21.body with
  | some c => c
  | none => .skip
def an21 : Ann := (.seq .leaf (.seq .leaf .leaf))
def F21 (s : ByteArray) (prefix0 : ByteArray) (w : World) (R : Value → World → Prop) : Prop :=
  (Calls Tryd.prog 30 #[(.string s), (.string prefix0)] w fun en w1 => ∃ x : Bool, en = .returned (.bool x) ∧ R (.bool x) w1)
theorem F21_eq (s : ByteArray) (prefix0 : ByteArray) (w : World) (R : Value → World → Prop) : fnVC true Tryd.prog TT FNS 8 [.tmp 4] c21 an21 [(.string s), (.string prefix0)] w none R = F21 s prefix0 w R := by kernel_rfl
theorem call21 (s : ByteArray) (prefix0 : ByteArray) (w : World) (R : Value → World → Prop) (hF : F21 s prefix0 w R) : Calls Tryd.prog 21 #[(.string s), (.string prefix0)] w fun e w' => ∃ v, e = .returned v ∧ R v w' :=
  fn_calls TTok FNSok mixed Tryd.func21 (show Tryd.f21.body = some c21 by kernel_rfl) (show Tryd.f21.ntmps = 8 by kernel_rfl) (show Tryd.f21.results.toList = [.tmp 4] by kernel_rfl) rfl ((F21_eq s prefix0 w R).symm ▸ hF)

/- 22 pilaster/pilasterref39.padded -/
noncomputable def c22 : Code := match Tryd.f22.body with
  | some c => c
  | none => .skip
def an22 : Ann := (.seq .leaf (.seq .leaf (.seq .leaf (.seq (.blk (.loop [(3, .sl)] (.seq (.seq .leaf (.cond .leaf .leaf)) (.blk .leaf)))) (.seq .leaf (.seq (.seq .leaf (.blk (.loop [(3, .sl), (5, .int .i64)] (.seq (.seq .leaf (.cond .leaf .leaf)) (.seq (.blk .leaf) .leaf))))) (.seq .leaf .leaf)))))))
def F22 (ba : Option Addr) (bl : Nat) (bc : Nat) (w : World) (R : Value → World → Prop) : Prop :=
  ∀ w1 : World, w1 = w.alloc (.cells ⟨[]⟩ 5) →
  ∃ outa : Option Addr, ∃ outl : Nat, ∃ outc : Nat, ∃ w2 : World, Sem.run Tryd.prog (Builtin.append_ #[22, 22] 22 #[(.slice (some ⟨w.heap.size, 0, none⟩) 0 0), (.slice ba bl bc)]) w1 = .ok (.slice outa outl outc) w2 ∧ ∀ w3 : World, w3 = w2.alloc (.cells ⟨[(.int .u8 (128 : Int))]⟩ 5) →
  ∃ outa_1 : Option Addr, ∃ outl_1 : Nat, ∃ outc_1 : Nat, ∃ w4 : World, Sem.run Tryd.prog (Builtin.append_ #[22, 22] 22 #[(.slice outa outl outc), (.slice (some ⟨w2.heap.size, 0, none⟩) 1 1)]) w3 = .ok (.slice outa_1 outl_1 outc_1) w4 ∧ ∃ (Inv : Option Addr → Nat → Nat → World → Prop) (mu : Option Addr → Nat → Nat → World → Nat), (Inv outa_1 outl_1 outc_1 w4) ∧
  ∀ outa_2 : Option Addr, ∀ outl_2 : Nat, ∀ outc_2 : Nat, ∀ w5 : World, Inv outa_2 outl_2 outc_2 w5 →
  (64 : Int) ≠ 0 ∧ ifB (!eqI (Int.tmod ((outl_2 : Nat) : Int) (64 : Int)) (56 : Int))
  (∀ w6 : World, w6 = w5.alloc (.cells ⟨[(.int .u8 (0 : Int))]⟩ 5) →
  ∃ outa_3 : Option Addr, ∃ outl_3 : Nat, ∃ outc_3 : Nat, ∃ w7 : World, Sem.run Tryd.prog (Builtin.append_ #[22, 22] 22 #[(.slice outa_2 outl_2 outc_2), (.slice (some ⟨w5.heap.size, 0, none⟩) 1 1)]) w6 = .ok (.slice outa_3 outl_3 outc_3) w7 ∧ (Inv outa_3 outl_3 outc_3 w7 ∧ mu outa_3 outl_3 outc_3 w7 < mu outa_2 outl_2 outc_2 w5))
  (InI64 ((8 : Int) * ((bl : Nat) : Int)) ∧ ∃ (Inv_1 : Option Addr → Nat → Nat → Int → World → Prop) (mu_1 : Option Addr → Nat → Nat → Int → World → Nat), (Inv_1 outa_2 outl_2 outc_2 (7 : Int) w5) ∧
  ∀ outa_4 : Option Addr, ∀ outl_4 : Nat, ∀ outc_4 : Nat, ∀ i : Int, ∀ w8 : World, Inv_1 outa_4 outl_4 outc_4 i w8 →
  ifB (leI (0 : Int) i)
  (InI64 ((8 : Int) * i) ∧ 0 ≤ ((8 : Int) * i) ∧ ∀ w9 : World, w9 = w8.alloc (.cells ⟨[(.int .u8 (IntKind.u8.wrap (shrI IntKind.i64 ((8 : Int) * ((bl : Nat) : Int)) ((8 : Int) * i))))]⟩ 5) →
  ∃ outa_5 : Option Addr, ∃ outl_5 : Nat, ∃ outc_5 : Nat, ∃ w10 : World, Sem.run Tryd.prog (Builtin.append_ #[22, 22] 22 #[(.slice outa_4 outl_4 outc_4), (.slice (some ⟨w8.heap.size, 0, none⟩) 1 1)]) w9 = .ok (.slice outa_5 outl_5 outc_5) w10 ∧ InI64 (i - (1 : Int)) ∧ (Inv_1 outa_5 outl_5 outc_5 (i - (1 : Int)) w10 ∧ mu_1 outa_5 outl_5 outc_5 (i - (1 : Int)) w10 < mu_1 outa_4 outl_4 outc_4 i w8))
  (R (.slice outa_4 outl_4 outc_4) w8))
theorem F22_eq (ba : Option Addr) (bl : Nat) (bc : Nat) (w : World) (R : Value → World → Prop) : fnVC true Tryd.prog TT FNS 35 [.tmp 2] c22 an22 [(.slice ba bl bc)] w none R = F22 ba bl bc w R := by kernel_rfl
theorem call22 (ba : Option Addr) (bl : Nat) (bc : Nat) (w : World) (R : Value → World → Prop) (hF : F22 ba bl bc w R) : Calls Tryd.prog 22 #[(.slice ba bl bc)] w fun e w' => ∃ v, e = .returned v ∧ R v w' :=
  fn_calls TTok FNSok mixed Tryd.func22 (show Tryd.f22.body = some c22 by kernel_rfl) (show Tryd.f22.ntmps = 35 by kernel_rfl) (show Tryd.f22.results.toList = [.tmp 2] by kernel_rfl) rfl ((F22_eq ba bl bc w R).symm ▸ hF)

/- 23 pilaster/pilasterref39.block -/
noncomputable def c23 : Code := match Tryd.f23.body with
  | some c => c
  | none => .skip
def an23 : Ann := (.seq .leaf (.seq .leaf (.seq .leaf (.seq (.seq .leaf (.blk (.loop [(7, .int .i64)] (.seq (.seq .leaf (.cond .leaf .leaf)) (.seq (.blk (.seq (.seq .leaf (.cond (.seq (.draw 35 [(0, true), (1, true), (2, true), (3, true), (4, true), (5, true), (6, true), (7, true), (8, true), (9, true), (10, true), (11, true), (12, true), (13, true), (14, true), (15, true), (16, true), (17, true), (18, true), (19, true), (20, true), (21, true), (22, true), (23, true), (24, true), (25, true), (26, true), (27, true), (28, true), (29, true), (30, true), (31, true), (32, true), (33, true), (34, true)]) .leaf) .leaf)) (.seq (.draw 11 [(0, true), (1, true), (2, true), (3, true), (4, true), (5, true), (6, true), (7, true), (8, true), (9, true), (10, true)]) (.draw 31 [(0, true), (1, true), (2, true), (3, true), (4, true), (5, true), (6, true), (7, true), (9, true), (12, true), (13, true), (16, true), (17, true), (18, true), (19, true), (20, true), (22, true), (24, true), (27, true), (28, true), (8, false), (10, false), (11, true), (14, true), (15, true), (21, true), (23, false), (25, false), (26, true), (29, true), (30, true)])))) .leaf))))) (.seq .leaf (.seq (.seq .leaf (.blk (.loop [(10, .sl), (11, .int .i64)] (.seq (.seq .leaf (.cond .leaf .leaf)) (.seq (.blk (.seq (.draw 7 [(0, true), (1, true), (2, true), (3, true), (4, true), (5, true), (6, true)]) (.seq (.draw 34 [(0, true), (1, true), (2, true), (3, true), (5, true), (8, true), (12, true), (13, true), (14, true), (15, true), (16, true), (17, true), (18, true), (19, true), (20, true), (21, true), (22, true), (23, true), (25, true), (26, true), (27, true), (28, true), (30, true), (31, true), (32, true), (33, true), (4, false), (6, false), (7, true), (9, false), (10, true), (11, true), (24, true), (29, true)]) (.seq (.draw 27 [(0, true), (2, true), (5, true), (8, true), (9, true), (10, true), (11, true), (12, true), (13, true), (14, true), (15, true), (16, true), (17, true), (18, true), (19, true), (20, true), (21, true), (22, true), (23, true), (24, true), (25, true), (26, true), (1, false), (3, false), (4, true), (6, false), (7, true)]) (.draw 26 [(0, true), (1, true), (2, true), (3, true), (4, true), (5, true), (6, true), (7, true), (8, true), (9, true), (10, true), (11, true), (12, true), (13, true), (14, true), (15, true), (16, true), (17, true), (18, true), (19, true), (20, true), (21, true), (22, true), (23, true), (24, true), (25, true)]))))) .leaf))))) (.seq .leaf (.seq (.seq .leaf (.blk (.loop [(16, .sl), (17, .int .i64)] (.seq (.seq .leaf (.cond .leaf .leaf)) (.seq (.blk (.draw 11 [(0, true), (1, true), (2, true), (3, true), (4, true), (5, true), (6, true), (7, true), (8, true), (9, true), (10, false)])) .leaf))))) (.seq .leaf .leaf)))))))))
def F23 (ha : Option Addr) (hl : Nat) (hc : Nat) (ba : Option Addr) (bl : Nat) (bc : Nat) (w : World) (R : Value → World → Prop) : Prop :=
  (Calls Tryd.prog 31 #[] w fun en w1 => ∃ ka : Option Addr, ∃ kl : Nat, ∃ kc : Nat, en = .returned (.slice ka kl kc) ∧ ∃ wa : Option Addr, ∃ wl : Nat, ∃ wc : Nat, ∃ w2 : World, Sem.run Tryd.prog (Instr.makeSlice 42 (.int .i64 (64 : Int)) (.int .i64 (64 : Int))) w1 = .ok (.slice wa wl wc) w2 ∧ ∃ (Inv : Int → World → Prop) (mu : Int → World → Nat), (Inv (0 : Int) w2) ∧
  ∀ t : Int, ∀ w3 : World, Inv t w3 →
  ifB (ltI t (64 : Int))
  (ifB (ltI t (16 : Int))
  (∀ w4 : World, w4 = w3.drew →
  InI64 ((4 : Int) * t) ∧ (0 ≤ ((4 : Int) * t) ∧ ((4 : Int) * t) < ((bl : Nat) : Int)) ∧ derefP ba fun ad => ∃ x : Int, w4.cell? (Addr.add ad (Int.toNat ((4 : Int) * t) * 1)) = some (.int .u8 x) ∧ 0 ≤ (24 : Int) ∧ InI64 ((4 : Int) * t) ∧ InI64 (((4 : Int) * t) + (1 : Int)) ∧ (0 ≤ (((4 : Int) * t) + (1 : Int)) ∧ (((4 : Int) * t) + (1 : Int)) < ((bl : Nat) : Int)) ∧ derefP ba fun ad_1 => ∃ x_1 : Int, w4.cell? (Addr.add ad_1 (Int.toNat (((4 : Int) * t) + (1 : Int)) * 1)) = some (.int .u8 x_1) ∧ 0 ≤ (16 : Int) ∧ InI64 ((4 : Int) * t) ∧ InI64 (((4 : Int) * t) + (2 : Int)) ∧ (0 ≤ (((4 : Int) * t) + (2 : Int)) ∧ (((4 : Int) * t) + (2 : Int)) < ((bl : Nat) : Int)) ∧ derefP ba fun ad_2 => ∃ x_2 : Int, w4.cell? (Addr.add ad_2 (Int.toNat (((4 : Int) * t) + (2 : Int)) * 1)) = some (.int .u8 x_2) ∧ 0 ≤ (8 : Int) ∧ InI64 ((4 : Int) * t) ∧ InI64 (((4 : Int) * t) + (3 : Int)) ∧ (0 ≤ (((4 : Int) * t) + (3 : Int)) ∧ (((4 : Int) * t) + (3 : Int)) < ((bl : Nat) : Int)) ∧ derefP ba fun ad_3 => ∃ x_3 : Int, w4.cell? (Addr.add ad_3 (Int.toNat (((4 : Int) * t) + (3 : Int)) * 1)) = some (.int .u8 x_3) ∧ (0 ≤ t ∧ t < ((wl : Nat) : Int)) ∧ derefP wa fun ad_4 => stOk1 w4 (Addr.add ad_4 (Int.toNat t * 1)) ∧ ∀ w5 : World, w5 = w4.setCell (Addr.add ad_4 (Int.toNat t * 1)) (.int .u32 (bits BinOp.or IntKind.u32 (bits BinOp.or IntKind.u32 (bits BinOp.or IntKind.u32 (shlI IntKind.u32 (IntKind.u32.wrap x) (24 : Int)) (shlI IntKind.u32 (IntKind.u32.wrap x_1) (16 : Int))) (shlI IntKind.u32 (IntKind.u32.wrap x_2) (8 : Int))) (IntKind.u32.wrap x_3))) →
  InI64 (t + (1 : Int)) ∧ (Inv (t + (1 : Int)) w5 ∧ mu (t + (1 : Int)) w5 < mu t w3))
  (∀ w6 : World, w6 = w3.drew →
  InI64 (t - (15 : Int)) ∧ (0 ≤ (t - (15 : Int)) ∧ (t - (15 : Int)) < ((wl : Nat) : Int)) ∧ derefP wa fun ad_5 => ∃ x_4 : Int, w6.cell? (Addr.add ad_5 (Int.toNat (t - (15 : Int)) * 1)) = some (.int .u32 x_4) ∧ InI64 (t - (2 : Int)) ∧ (0 ≤ (t - (2 : Int)) ∧ (t - (2 : Int)) < ((wl : Nat) : Int)) ∧ derefP wa fun ad_6 => ∃ y : Int, w6.cell? (Addr.add ad_6 (Int.toNat (t - (2 : Int)) * 1)) = some (.int .u32 y) ∧ ∀ w7 : World, w7 = w6.drew →
  InI64 (t - (16 : Int)) ∧ (0 ≤ (t - (16 : Int)) ∧ (t - (16 : Int)) < ((wl : Nat) : Int)) ∧ derefP wa fun ad_7 => ∃ x_5 : Int, w7.cell? (Addr.add ad_7 (Int.toNat (t - (16 : Int)) * 1)) = some (.int .u32 x_5) ∧ 0 ≤ (3 : Int) ∧ InI64 (t - (7 : Int)) ∧ (0 ≤ (t - (7 : Int)) ∧ (t - (7 : Int)) < ((wl : Nat) : Int)) ∧ derefP wa fun ad_8 => ∃ x_6 : Int, w7.cell? (Addr.add ad_8 (Int.toNat (t - (7 : Int)) * 1)) = some (.int .u32 x_6) ∧ 0 ≤ (10 : Int) ∧ (Calls Tryd.prog 32 #[(.int .u32 x_4), (.int .i64 (7 : Int))] w7 fun en w8 => ∃ x_7 : Int, en = .returned (.int .u32 x_7) ∧ Below w7.heap.size w7 w8 ∧ (Calls Tryd.prog 32 #[(.int .u32 x_4), (.int .i64 (18 : Int))] w8 fun en w9 => ∃ x_8 : Int, en = .returned (.int .u32 x_8) ∧ Below w7.heap.size w7 w9 ∧ (Calls Tryd.prog 32 #[(.int .u32 y), (.int .i64 (17 : Int))] w9 fun en w10 => ∃ x_9 : Int, en = .returned (.int .u32 x_9) ∧ Below w7.heap.size w7 w10 ∧ (Calls Tryd.prog 32 #[(.int .u32 y), (.int .i64 (19 : Int))] w10 fun en w11 => ∃ x_10 : Int, en = .returned (.int .u32 x_10) ∧ Below w7.heap.size w7 w11 ∧ (0 ≤ t ∧ t < ((wl : Nat) : Int)) ∧ derefP wa fun ad_9 => stOk1 w11 (Addr.add ad_9 (Int.toNat t * 1)) ∧ ∀ w12 : World, w12 = w11.setCell (Addr.add ad_9 (Int.toNat t * 1)) (.int .u32 (IntKind.u32.wrap ((IntKind.u32.wrap ((IntKind.u32.wrap (x_5 + (bits BinOp.xor IntKind.u32 (bits BinOp.xor IntKind.u32 x_7 x_8) (shrI IntKind.u32 x_4 (3 : Int))))) + x_6)) + (bits BinOp.xor IntKind.u32 (bits BinOp.xor IntKind.u32 x_9 x_10) (shrI IntKind.u32 y (10 : Int)))))) →
  InI64 (t + (1 : Int)) ∧ (Inv (t + (1 : Int)) w12 ∧ mu (t + (1 : Int)) w12 < mu t w3)))))))
  (∀ w13 : World, w13 = w3.alloc (.cells ⟨[]⟩ 41) →
  ∃ va : Option Addr, ∃ vl : Nat, ∃ vc : Nat, ∃ w14 : World, Sem.run Tryd.prog (Builtin.append_ #[42, 42] 42 #[(.slice (some ⟨w3.heap.size, 0, none⟩) 0 0), (.slice ha hl hc)]) w13 = .ok (.slice va vl vc) w14 ∧ ∃ (Inv_1 : Option Addr → Nat → Nat → Int → World → Prop) (mu_1 : Option Addr → Nat → Nat → Int → World → Nat), (Inv_1 va vl vc (0 : Int) w14) ∧
  ∀ va_1 : Option Addr, ∀ vl_1 : Nat, ∀ vc_1 : Nat, ∀ t_1 : Int, ∀ w15 : World, Inv_1 va_1 vl_1 vc_1 t_1 w15 →
  ifB (ltI t_1 (64 : Int))
  (∀ w16 : World, w16 = w15.drew →
  (0 ≤ (0 : Int) ∧ (0 : Int) < ((vl_1 : Nat) : Int)) ∧ derefP va_1 fun ad_10 => ∃ a : Int, w16.cell? (Addr.add ad_10 (Int.toNat (0 : Int) * 1)) = some (.int .u32 a) ∧ (0 ≤ (4 : Int) ∧ (4 : Int) < ((vl_1 : Nat) : Int)) ∧ derefP va_1 fun ad_11 => ∃ e : Int, w16.cell? (Addr.add ad_11 (Int.toNat (4 : Int) * 1)) = some (.int .u32 e) ∧ ∀ w17 : World, w17 = w16.drew →
  (0 ≤ (7 : Int) ∧ (7 : Int) < ((vl_1 : Nat) : Int)) ∧ derefP va_1 fun ad_12 => ∃ x_11 : Int, w17.cell? (Addr.add ad_12 (Int.toNat (7 : Int) * 1)) = some (.int .u32 x_11) ∧ (0 ≤ (5 : Int) ∧ (5 : Int) < ((vl_1 : Nat) : Int)) ∧ derefP va_1 fun ad_13 => ∃ x_12 : Int, w17.cell? (Addr.add ad_13 (Int.toNat (5 : Int) * 1)) = some (.int .u32 x_12) ∧ (0 ≤ (6 : Int) ∧ (6 : Int) < ((vl_1 : Nat) : Int)) ∧ derefP va_1 fun ad_14 => ∃ x_13 : Int, w17.cell? (Addr.add ad_14 (Int.toNat (6 : Int) * 1)) = some (.int .u32 x_13) ∧ (0 ≤ t_1 ∧ t_1 < ((kl : Nat) : Int)) ∧ derefP ka fun ad_15 => ∃ x_14 : Int, w17.cell? (Addr.add ad_15 (Int.toNat t_1 * 1)) = some (.int .u32 x_14) ∧ (0 ≤ t_1 ∧ t_1 < ((wl : Nat) : Int)) ∧ derefP wa fun ad_16 => ∃ x_15 : Int, w17.cell? (Addr.add ad_16 (Int.toNat t_1 * 1)) = some (.int .u32 x_15) ∧ (Calls Tryd.prog 32 #[(.int .u32 e), (.int .i64 (6 : Int))] w17 fun en w18 => ∃ x_16 : Int, en = .returned (.int .u32 x_16) ∧ Below w17.heap.size w17 w18 ∧ (Calls Tryd.prog 32 #[(.int .u32 e), (.int .i64 (11 : Int))] w18 fun en w19 => ∃ x_17 : Int, en = .returned (.int .u32 x_17) ∧ Below w17.heap.size w17 w19 ∧ (Calls Tryd.prog 32 #[(.int .u32 e), (.int .i64 (25 : Int))] w19 fun en w20 => ∃ x_18 : Int, en = .returned (.int .u32 x_18) ∧ Below w17.heap.size w17 w20 ∧ ∀ w21 : World, w21 = w20.drew →
  (0 ≤ (1 : Int) ∧ (1 : Int) < ((vl_1 : Nat) : Int)) ∧ derefP va_1 fun ad_17 => ∃ x_19 : Int, w21.cell? (Addr.add ad_17 (Int.toNat (1 : Int) * 1)) = some (.int .u32 x_19) ∧ (0 ≤ (2 : Int) ∧ (2 : Int) < ((vl_1 : Nat) : Int)) ∧ derefP va_1 fun ad_18 => ∃ x_20 : Int, w21.cell? (Addr.add ad_18 (Int.toNat (2 : Int) * 1)) = some (.int .u32 x_20) ∧ (0 ≤ (1 : Int) ∧ (1 : Int) < ((vl_1 : Nat) : Int)) ∧ derefP va_1 fun ad_19 => ∃ x_21 : Int, w21.cell? (Addr.add ad_19 (Int.toNat (1 : Int) * 1)) = some (.int .u32 x_21) ∧ (0 ≤ (2 : Int) ∧ (2 : Int) < ((vl_1 : Nat) : Int)) ∧ derefP va_1 fun ad_20 => ∃ x_22 : Int, w21.cell? (Addr.add ad_20 (Int.toNat (2 : Int) * 1)) = some (.int .u32 x_22) ∧ (Calls Tryd.prog 32 #[(.int .u32 a), (.int .i64 (2 : Int))] w21 fun en w22 => ∃ x_23 : Int, en = .returned (.int .u32 x_23) ∧ Below w21.heap.size w21 w22 ∧ (Calls Tryd.prog 32 #[(.int .u32 a), (.int .i64 (13 : Int))] w22 fun en w23 => ∃ x_24 : Int, en = .returned (.int .u32 x_24) ∧ Below w21.heap.size w21 w23 ∧ (Calls Tryd.prog 32 #[(.int .u32 a), (.int .i64 (22 : Int))] w23 fun en w24 => ∃ x_25 : Int, en = .returned (.int .u32 x_25) ∧ Below w21.heap.size w21 w24 ∧ ∀ w25 : World, w25 = w24.drew →
  (0 ≤ (0 : Int) ∧ (0 : Int) < ((vl_1 : Nat) : Int)) ∧ derefP va_1 fun ad_21 => ∃ x_26 : Int, w25.cell? (Addr.add ad_21 (Int.toNat (0 : Int) * 1)) = some (.int .u32 x_26) ∧ (0 ≤ (1 : Int) ∧ (1 : Int) < ((vl_1 : Nat) : Int)) ∧ derefP va_1 fun ad_22 => ∃ x_27 : Int, w25.cell? (Addr.add ad_22 (Int.toNat (1 : Int) * 1)) = some (.int .u32 x_27) ∧ (0 ≤ (2 : Int) ∧ (2 : Int) < ((vl_1 : Nat) : Int)) ∧ derefP va_1 fun ad_23 => ∃ x_28 : Int, w25.cell? (Addr.add ad_23 (Int.toNat (2 : Int) * 1)) = some (.int .u32 x_28) ∧ (0 ≤ (3 : Int) ∧ (3 : Int) < ((vl_1 : Nat) : Int)) ∧ derefP va_1 fun ad_24 => ∃ x_29 : Int, w25.cell? (Addr.add ad_24 (Int.toNat (3 : Int) * 1)) = some (.int .u32 x_29) ∧ (0 ≤ (4 : Int) ∧ (4 : Int) < ((vl_1 : Nat) : Int)) ∧ derefP va_1 fun ad_25 => ∃ x_30 : Int, w25.cell? (Addr.add ad_25 (Int.toNat (4 : Int) * 1)) = some (.int .u32 x_30) ∧ (0 ≤ (5 : Int) ∧ (5 : Int) < ((vl_1 : Nat) : Int)) ∧ derefP va_1 fun ad_26 => ∃ x_31 : Int, w25.cell? (Addr.add ad_26 (Int.toNat (5 : Int) * 1)) = some (.int .u32 x_31) ∧ (0 ≤ (6 : Int) ∧ (6 : Int) < ((vl_1 : Nat) : Int)) ∧ derefP va_1 fun ad_27 => ∃ x_32 : Int, w25.cell? (Addr.add ad_27 (Int.toNat (6 : Int) * 1)) = some (.int .u32 x_32) ∧ ∀ w26 : World, w26 = w25.alloc (.cells ⟨[(.int .u32 (IntKind.u32.wrap ((IntKind.u32.wrap ((IntKind.u32.wrap ((IntKind.u32.wrap ((IntKind.u32.wrap (x_11 + (bits BinOp.xor IntKind.u32 (bits BinOp.xor IntKind.u32 x_16 x_17) x_18))) + (bits BinOp.xor IntKind.u32 (bits BinOp.and IntKind.u32 e x_12) (bits BinOp.and IntKind.u32 (bits BinOp.xor IntKind.u32 (if IntKind.u32.signed = true then -1 else IntKind.u32.max) e) x_13)))) + x_14)) + x_15)) + (IntKind.u32.wrap ((bits BinOp.xor IntKind.u32 (bits BinOp.xor IntKind.u32 x_23 x_24) x_25) + (bits BinOp.xor IntKind.u32 (bits BinOp.xor IntKind.u32 (bits BinOp.and IntKind.u32 a x_19) (bits BinOp.and IntKind.u32 a x_20)) (bits BinOp.and IntKind.u32 x_21 x_22))))))), (.int .u32 x_26), (.int .u32 x_27), (.int .u32 x_28), (.int .u32 (IntKind.u32.wrap (x_29 + (IntKind.u32.wrap ((IntKind.u32.wrap ((IntKind.u32.wrap ((IntKind.u32.wrap (x_11 + (bits BinOp.xor IntKind.u32 (bits BinOp.xor IntKind.u32 x_16 x_17) x_18))) + (bits BinOp.xor IntKind.u32 (bits BinOp.and IntKind.u32 e x_12) (bits BinOp.and IntKind.u32 (bits BinOp.xor IntKind.u32 (if IntKind.u32.signed = true then -1 else IntKind.u32.max) e) x_13)))) + x_14)) + x_15))))), (.int .u32 x_30), (.int .u32 x_31), (.int .u32 x_32)]⟩ 41) →
  InI64 (t_1 + (1 : Int)) ∧ (Inv_1 (some ⟨w25.heap.size, 0, none⟩) 8 8 (t_1 + (1 : Int)) w26 ∧ mu_1 (some ⟨w25.heap.size, 0, none⟩) 8 8 (t_1 + (1 : Int)) w26 < mu_1 va_1 vl_1 vc_1 t_1 w15))))))))
  (∃ (Inv_2 : Option Addr → Nat → Nat → Int → World → Prop) (mu_2 : Option Addr → Nat → Nat → Int → World → Nat), (Inv_2 none 0 0 (0 : Int) w15) ∧
  ∀ outa : Option Addr, ∀ outl : Nat, ∀ outc : Nat, ∀ i : Int, ∀ w27 : World, Inv_2 outa outl outc i w27 →
  ifB (ltI i (8 : Int))
  (∀ w28 : World, w28 = w27.drew →
  (0 ≤ i ∧ i < ((hl : Nat) : Int)) ∧ derefP ha fun ad_28 => ∃ x_33 : Int, w28.cell? (Addr.add ad_28 (Int.toNat i * 1)) = some (.int .u32 x_33) ∧ (0 ≤ i ∧ i < ((vl_1 : Nat) : Int)) ∧ derefP va_1 fun ad_29 => ∃ x_34 : Int, w28.cell? (Addr.add ad_29 (Int.toNat i * 1)) = some (.int .u32 x_34) ∧ ∀ w29 : World, w29 = w28.alloc (.cells ⟨[(.int .u32 (IntKind.u32.wrap (x_33 + x_34)))]⟩ 41) →
  Below w28.heap.size w28 w29 ∧ ∃ outa_1 : Option Addr, ∃ outl_1 : Nat, ∃ outc_1 : Nat, ∃ w30 : World, Sem.run Tryd.prog (Builtin.append_ #[42, 42] 42 #[(.slice outa outl outc), (.slice (some ⟨w28.heap.size, 0, none⟩) 1 1)]) w29 = .ok (.slice outa_1 outl_1 outc_1) w30 ∧ InI64 (i + (1 : Int)) ∧ (Inv_2 outa_1 outl_1 outc_1 (i + (1 : Int)) w30 ∧ mu_2 outa_1 outl_1 outc_1 (i + (1 : Int)) w30 < mu_2 outa outl outc i w27))
  (R (.slice outa outl outc) w27))))
theorem F23_eq (ha : Option Addr) (hl : Nat) (hc : Nat) (ba : Option Addr) (bl : Nat) (bc : Nat) (w : World) (R : Value → World → Prop) : fnVC true Tryd.prog TT FNS 224 [.tmp 4] c23 an23 [(.slice ha hl hc), (.slice ba bl bc)] w none R = F23 ha hl hc ba bl bc w R := by kernel_rfl
theorem call23 (ha : Option Addr) (hl : Nat) (hc : Nat) (ba : Option Addr) (bl : Nat) (bc : Nat) (w : World) (R : Value → World → Prop) (hF : F23 ha hl hc ba bl bc w R) : Calls Tryd.prog 23 #[(.slice ha hl hc), (.slice ba bl bc)] w fun e w' => ∃ v, e = .returned v ∧ R v w' :=
  fn_calls TTok FNSok mixed Tryd.func23 (show Tryd.f23.body = some c23 by kernel_rfl) (show Tryd.f23.ntmps = 224 by kernel_rfl) (show Tryd.f23.results.toList = [.tmp 4] by kernel_rfl) rfl ((F23_eq ha hl hc ba bl bc w R).symm ▸ hF)

/- 24 (pilaster/digest.words).block -/
noncomputable def c24 : Code := match Tryd.f24.body with
  | some c => c
  | none => .skip
def an24 : Ann := (.seq .leaf (.seq .leaf (.seq .leaf (.seq (.seq .leaf (.blk (.loop [(20, .int .i64)] (.seq .leaf (.seq (.cond .leaf .leaf) (.seq (.blk (.seq .leaf (.seq (.draw 17 [(0, true), (1, true), (2, true), (3, true), (4, true), (5, true), (6, true), (7, true), (8, true), (9, true), (10, true), (11, true), (12, true), (13, true), (14, true), (15, true), (16, true)]) (.seq (.draw 27 [(0, true), (1, true), (2, true), (4, true), (7, true), (11, true), (12, true), (13, true), (14, true), (15, true), (16, true), (17, true), (18, true), (20, true), (21, true), (22, true), (24, true), (25, true), (26, true), (3, false), (5, false), (6, true), (8, false), (9, true), (10, true), (19, true), (23, true)]) (.seq .leaf .leaf))))) .leaf)))))) (.seq (.seq .leaf (.blk (.loop [(98, .int .i64)] (.seq .leaf (.seq (.cond .leaf .leaf) (.seq (.blk (.seq .leaf (.draw 6 [(0, true), (1, true), (2, true), (3, true), (4, true), (5, true)]))) .leaf)))))) (.seq .leaf .leaf))))))
def F24 (h : List Value) (block : List Value) (w : World) (R : Value → World → Prop) : Prop :=
  ∀ w1 : World, w1 = w.alloc (.cells ⟨h⟩ 46) →
  ∀ w2 : World, w2 = w1.alloc (.cells ⟨block⟩ 49) →
  ∀ w3 : World, w3 = w2.alloc (.cells ⟨[(.int .u32 (0 : Int)), (.int .u32 (0 : Int)), (.int .u32 (0 : Int)), (.int .u32 (0 : Int)), (.int .u32 (0 : Int)), (.int .u32 (0 : Int)), (.int .u32 (0 : Int)), (.int .u32 (0 : Int))]⟩ 46) →
  ∃ block_1 : List Value, block_1.length = 64 ∧ cellsOn w3 ⟨w1.heap.size, 0, none⟩ block_1 ∧ (Calls Tryd.prog 33 #[(.agg ⟨block_1⟩)] w3 fun en w4 => ∃ x : List Value, x.length = 64 ∧ en = .returned (.agg ⟨x⟩) ∧ ∀ w5 : World, w5 = w4.alloc (.cells ⟨z62⟩ 62) →
  x.length = 64 ∧ stOk w5 ⟨w4.heap.size, 0, none⟩ 64 ∧ (∀ u ∈ x, u.oneCell' = true) ∧ ∀ w6 : World, w6 = stL ⟨w4.heap.size, 0, none⟩ 0 x w5 →
  ∃ h_1 : List Value, h_1.length = 8 ∧ cellsOn w6 ⟨w.heap.size, 0, none⟩ h_1 ∧ ∀ w7 : World, w7 = w6.alloc (.cells ⟨[(.int .u32 (0 : Int)), (.int .u32 (0 : Int)), (.int .u32 (0 : Int)), (.int .u32 (0 : Int)), (.int .u32 (0 : Int)), (.int .u32 (0 : Int)), (.int .u32 (0 : Int)), (.int .u32 (0 : Int))]⟩ 46) →
  h_1.length = 8 ∧ stOk w7 ⟨w6.heap.size, 0, none⟩ 8 ∧ (∀ u ∈ h_1, u.oneCell' = true) ∧ ∀ w8 : World, w8 = stL ⟨w6.heap.size, 0, none⟩ 0 h_1 w7 →
  ∃ (Inv : Int → World → Prop) (mu : Int → World → Nat), (Inv (0 : Int) w8) ∧
  ∀ v : Int, ∀ w9 : World, Inv v w9 →
  ifB (ltI v (64 : Int))
  (∀ w10 : World, w10 = w9.drew →
  (0 ≤ (0 : Int) ∧ (0 : Int) < ((8 : Nat) : Int)) ∧ ∃ a : Int, w10.cell? (Addr.add ⟨w6.heap.size, 0, none⟩ (Int.toNat (0 : Int) * 1)) = some (.int .u32 a) ∧ (0 ≤ (1 : Int) ∧ (1 : Int) < ((8 : Nat) : Int)) ∧ ∃ b : Int, w10.cell? (Addr.add ⟨w6.heap.size, 0, none⟩ (Int.toNat (1 : Int) * 1)) = some (.int .u32 b) ∧ (0 ≤ (2 : Int) ∧ (2 : Int) < ((8 : Nat) : Int)) ∧ ∃ c : Int, w10.cell? (Addr.add ⟨w6.heap.size, 0, none⟩ (Int.toNat (2 : Int) * 1)) = some (.int .u32 c) ∧ (0 ≤ (4 : Int) ∧ (4 : Int) < ((8 : Nat) : Int)) ∧ ∃ e : Int, w10.cell? (Addr.add ⟨w6.heap.size, 0, none⟩ (Int.toNat (4 : Int) * 1)) = some (.int .u32 e) ∧ (0 ≤ (5 : Int) ∧ (5 : Int) < ((8 : Nat) : Int)) ∧ ∃ f : Int, w10.cell? (Addr.add ⟨w6.heap.size, 0, none⟩ (Int.toNat (5 : Int) * 1)) = some (.int .u32 f) ∧ (0 ≤ (6 : Int) ∧ (6 : Int) < ((8 : Nat) : Int)) ∧ ∃ g : Int, w10.cell? (Addr.add ⟨w6.heap.size, 0, none⟩ (Int.toNat (6 : Int) * 1)) = some (.int .u32 g) ∧ ∀ w11 : World, w11 = w10.drew →
  (0 ≤ (7 : Int) ∧ (7 : Int) < ((8 : Nat) : Int)) ∧ ∃ x_1 : Int, w11.cell? (Addr.add ⟨w6.heap.size, 0, none⟩ (Int.toNat (7 : Int) * 1)) = some (.int .u32 x_1) ∧ (0 ≤ v ∧ v < ((64 : Nat) : Int)) ∧ ∃ x_2 : Int, w11.cell? (Addr.add ⟨0, 0, none⟩ (Int.toNat v * 1)) = some (.int .u32 x_2) ∧ (0 ≤ v ∧ v < ((64 : Nat) : Int)) ∧ ∃ x_3 : Int, w11.cell? (Addr.add ⟨w4.heap.size, 0, none⟩ (Int.toNat v * 1)) = some (.int .u32 x_3) ∧ (Calls Tryd.prog 34 #[(.int .u32 e), (.int .i64 (6 : Int))] w11 fun en w12 => ∃ x_4 : Int, en = .returned (.int .u32 x_4) ∧ Below w11.heap.size w11 w12 ∧ (Calls Tryd.prog 34 #[(.int .u32 e), (.int .i64 (11 : Int))] w12 fun en w13 => ∃ x_5 : Int, en = .returned (.int .u32 x_5) ∧ Below w11.heap.size w11 w13 ∧ (Calls Tryd.prog 34 #[(.int .u32 e), (.int .i64 (25 : Int))] w13 fun en w14 => ∃ x_6 : Int, en = .returned (.int .u32 x_6) ∧ Below w11.heap.size w11 w14 ∧ (Calls Tryd.prog 34 #[(.int .u32 a), (.int .i64 (2 : Int))] w14 fun en w15 => ∃ x_7 : Int, en = .returned (.int .u32 x_7) ∧ (Calls Tryd.prog 34 #[(.int .u32 a), (.int .i64 (13 : Int))] w15 fun en w16 => ∃ x_8 : Int, en = .returned (.int .u32 x_8) ∧ (Calls Tryd.prog 34 #[(.int .u32 a), (.int .i64 (22 : Int))] w16 fun en w17 => ∃ x_9 : Int, en = .returned (.int .u32 x_9) ∧ (0 ≤ (3 : Int) ∧ (3 : Int) < ((8 : Nat) : Int)) ∧ ∃ x_10 : Int, w17.cell? (Addr.add ⟨w6.heap.size, 0, none⟩ (Int.toNat (3 : Int) * 1)) = some (.int .u32 x_10) ∧ ([(.int .u32 (IntKind.u32.wrap ((IntKind.u32.wrap ((IntKind.u32.wrap ((IntKind.u32.wrap ((IntKind.u32.wrap (x_1 + (bits BinOp.xor IntKind.u32 (bits BinOp.xor IntKind.u32 x_4 x_5) x_6))) + (bits BinOp.xor IntKind.u32 (bits BinOp.and IntKind.u32 e f) (bits BinOp.and IntKind.u32 (bits BinOp.xor IntKind.u32 (if IntKind.u32.signed = true then -1 else IntKind.u32.max) e) g)))) + x_2)) + x_3)) + (IntKind.u32.wrap ((bits BinOp.xor IntKind.u32 (bits BinOp.xor IntKind.u32 x_7 x_8) x_9) + (bits BinOp.xor IntKind.u32 (bits BinOp.xor IntKind.u32 (bits BinOp.and IntKind.u32 a b) (bits BinOp.and IntKind.u32 a c)) (bits BinOp.and IntKind.u32 b c))))))), (.int .u32 a), (.int .u32 b), (.int .u32 c), (.int .u32 (IntKind.u32.wrap (x_10 + (IntKind.u32.wrap ((IntKind.u32.wrap ((IntKind.u32.wrap ((IntKind.u32.wrap (x_1 + (bits BinOp.xor IntKind.u32 (bits BinOp.xor IntKind.u32 x_4 x_5) x_6))) + (bits BinOp.xor IntKind.u32 (bits BinOp.and IntKind.u32 e f) (bits BinOp.and IntKind.u32 (bits BinOp.xor IntKind.u32 (if IntKind.u32.signed = true then -1 else IntKind.u32.max) e) g)))) + x_2)) + x_3))))), (.int .u32 e), (.int .u32 f), (.int .u32 g)] : List Value).length = 8 ∧ stOk w17 ⟨w6.heap.size, 0, none⟩ 8 ∧ (∀ u ∈ ([(.int .u32 (IntKind.u32.wrap ((IntKind.u32.wrap ((IntKind.u32.wrap ((IntKind.u32.wrap ((IntKind.u32.wrap (x_1 + (bits BinOp.xor IntKind.u32 (bits BinOp.xor IntKind.u32 x_4 x_5) x_6))) + (bits BinOp.xor IntKind.u32 (bits BinOp.and IntKind.u32 e f) (bits BinOp.and IntKind.u32 (bits BinOp.xor IntKind.u32 (if IntKind.u32.signed = true then -1 else IntKind.u32.max) e) g)))) + x_2)) + x_3)) + (IntKind.u32.wrap ((bits BinOp.xor IntKind.u32 (bits BinOp.xor IntKind.u32 x_7 x_8) x_9) + (bits BinOp.xor IntKind.u32 (bits BinOp.xor IntKind.u32 (bits BinOp.and IntKind.u32 a b) (bits BinOp.and IntKind.u32 a c)) (bits BinOp.and IntKind.u32 b c))))))), (.int .u32 a), (.int .u32 b), (.int .u32 c), (.int .u32 (IntKind.u32.wrap (x_10 + (IntKind.u32.wrap ((IntKind.u32.wrap ((IntKind.u32.wrap ((IntKind.u32.wrap (x_1 + (bits BinOp.xor IntKind.u32 (bits BinOp.xor IntKind.u32 x_4 x_5) x_6))) + (bits BinOp.xor IntKind.u32 (bits BinOp.and IntKind.u32 e f) (bits BinOp.and IntKind.u32 (bits BinOp.xor IntKind.u32 (if IntKind.u32.signed = true then -1 else IntKind.u32.max) e) g)))) + x_2)) + x_3))))), (.int .u32 e), (.int .u32 f), (.int .u32 g)] : List Value), u.oneCell' = true) ∧ ∀ w18 : World, w18 = stL ⟨w6.heap.size, 0, none⟩ 0 ([(.int .u32 (IntKind.u32.wrap ((IntKind.u32.wrap ((IntKind.u32.wrap ((IntKind.u32.wrap ((IntKind.u32.wrap (x_1 + (bits BinOp.xor IntKind.u32 (bits BinOp.xor IntKind.u32 x_4 x_5) x_6))) + (bits BinOp.xor IntKind.u32 (bits BinOp.and IntKind.u32 e f) (bits BinOp.and IntKind.u32 (bits BinOp.xor IntKind.u32 (if IntKind.u32.signed = true then -1 else IntKind.u32.max) e) g)))) + x_2)) + x_3)) + (IntKind.u32.wrap ((bits BinOp.xor IntKind.u32 (bits BinOp.xor IntKind.u32 x_7 x_8) x_9) + (bits BinOp.xor IntKind.u32 (bits BinOp.xor IntKind.u32 (bits BinOp.and IntKind.u32 a b) (bits BinOp.and IntKind.u32 a c)) (bits BinOp.and IntKind.u32 b c))))))), (.int .u32 a), (.int .u32 b), (.int .u32 c), (.int .u32 (IntKind.u32.wrap (x_10 + (IntKind.u32.wrap ((IntKind.u32.wrap ((IntKind.u32.wrap ((IntKind.u32.wrap (x_1 + (bits BinOp.xor IntKind.u32 (bits BinOp.xor IntKind.u32 x_4 x_5) x_6))) + (bits BinOp.xor IntKind.u32 (bits BinOp.and IntKind.u32 e f) (bits BinOp.and IntKind.u32 (bits BinOp.xor IntKind.u32 (if IntKind.u32.signed = true then -1 else IntKind.u32.max) e) g)))) + x_2)) + x_3))))), (.int .u32 e), (.int .u32 f), (.int .u32 g)] : List Value) w17 →
  InI64 (v + (1 : Int)) ∧ (Inv (v + (1 : Int)) w18 ∧ mu (v + (1 : Int)) w18 < mu v w9))))))))
  (∃ (Inv_1 : Int → World → Prop) (mu_1 : Int → World → Nat), (Inv_1 (0 : Int) w9) ∧
  ∀ v_1 : Int, ∀ w19 : World, Inv_1 v_1 w19 →
  ifB (ltI v_1 (8 : Int))
  (∀ w20 : World, w20 = w19.drew →
  (0 ≤ v_1 ∧ v_1 < ((8 : Nat) : Int)) ∧ ∃ x_11 : Int, w20.cell? (Addr.add ⟨w6.heap.size, 0, none⟩ (Int.toNat v_1 * 1)) = some (.int .u32 x_11) ∧ (0 ≤ v_1 ∧ v_1 < ((8 : Nat) : Int)) ∧ ∃ x_12 : Int, w20.cell? (Addr.add ⟨w.heap.size, 0, none⟩ (Int.toNat v_1 * 1)) = some (.int .u32 x_12) ∧ (0 ≤ v_1 ∧ v_1 < ((8 : Nat) : Int)) ∧ stOk1 w20 (Addr.add ⟨w6.heap.size, 0, none⟩ (Int.toNat v_1 * 1)) ∧ ∀ w21 : World, w21 = w20.setCell (Addr.add ⟨w6.heap.size, 0, none⟩ (Int.toNat v_1 * 1)) (.int .u32 (IntKind.u32.wrap (x_11 + x_12))) →
  InI64 (v_1 + (1 : Int)) ∧ (Inv_1 (v_1 + (1 : Int)) w21 ∧ mu_1 (v_1 + (1 : Int)) w21 < mu_1 v_1 w19))
  (∃ x_13 : List Value, x_13.length = 8 ∧ cellsOn w19 ⟨w6.heap.size, 0, none⟩ x_13 ∧ x_13.length = 8 ∧ stOk w19 ⟨w2.heap.size, 0, none⟩ 8 ∧ (∀ u ∈ x_13, u.oneCell' = true) ∧ ∀ w22 : World, w22 = stL ⟨w2.heap.size, 0, none⟩ 0 x_13 w19 →
  ∃ r : List Value, r.length = 8 ∧ cellsOn w22 ⟨w2.heap.size, 0, none⟩ r ∧ R (.agg ⟨r⟩) w22)))
theorem F24_eq (h : List Value) (block : List Value) (w : World) (R : Value → World → Prop) : fnVC true Tryd.prog TT FNS 111 [.cell 4 46] c24 an24 [(.agg ⟨h⟩), (.agg ⟨block⟩)] w none R = F24 h block w R := by kernel_rfl
theorem call24 (h : List Value) (block : List Value) (w : World) (R : Value → World → Prop) (hF : F24 h block w R) : Calls Tryd.prog 24 #[(.agg ⟨h⟩), (.agg ⟨block⟩)] w fun e w' => ∃ v, e = .returned v ∧ R v w' :=
  fn_calls TTok FNSok mixed Tryd.func24 (show Tryd.f24.body = some c24 by kernel_rfl) (show Tryd.f24.ntmps = 111 by kernel_rfl) (show Tryd.f24.results.toList = [.cell 4 46] by kernel_rfl) rfl ((F24_eq h block w R).symm ▸ hF)

/- 25 (*strings.Builder).WriteByte -/
noncomputable def c25 : Code := match Tryd.f25.body with
  | some c => c
  | none => .skip
def an25 : Ann := (.seq .leaf (.seq .leaf (.seq .leaf (.seq .leaf .leaf))))
def F25 (b : Option Addr) (c : Int) (w : World) (R : Value → World → Prop) : Prop :=
  (Calls Tryd.prog 35 #[(.pointer b)] w fun en w1 => en = .returned (.tuple ⟨[]⟩) ∧ derefP b fun ad => ∃ xa : Option Addr, ∃ xl : Nat, ∃ xc : Nat, w1.cell? (Addr.add ad 1) = some (.slice xa xl xc) ∧ ∀ w2 : World, w2 = w1.alloc (.cells ⟨[(.int .u8 c)]⟩ 5) →
  ∃ xa_1 : Option Addr, ∃ xl_1 : Nat, ∃ xc_1 : Nat, ∃ w3 : World, Sem.run Tryd.prog (Builtin.append_ #[22, 22] 22 #[(.slice xa xl xc), (.slice (some ⟨w1.heap.size, 0, none⟩) 1 1)]) w2 = .ok (.slice xa_1 xl_1 xc_1) w3 ∧ derefP b fun ad_1 => stOk1 w3 (Addr.add ad_1 1) ∧ ∀ w4 : World, w4 = w3.setCell (Addr.add ad_1 1) (.slice xa_1 xl_1 xc_1) →
  R .nilIface w4)
theorem F25_eq (b : Option Addr) (c : Int) (w : World) (R : Value → World → Prop) : fnVC true Tryd.prog TT FNS 17 [.tmp 4] c25 an25 [(.pointer b), (.int .u8 c)] w none R = F25 b c w R := by kernel_rfl
theorem call25 (b : Option Addr) (c : Int) (w : World) (R : Value → World → Prop) (hF : F25 b c w R) : Calls Tryd.prog 25 #[(.pointer b), (.int .u8 c)] w fun e w' => ∃ v, e = .returned v ∧ R v w' :=
  fn_calls TTok FNSok mixed Tryd.func25 (show Tryd.f25.body = some c25 by kernel_rfl) (show Tryd.f25.ntmps = 17 by kernel_rfl) (show Tryd.f25.results.toList = [.tmp 4] by kernel_rfl) rfl ((F25_eq b c w R).symm ▸ hF)

/- 28 slices.IndexFunc[[]string,string] -/
noncomputable def c28 : Code := match Tryd.f28.body with
  | some c => c
  | none => .skip
def an28 : Ann := (.seq .leaf (.seq (.seq .leaf (.blk (.loop [(8, .int .i64)] (.seq .leaf (.seq (.cond .leaf .leaf) (.seq (.blk (.seq .leaf (.seq .leaf (.cond (.seq .leaf .leaf) .leaf)))) .leaf)))))) (.seq .leaf .leaf)))
def F28 (sa : Option Addr) (sl : Nat) (sc : Nat) (ff : FuncId) (fc : Array Value) (w : World) (R : Value → World → Prop) : Prop :=
  ∃ (Inv : Int → World → Prop) (mu : Int → World → Nat), (Inv (0 : Int) w) ∧
  ∀ v : Int, ∀ w1 : World, Inv v w1 →
  ifB (ltI v ((sl : Nat) : Int))
  ((0 ≤ v ∧ v < ((sl : Nat) : Int)) ∧ derefP sa fun ad => ∃ x : ByteArray, w1.cell? (Addr.add ad (Int.toNat v * 1)) = some (.string x) ∧ Enters Tryd.prog ff ∧ (Calls Tryd.prog ff ((⟨[(.string x)]⟩ : Array Value) ++ fc) w1 fun en w2 => ∃ x_1 : Bool, en = .returned (.bool x_1) ∧ ifB x_1
  (R (.int .i64 v) w2)
  (InI64 (v + (1 : Int)) ∧ (Inv (v + (1 : Int)) w2 ∧ mu (v + (1 : Int)) w2 < mu v w1))))
  (R (.int .i64 (-1 : Int)) w1)
theorem F28_eq (sa : Option Addr) (sl : Nat) (sc : Nat) (ff : FuncId) (fc : Array Value) (w : World) (R : Value → World → Prop) : fnVC true Tryd.prog TT FNS 19 [.tmp 4] c28 an28 [(.slice sa sl sc), (.func (.func ff) #[] fc)] w none R = F28 sa sl sc ff fc w R := by kernel_rfl
theorem call28 (sa : Option Addr) (sl : Nat) (sc : Nat) (ff : FuncId) (fc : Array Value) (w : World) (R : Value → World → Prop) (hF : F28 sa sl sc ff fc w R) : Calls Tryd.prog 28 #[(.slice sa sl sc), (.func (.func ff) #[] fc)] w fun e w' => ∃ v, e = .returned v ∧ R v w' :=
  fn_calls TTok FNSok mixed Tryd.func28 (show Tryd.f28.body = some c28 by kernel_rfl) (show Tryd.f28.ntmps = 19 by kernel_rfl) (show Tryd.f28.results.toList = [.tmp 4] by kernel_rfl) rfl ((F28_eq sa sl sc ff fc w R).symm ▸ hF)

/- 29 pilaster/pilasterref39.decimal -/
noncomputable def c29 : Code := match Tryd.f29.body with
  | some c => c
  | none => .skip
def an29 : Ann := (.seq .leaf (.seq .leaf (.seq (.seq .leaf (.cond (.seq .leaf .leaf) .leaf)) (.seq .leaf .leaf))))
def F29 (n : Int) (w : World) (R : Value → World → Prop) : Prop :=
  (10 : Int) ≠ 0 ∧ InI64 ((48 : Int) + (Int.tmod n (10 : Int))) ∧ ∀ w1 : World, w1 = w.alloc (.cells ⟨[(.int .u8 (IntKind.u8.wrap ((48 : Int) + (Int.tmod n (10 : Int)))))]⟩ 5) →
  ∃ s : ByteArray, ∃ w2 : World, Sem.run Tryd.prog (convert 22 9 (.slice (some ⟨w.heap.size, 0, none⟩) 1 1)) w1 = .ok (.string s) w2 ∧ ifB (leI (10 : Int) n)
  ((10 : Int) ≠ 0 ∧ InI64 (Int.tdiv n (10 : Int)) ∧ (Calls Tryd.prog 29 #[(.int .i64 (Int.tdiv n (10 : Int)))] w2 fun en w3 => ∃ x : ByteArray, en = .returned (.string x) ∧ x.size + s.size ≤ 9223372036854775807 ∧ R (.string (x ++ s)) w3))
  (R (.string s) w2)
theorem F29_eq (n : Int) (w : World) (R : Value → World → Prop) : fnVC true Tryd.prog TT FNS 18 [.tmp 2] c29 an29 [(.int .i64 n)] w none R = F29 n w R := by kernel_rfl
theorem call29 (n : Int) (w : World) (R : Value → World → Prop) (hF : F29 n w R) : Calls Tryd.prog 29 #[(.int .i64 n)] w fun e w' => ∃ v, e = .returned v ∧ R v w' :=
  fn_calls TTok FNSok mixed Tryd.func29 (show Tryd.f29.body = some c29 by kernel_rfl) (show Tryd.f29.ntmps = 18 by kernel_rfl) (show Tryd.f29.results.toList = [.tmp 2] by kernel_rfl) rfl ((F29_eq n w R).symm ▸ hF)

/- 31 pilaster/pilasterref39.Constants -/
noncomputable def c31 : Code := match Tryd.f31.body with
  | some c => c
  | none => .skip
def an31 : Ann := (.seq .leaf (.seq .leaf .leaf))
def F31 (w : World) (R : Value → World → Prop) : Prop :=
  ∀ w1 : World, w1 = w.alloc (.cells ⟨[(.int .u32 (1116352408 : Int)), (.int .u32 (1899447441 : Int)), (.int .u32 (3049323471 : Int)), (.int .u32 (3921009573 : Int)), (.int .u32 (961987163 : Int)), (.int .u32 (1508970993 : Int)), (.int .u32 (2453635748 : Int)), (.int .u32 (2870763221 : Int)), (.int .u32 (3624381080 : Int)), (.int .u32 (310598401 : Int)), (.int .u32 (607225278 : Int)), (.int .u32 (1426881987 : Int)), (.int .u32 (1925078388 : Int)), (.int .u32 (2162078206 : Int)), (.int .u32 (2614888103 : Int)), (.int .u32 (3248222580 : Int)), (.int .u32 (3835390401 : Int)), (.int .u32 (4022224774 : Int)), (.int .u32 (264347078 : Int)), (.int .u32 (604807628 : Int)), (.int .u32 (770255983 : Int)), (.int .u32 (1249150122 : Int)), (.int .u32 (1555081692 : Int)), (.int .u32 (1996064986 : Int)), (.int .u32 (2554220882 : Int)), (.int .u32 (2821834349 : Int)), (.int .u32 (2952996808 : Int)), (.int .u32 (3210313671 : Int)), (.int .u32 (3336571891 : Int)), (.int .u32 (3584528711 : Int)), (.int .u32 (113926993 : Int)), (.int .u32 (338241895 : Int)), (.int .u32 (666307205 : Int)), (.int .u32 (773529912 : Int)), (.int .u32 (1294757372 : Int)), (.int .u32 (1396182291 : Int)), (.int .u32 (1695183700 : Int)), (.int .u32 (1986661051 : Int)), (.int .u32 (2177026350 : Int)), (.int .u32 (2456956037 : Int)), (.int .u32 (2730485921 : Int)), (.int .u32 (2820302411 : Int)), (.int .u32 (3259730800 : Int)), (.int .u32 (3345764771 : Int)), (.int .u32 (3516065817 : Int)), (.int .u32 (3600352804 : Int)), (.int .u32 (4094571909 : Int)), (.int .u32 (275423344 : Int)), (.int .u32 (430227734 : Int)), (.int .u32 (506948616 : Int)), (.int .u32 (659060556 : Int)), (.int .u32 (883997877 : Int)), (.int .u32 (958139571 : Int)), (.int .u32 (1322822218 : Int)), (.int .u32 (1537002063 : Int)), (.int .u32 (1747873779 : Int)), (.int .u32 (1955562222 : Int)), (.int .u32 (2024104815 : Int)), (.int .u32 (2227730452 : Int)), (.int .u32 (2361852424 : Int)), (.int .u32 (2428436474 : Int)), (.int .u32 (2756734187 : Int)), (.int .u32 (3204031479 : Int)), (.int .u32 (3329325298 : Int))]⟩ 41) →
  R (.slice (some ⟨w.heap.size, 0, none⟩) 64 64) w1
theorem F31_eq (w : World) (R : Value → World → Prop) : fnVC true Tryd.prog TT FNS 2 [.tmp 0] c31 an31 [] w none R = F31 w R := by kernel_rfl
theorem call31 (w : World) (R : Value → World → Prop) (hF : F31 w R) : Calls Tryd.prog 31 #[] w fun e w' => ∃ v, e = .returned v ∧ R v w' :=
  fn_calls TTok FNSok mixed Tryd.func31 (show Tryd.f31.body = some c31 by kernel_rfl) (show Tryd.f31.ntmps = 2 by kernel_rfl) (show Tryd.f31.results.toList = [.tmp 0] by kernel_rfl) rfl ((F31_eq w R).symm ▸ hF)

/- 32 pilaster/pilasterref39.rotr -/
noncomputable def c32 : Code := match Tryd.f32.body with
  | some c => c
  | none => .skip
def an32 : Ann := (.seq .leaf (.seq (.draw 7 [(0, true), (1, true), (2, true), (3, true), (4, true), (5, true), (6, true)]) .leaf))
def F32 (x : Int) (n : Int) (w : World) (R : Value → World → Prop) : Prop :=
  ∀ w1 : World, w1 = w.drew →
  0 ≤ n ∧ InI64 ((32 : Int) - n) ∧ 0 ≤ ((32 : Int) - n) ∧ R (.int .u32 (bits BinOp.or IntKind.u32 (shrI IntKind.u32 x n) (shlI IntKind.u32 x ((32 : Int) - n)))) w1
theorem F32_eq (x : Int) (n : Int) (w : World) (R : Value → World → Prop) : fnVC true Tryd.prog TT FNS 13 [.tmp 4] c32 an32 [(.int .u32 x), (.int .i64 n)] w none R = F32 x n w R := by kernel_rfl
theorem call32 (x : Int) (n : Int) (w : World) (R : Value → World → Prop) (hF : F32 x n w R) : Calls Tryd.prog 32 #[(.int .u32 x), (.int .i64 n)] w fun e w' => ∃ v, e = .returned v ∧ R v w' :=
  fn_calls TTok FNSok mixed Tryd.func32 (show Tryd.f32.body = some c32 by kernel_rfl) (show Tryd.f32.ntmps = 13 by kernel_rfl) (show Tryd.f32.results.toList = [.tmp 4] by kernel_rfl) rfl ((F32_eq x n w R).symm ▸ hF)

/- 33 pilaster/digest.schedule -/
noncomputable def c33 : Code := match Tryd.f33.body with
  | some c => c
  | none => .skip
def an33 : Ann := (.seq .leaf (.seq .leaf (.seq (.seq .leaf (.blk (.loop [(11, .int .i64)] (.seq .leaf (.seq (.cond .leaf .leaf) (.seq (.blk (.seq .leaf (.seq .leaf (.blk (.loop [(14, .int .i64)] (.seq .leaf (.seq (.cond .leaf .leaf) (.seq (.blk (.seq .leaf (.draw 13 [(0, true), (1, true), (2, true), (3, true), (4, true), (5, true), (6, true), (7, true), (8, true), (9, true), (10, true), (11, true), (12, true)]))) .leaf)))))))) .leaf)))))) (.seq (.seq .leaf (.blk (.loop [(6, .int .i64)] (.seq (.seq .leaf (.cond .leaf .leaf)) (.seq (.blk (.seq (.draw 9 [(0, true), (1, true), (2, true), (3, true), (4, true), (5, true), (6, true), (7, true), (8, true)]) (.seq .leaf (.seq .leaf (.draw 14 [(0, true), (1, true), (2, true), (3, true), (4, true), (5, true), (6, true), (7, true), (8, true), (9, true), (10, true), (11, true), (12, true), (13, true)]))))) .leaf))))) (.seq .leaf .leaf)))))
def F33 (block : List Value) (w : World) (R : Value → World → Prop) : Prop :=
  ∀ w1 : World, w1 = w.alloc (.cells ⟨block⟩ 49) →
  ∀ w2 : World, w2 = w1.alloc (.cells ⟨z62⟩ 62) →
  ∀ w3 : World, w3 = w2.alloc (.cells ⟨z62⟩ 62) →
  ∃ (Inv : Int → World → Prop) (mu : Int → World → Nat), (Inv (0 : Int) w3) ∧
  ∀ v : Int, ∀ w4 : World, Inv v w4 →
  ifB (ltI v (16 : Int))
  (∃ (Inv_1 : Int → World → Prop) (mu_1 : Int → World → Nat), (Inv_1 (0 : Int) w4) ∧
  ∀ v_1 : Int, ∀ w5 : World, Inv_1 v_1 w5 →
  ifB (ltI v_1 (4 : Int))
  (∀ w6 : World, w6 = w5.drew →
  (0 ≤ v ∧ v < ((64 : Nat) : Int)) ∧ ∃ x : Int, w6.cell? (Addr.add ⟨w2.heap.size, 0, none⟩ (Int.toNat v * 1)) = some (.int .u32 x) ∧ 0 ≤ (8 : Int) ∧ InI64 ((4 : Int) * v) ∧ InI64 (((4 : Int) * v) + v_1) ∧ (0 ≤ (((4 : Int) * v) + v_1) ∧ (((4 : Int) * v) + v_1) < ((64 : Nat) : Int)) ∧ ∃ x_1 : Int, w6.cell? (Addr.add ⟨w.heap.size, 0, none⟩ (Int.toNat (((4 : Int) * v) + v_1) * 1)) = some (.int .u8 x_1) ∧ (0 ≤ v ∧ v < ((64 : Nat) : Int)) ∧ stOk1 w6 (Addr.add ⟨w2.heap.size, 0, none⟩ (Int.toNat v * 1)) ∧ ∀ w7 : World, w7 = w6.setCell (Addr.add ⟨w2.heap.size, 0, none⟩ (Int.toNat v * 1)) (.int .u32 (bits BinOp.or IntKind.u32 (shlI IntKind.u32 x (8 : Int)) (IntKind.u32.wrap x_1))) →
  InI64 (v_1 + (1 : Int)) ∧ (Inv_1 (v_1 + (1 : Int)) w7 ∧ mu_1 (v_1 + (1 : Int)) w7 < mu_1 v_1 w5))
  (InI64 (v + (1 : Int)) ∧ (Inv (v + (1 : Int)) w5 ∧ mu (v + (1 : Int)) w5 < mu v w4)))
  (∃ (Inv_2 : Int → World → Prop) (mu_2 : Int → World → Nat), (Inv_2 (16 : Int) w4) ∧
  ∀ t : Int, ∀ w8 : World, Inv_2 t w8 →
  ifB (ltI t (64 : Int))
  (∀ w9 : World, w9 = w8.drew →
  InI64 (t - (15 : Int)) ∧ (0 ≤ (t - (15 : Int)) ∧ (t - (15 : Int)) < ((64 : Nat) : Int)) ∧ ∃ x_2 : Int, w9.cell? (Addr.add ⟨w2.heap.size, 0, none⟩ (Int.toNat (t - (15 : Int)) * 1)) = some (.int .u32 x_2) ∧ InI64 (t - (2 : Int)) ∧ (0 ≤ (t - (2 : Int)) ∧ (t - (2 : Int)) < ((64 : Nat) : Int)) ∧ ∃ y : Int, w9.cell? (Addr.add ⟨w2.heap.size, 0, none⟩ (Int.toNat (t - (2 : Int)) * 1)) = some (.int .u32 y) ∧ (Calls Tryd.prog 34 #[(.int .u32 x_2), (.int .i64 (7 : Int))] w9 fun en w10 => ∃ x_3 : Int, en = .returned (.int .u32 x_3) ∧ (Calls Tryd.prog 34 #[(.int .u32 x_2), (.int .i64 (18 : Int))] w10 fun en w11 => ∃ x_4 : Int, en = .returned (.int .u32 x_4) ∧ 0 ≤ (3 : Int) ∧ (Calls Tryd.prog 34 #[(.int .u32 y), (.int .i64 (17 : Int))] w11 fun en w12 => ∃ x_5 : Int, en = .returned (.int .u32 x_5) ∧ (Calls Tryd.prog 34 #[(.int .u32 y), (.int .i64 (19 : Int))] w12 fun en w13 => ∃ x_6 : Int, en = .returned (.int .u32 x_6) ∧ 0 ≤ (10 : Int) ∧ ∀ w14 : World, w14 = w13.drew →
  InI64 (t - (16 : Int)) ∧ (0 ≤ (t - (16 : Int)) ∧ (t - (16 : Int)) < ((64 : Nat) : Int)) ∧ ∃ x_7 : Int, w14.cell? (Addr.add ⟨w2.heap.size, 0, none⟩ (Int.toNat (t - (16 : Int)) * 1)) = some (.int .u32 x_7) ∧ InI64 (t - (7 : Int)) ∧ (0 ≤ (t - (7 : Int)) ∧ (t - (7 : Int)) < ((64 : Nat) : Int)) ∧ ∃ x_8 : Int, w14.cell? (Addr.add ⟨w2.heap.size, 0, none⟩ (Int.toNat (t - (7 : Int)) * 1)) = some (.int .u32 x_8) ∧ (0 ≤ t ∧ t < ((64 : Nat) : Int)) ∧ stOk1 w14 (Addr.add ⟨w2.heap.size, 0, none⟩ (Int.toNat t * 1)) ∧ ∀ w15 : World, w15 = w14.setCell (Addr.add ⟨w2.heap.size, 0, none⟩ (Int.toNat t * 1)) (.int .u32 (IntKind.u32.wrap ((IntKind.u32.wrap ((IntKind.u32.wrap (x_7 + (bits BinOp.xor IntKind.u32 (bits BinOp.xor IntKind.u32 x_3 x_4) (shrI IntKind.u32 x_2 (3 : Int))))) + x_8)) + (bits BinOp.xor IntKind.u32 (bits BinOp.xor IntKind.u32 x_5 x_6) (shrI IntKind.u32 y (10 : Int)))))) →
  InI64 (t + (1 : Int)) ∧ (Inv_2 (t + (1 : Int)) w15 ∧ mu_2 (t + (1 : Int)) w15 < mu_2 t w8))))))
  (∃ w0 : List Value, w0.length = 64 ∧ cellsOn w8 ⟨w2.heap.size, 0, none⟩ w0 ∧ w0.length = 64 ∧ stOk w8 ⟨w1.heap.size, 0, none⟩ 64 ∧ (∀ u ∈ w0, u.oneCell' = true) ∧ ∀ w16 : World, w16 = stL ⟨w1.heap.size, 0, none⟩ 0 w0 w8 →
  ∃ r : List Value, r.length = 64 ∧ cellsOn w16 ⟨w1.heap.size, 0, none⟩ r ∧ R (.agg ⟨r⟩) w16))
theorem F33_eq (block : List Value) (w : World) (R : Value → World → Prop) : fnVC true Tryd.prog TT FNS 77 [.cell 2 62] c33 an33 [(.agg ⟨block⟩)] w none R = F33 block w R := by kernel_rfl
theorem call33 (block : List Value) (w : World) (R : Value → World → Prop) (hF : F33 block w R) : Calls Tryd.prog 33 #[(.agg ⟨block⟩)] w fun e w' => ∃ v, e = .returned v ∧ R v w' :=
  fn_calls TTok FNSok mixed Tryd.func33 (show Tryd.f33.body = some c33 by kernel_rfl) (show Tryd.f33.ntmps = 77 by kernel_rfl) (show Tryd.f33.results.toList = [.cell 2 62] by kernel_rfl) rfl ((F33_eq block w R).symm ▸ hF)

/- 34 pilaster/digest.rotr -/
noncomputable def c34 : Code := match Tryd.f34.body with
  | some c => c
  | none => .skip
def an34 : Ann := (.seq .leaf (.seq .leaf .leaf))
def F34 (x : Int) (n : Int) (w : World) (R : Value → World → Prop) : Prop :=
  InI64 ((0 : Int) - n) ∧ (Calls Tryd.prog 37 #[(.int .u32 x), (.int .i64 ((0 : Int) - n))] w fun en w1 => ∃ x_1 : Int, en = .returned (.int .u32 x_1) ∧ R (.int .u32 x_1) w1)
theorem F34_eq (x : Int) (n : Int) (w : World) (R : Value → World → Prop) : fnVC true Tryd.prog TT FNS 9 [.tmp 4] c34 an34 [(.int .u32 x), (.int .i64 n)] w none R = F34 x n w R := by kernel_rfl
theorem call34 (x : Int) (n : Int) (w : World) (R : Value → World → Prop) (hF : F34 x n w R) : Calls Tryd.prog 34 #[(.int .u32 x), (.int .i64 n)] w fun e w' => ∃ v, e = .returned v ∧ R v w' :=
  fn_calls TTok FNSok mixed Tryd.func34 (show Tryd.f34.body = some c34 by kernel_rfl) (show Tryd.f34.ntmps = 9 by kernel_rfl) (show Tryd.f34.results.toList = [.tmp 4] by kernel_rfl) rfl ((F34_eq x n w R).symm ▸ hF)

/- 37 math/bits.RotateLeft32 -/
noncomputable def c37 : Code := match Tryd.f37.body with
  | some c => c
  | none => .skip
def an37 : Ann := (.seq .leaf (.seq .leaf (.seq .leaf .leaf)))
def F37 (x : Int) (k : Int) (w : World) (R : Value → World → Prop) : Prop :=
  0 ≤ (bits BinOp.and IntKind.u64 (IntKind.u64.wrap k) (31 : Int)) ∧ 0 ≤ (IntKind.u64.wrap ((32 : Int) - (bits BinOp.and IntKind.u64 (IntKind.u64.wrap k) (31 : Int)))) ∧ R (.int .u32 (bits BinOp.or IntKind.u32 (shlI IntKind.u32 x (bits BinOp.and IntKind.u64 (IntKind.u64.wrap k) (31 : Int))) (shrI IntKind.u32 x (IntKind.u64.wrap ((32 : Int) - (bits BinOp.and IntKind.u64 (IntKind.u64.wrap k) (31 : Int))))))) w
theorem F37_eq (x : Int) (k : Int) (w : World) (R : Value → World → Prop) : fnVC true Tryd.prog TT FNS 17 [.tmp 4] c37 an37 [(.int .u32 x), (.int .i64 k)] w none R = F37 x k w R := by kernel_rfl
theorem call37 (x : Int) (k : Int) (w : World) (R : Value → World → Prop) (hF : F37 x k w R) : Calls Tryd.prog 37 #[(.int .u32 x), (.int .i64 k)] w fun e w' => ∃ v, e = .returned v ∧ R v w' :=
  fn_calls TTok FNSok mixed Tryd.func37 (show Tryd.f37.body = some c37 by kernel_rfl) (show Tryd.f37.ntmps = 17 by kernel_rfl) (show Tryd.f37.results.toList = [.tmp 4] by kernel_rfl) rfl ((F37_eq x k w R).symm ▸ hF)
end Go.Proofs.YtmkcffflebdheaaDoor
