/- Printed by a program (wip/tools/gen2.py): more functions. -/
import Derived.Test.YtcpclpkcanikiaaFn49
namespace Go.Proofs.Ytcpclpkcanikiaa
open Go Go.Vc Go.RowKit
set_option maxRecDepth 100000
set_option linter.unusedVariables false

/- 62 pilaster/pilasterref49.starts -/
noncomputable def c62 : Code := match Try.f62.body with
  | some c => c
  | none => .skip
noncomputable def cfg62 : Cfg := ⟨Try.prog, TT, FNS, [], [], [], TCH, false, false⟩
def an62 : AnnG := (.seq .leaf (.seq .leaf (.seq .leaf (.seq (.blk (.loop ⟨[(4, .sl), (5, .int .i64)], [], []⟩ (.seq (.seq .leaf (.cond .leaf .leaf)) (.blk (.join ⟨[], [], []⟩ (.seq .leaf (.cond (.seq .leaf .leaf) .leaf)) (.seq .leaf (.join ⟨[], [], []⟩ (.seq (.tree 31 (.quiet 0 (.quiet 1 (.quiet 2 (.quiet 3 (.quiet 4 (.quiet 5 (.quiet 6 (.quiet 7 (.quiet 8 (.quiet 9 (.quiet 10 (.quiet 11 (.quiet 12 (.quiet 13 (.quiet 14 (.quiet 15 (.quiet 16 (.quiet 17 (.quiet 18 (.quiet 19 (.quiet 20 (.quiet 21 (.quiet 22 (.quiet 23 (.quiet 24 (.quiet 25 (.quiet 26 (.quiet 27 (.quiet 28 (.quiet 29 (.quiet 30 .fin)))))))))))))))))))))))))))))))) (.cond (.seq .leaf .leaf) .leaf)) (.seq .leaf .leaf)))))))) (.seq .leaf .leaf)))))
def F62 (la : Option Addr) (ll : Nat) (lc : Nat) (g : G) (R : Value → G → Prop) : Prop :=
  ∃ Inv : Nat → Option Addr → Nat → Nat → Int → G → Prop, ((∃ m0 : Nat, Inv m0 none 0 0 (0 : Int) g)) ∧
  ∀ m : Nat, ∀ outa : Option Addr, ∀ outl : Nat, ∀ outc : Nat, ∀ at0 : Int, ∀ g1 : G, Le g g1 → Inv m outa outl outc at0 g1 →
  ifB (ltI at0 ((ll : Nat) : Int))
  (∀ J : G → Prop,
  (∀ g2 : G, (InI64 (at0 + (2 : Int)) ∧ (0 ≤ (at0 + (2 : Int)) ∧ (at0 + (2 : Int)) < ((ll : Nat) : Int)) ∧ derefP la fun ad => ∃ n : Int, g2.w.cell? (Addr.add (Addr.add ad (Int.toNat (at0 + (2 : Int)) * 2)) 1) = some (.int .i64 n) ∧ ∀ J_1 : G → Prop,
  (∀ g3 : G, (∀ g4 : G, NewL g3 g4 3 [(.int .i64 at0)] →
  ∃ outa_1 : Option Addr, ∃ outl_1 : Nat, ∃ outc_1 : Nat, ∃ wo1 : World, Sem.run Try.prog (Builtin.append_ #[55, 55] 55 #[(.slice outa outl outc), (.slice (some ⟨g3.w.heap.size, 0, none⟩) 1 1)]) g4.w = .ok (.slice outa_1 outl_1 outc_1) wo1 ∧ ∃ g5 : G, g5.w = wo1 ∧ Stp g.w.heap.size nobody g4 g5 ∧ InI64 (at0 + (3 : Int)) ∧ InI64 ((at0 + (3 : Int)) + n) ∧ (∃ m_1 : Nat, m_1 < m ∧ Inv m_1 outa_1 outl_1 outc_1 ((at0 + (3 : Int)) + n) g5)) → J_1 g3) →
  ∀ g6 : G, Ex g2 g6 →
  ifB (ltI n (0 : Int))
  (∀ g7 : G, Ex g6 g7 →
  R (.tuple ⟨[(.slice none 0 0), (.bool false)]⟩) g7)
  (InI64 (((ll : Nat) : Int) - at0) ∧ InI64 ((((ll : Nat) : Int) - at0) - (3 : Int)) ∧ ifB (ltI ((((ll : Nat) : Int) - at0) - (3 : Int)) n)
  (∀ g8 : G, Ex g6 g8 →
  R (.tuple ⟨[(.slice none 0 0), (.bool false)]⟩) g8)
  ((0 ≤ at0 ∧ at0 < ((ll : Nat) : Int)) ∧ derefP la fun ad_1 => ∃ x : Int, g6.w.cell? (Addr.add (Addr.add ad_1 (Int.toNat at0 * 2)) 1) = some (.int .i64 x) ∧ InI64 (at0 + (1 : Int)) ∧ (0 ≤ (at0 + (1 : Int)) ∧ (at0 + (1 : Int)) < ((ll : Nat) : Int)) ∧ derefP la fun ad_2 => ∃ x_1 : Int, g6.w.cell? (Addr.add (Addr.add ad_2 (Int.toNat (at0 + (1 : Int)) * 2)) 1) = some (.int .i64 x_1) ∧ InI64 (at0 + (3 : Int)) ∧ InI64 (at0 + (3 : Int)) ∧ InI64 ((at0 + (3 : Int)) + n) ∧ (0 ≤ ((at0 + (3 : Int)) + n) ∧ ((at0 + (3 : Int)) + n) ≤ ((lc : Nat) : Int)) ∧ (0 ≤ (at0 + (3 : Int)) ∧ (at0 + (3 : Int)) ≤ (((Int.toNat ((at0 + (3 : Int)) + n)) : Nat) : Int)) ∧ (CallsP Try.prog 79 #[(.int .i64 x), (.int .i64 x_1), (.slice (slAddr la lc (Int.toNat (at0 + (3 : Int))) 2) ((Int.toNat ((at0 + (3 : Int)) + n)) - (Int.toNat (at0 + (3 : Int)))) (lc - (Int.toNat (at0 + (3 : Int)))))] g6 fun v g9 =>
  ∃ x_2 : Bool, v = (.bool x_2) ∧ ifB (!x_2)
  (∀ g10 : G, Ex g9 g10 →
  R (.tuple ⟨[(.slice none 0 0), (.bool false)]⟩) g10)
  (J_1 g9))))) → J g2) →
  InI64 (at0 + (3 : Int)) ∧ ifB (ltI ((ll : Nat) : Int) (at0 + (3 : Int)))
  (∀ g11 : G, Ex g1 g11 →
  R (.tuple ⟨[(.slice none 0 0), (.bool false)]⟩) g11)
  ((0 ≤ at0 ∧ at0 < ((ll : Nat) : Int)) ∧ derefP la fun ad_3 => ∃ x_3 : Bool, g1.w.cell? (Addr.add ad_3 (Int.toNat at0 * 2)) = some (.bool x_3) ∧ ifB x_3
  (∀ g12 : G, Ex g1 g12 →
  R (.tuple ⟨[(.slice none 0 0), (.bool false)]⟩) g12)
  (InI64 (at0 + (1 : Int)) ∧ (0 ≤ (at0 + (1 : Int)) ∧ (at0 + (1 : Int)) < ((ll : Nat) : Int)) ∧ derefP la fun ad_4 => ∃ x_4 : Bool, g1.w.cell? (Addr.add ad_4 (Int.toNat (at0 + (1 : Int)) * 2)) = some (.bool x_4) ∧ ifB x_4
  (∀ g13 : G, Ex g1 g13 →
  R (.tuple ⟨[(.slice none 0 0), (.bool false)]⟩) g13)
  (InI64 (at0 + (2 : Int)) ∧ (0 ≤ (at0 + (2 : Int)) ∧ (at0 + (2 : Int)) < ((ll : Nat) : Int)) ∧ derefP la fun ad_5 => ∃ x_5 : Bool, g1.w.cell? (Addr.add ad_5 (Int.toNat (at0 + (2 : Int)) * 2)) = some (.bool x_5) ∧ ifB x_5
  (∀ g14 : G, Ex g1 g14 →
  R (.tuple ⟨[(.slice none 0 0), (.bool false)]⟩) g14)
  (J g1)))))
  (∀ g15 : G, Ex g1 g15 →
  R (.tuple ⟨[(.slice outa outl outc), (.bool true)]⟩) g15)
theorem F62_eq (la : Option Addr) (ll : Nat) (lc : Nat) (g : G) (R : Value → G → Prop) : fnG cfg62 88 [.tmp 2, .tmp 3] c62 an62 [(.slice la ll lc)] g nobody R = F62 la ll lc g R := by kernel_rfl
theorem call62 (la : Option Addr) (ll : Nat) (lc : Nat) (g : G) (R : Value → G → Prop) (hF : F62 la ll lc g R) : CallsG Try.prog 62 #[(.slice la ll lc)] g nobody R :=
  fn_soundG (c := cfg62) TTok FNSok mixed Try.func62 (show Try.f62.body = some c62 by kernel_rfl) (show Try.f62.ntmps = 88 by kernel_rfl) (show Try.f62.results.toList = [.tmp 2, .tmp 3] by kernel_rfl) rfl ((F62_eq la ll lc g R).mpr hF)

/- 63 pilaster/pilasterref49.word -/
noncomputable def c63 : Code := match Try.f63.body with
  | some c => c
  | none => .skip
noncomputable def cfg63 : Cfg := ⟨Try.prog, TT, FNS, [3], [(3, 3), (5, 3), (8, 3), (11, 3)], [], TCH, false, false⟩
def an63 : AnnG := (.seq .leaf (.seq (.seq .leaf (.cond (.seq .leaf .leaf) .leaf)) (.seq .leaf .leaf)))
def F63 (la : Option Addr) (ll : Nat) (lc : Nat) (w0 : Bool) (w1 : Int) (g : G) (R : Value → G → Prop) : Prop :=
  ifB w0
  (∀ g1 : G, Ex g g1 →
  (CallsP Try.prog 81 #[(.slice la ll lc), (.int .i64 w1)] g1 fun v g2 =>
  ∃ x : Bool, v = (.bool x) ∧ ∀ g3 : G, Ex g2 g3 →
  R (.bool x) g3))
  (∀ g4 : G, Ex g g4 →
  (CallsP Try.prog 95 #[(.int .i64 w1)] g4 fun v g5 =>
  ∃ x_1 : Bool, v = (.bool x_1) ∧ ∀ g6 : G, Ex g5 g6 →
  R (.bool x_1) g6))
theorem F63_eq (la : Option Addr) (ll : Nat) (lc : Nat) (w0 : Bool) (w1 : Int) (g : G) (R : Value → G → Prop) : fnG cfg63 14 [.tmp 4] c63 an63 [(.slice la ll lc), (.agg ⟨[(.bool w0), (.int .i64 w1)]⟩)] g nobody R = F63 la ll lc w0 w1 g R := by kernel_rfl
theorem call63 (la : Option Addr) (ll : Nat) (lc : Nat) (w0 : Bool) (w1 : Int) (g : G) (R : Value → G → Prop) (hF : F63 la ll lc w0 w1 g R) : CallsG Try.prog 63 #[(.slice la ll lc), (.agg ⟨[(.bool w0), (.int .i64 w1)]⟩)] g nobody R :=
  fn_soundG (c := cfg63) TTok FNSok mixed Try.func63 (show Try.f63.body = some c63 by kernel_rfl) (show Try.f63.ntmps = 14 by kernel_rfl) (show Try.f63.results.toList = [.tmp 4] by kernel_rfl) rfl ((F63_eq la ll lc w0 w1 g R).mpr hF)

/- 64 pilaster/heap.add -/
noncomputable def c64 : Code := match Try.f64.body with
  | some c => c
  | none => .skip
noncomputable def cfg64 : Cfg := ⟨Try.prog, TT, FNS, [4, 8, 9], [(4, 4), (8, 8), (9, 9), (15, 4), (17, 4), (23, 4), (25, 4), (38, 4), (39, 4), (42, 4)], [], TCH, false, false⟩
def an64 : AnnG := (.seq .leaf (.seq (.seq .leaf (.cond (.seq .leaf .leaf) .leaf)) (.seq .leaf (.seq (.tree 11 (.quiet 0 (.quiet 1 (.quiet 2 (.quiet 4 (.quiet 6 (.quiet 7 (.quiet 10 (.eff 3 (.eff 5 (.eff 8 (.eff 9 .fin .fin) .fin) .fin) .fin))))))))) (.seq .leaf (.seq (.tree 3 (.quiet 0 (.quiet 1 (.eff 2 .fin .fin)))) .leaf))))))
def F64 (h0a : Option Addr) (h0l : Nat) (h0c : Nat) (h1 : Int) (h2 : Int) (kind : Int) (n : Int) (la : Option Addr) (ll : Nat) (lc : Nat) (g : G) (R : Value → G → Prop) : Prop :=
  InI64 (((ll : Nat) : Int) + (3 : Int)) ∧ InI64 (h2 - h1) ∧ ifB (ltI (h2 - h1) (((ll : Nat) : Int) + (3 : Int)))
  (∀ g1 : G, Ex g g1 →
  ∀ g2 : G, Ex g1 g2 →
  R (.tuple ⟨[(.agg ⟨[(.slice none 0 0), (.int .i64 (0 : Int)), (.int .i64 (0 : Int))]⟩), (.agg ⟨[(.bool false), (.int .i64 (0 : Int))]⟩), (.bool false)]⟩) g2)
  (∀ g3 : G, Ex g g3 →
  (CallsP Try.prog 97 #[(.int .i64 kind)] g3 fun v g4 =>
  ∃ x0 : Bool, ∃ x1 : Int, v = (.agg ⟨[(.bool x0), (.int .i64 x1)]⟩) ∧ (CallsP Try.prog 97 #[(.int .i64 n)] g4 fun v g5 =>
  ∃ x0_1 : Bool, ∃ x1_1 : Int, v = (.agg ⟨[(.bool x0_1), (.int .i64 x1_1)]⟩) ∧ (CallsP Try.prog 97 #[(.int .i64 ((ll : Nat) : Int))] g5 fun v g6 =>
  ∃ x0_2 : Bool, ∃ x1_2 : Int, v = (.agg ⟨[(.bool x0_2), (.int .i64 x1_2)]⟩) ∧ ∀ g7 : G, NewL g6 g7 41 [(.bool x0), (.int .i64 x1), (.bool x0_1), (.int .i64 x1_1), (.bool x0_2), (.int .i64 x1_2)] →
  ∀ g8 : G, NewL g7 g8 22 [(.slice h0a h0l h0c), (.slice (some ⟨g6.w.heap.size, 0, none⟩) 3 3), (.slice la ll lc)] →
  (CallsP Try.prog 96 #[(.slice (some ⟨g7.w.heap.size, 0, none⟩) 3 3)] g8 fun v g9 =>
  ∃ xa : Option Addr, ∃ xl : Nat, ∃ xc : Nat, v = (.slice xa xl xc) ∧ ∀ g10 : G, Ex g9 g10 →
  (CallsP Try.prog 98 #[(.int .i64 h1)] g10 fun v g11 =>
  ∃ x0_3 : Bool, ∃ x1_3 : Int, v = (.agg ⟨[(.bool x0_3), (.int .i64 x1_3)]⟩) ∧ ∀ g12 : G, Ex g11 g12 →
  R (.tuple ⟨[(.agg ⟨[(.slice xa xl xc), (.int .i64 ((xl : Nat) : Int)), (.int .i64 h2)]⟩), (.agg ⟨[(.bool x0_3), (.int .i64 x1_3)]⟩), (.bool true)]⟩) g12))))))
theorem F64_eq (h0a : Option Addr) (h0l : Nat) (h0c : Nat) (h1 : Int) (h2 : Int) (kind : Int) (n : Int) (la : Option Addr) (ll : Nat) (lc : Nat) (g : G) (R : Value → G → Prop) : fnG cfg64 46 [.cell 8 24, .cell 9 41, .tmp 10] c64 an64 [(.agg ⟨[(.slice h0a h0l h0c), (.int .i64 h1), (.int .i64 h2)]⟩), (.int .i64 kind), (.int .i64 n), (.slice la ll lc)] g nobody R = F64 h0a h0l h0c h1 h2 kind n la ll lc g R := by kernel_rfl
theorem call64 (h0a : Option Addr) (h0l : Nat) (h0c : Nat) (h1 : Int) (h2 : Int) (kind : Int) (n : Int) (la : Option Addr) (ll : Nat) (lc : Nat) (g : G) (R : Value → G → Prop) (hF : F64 h0a h0l h0c h1 h2 kind n la ll lc g R) : CallsG Try.prog 64 #[(.agg ⟨[(.slice h0a h0l h0c), (.int .i64 h1), (.int .i64 h2)]⟩), (.int .i64 kind), (.int .i64 n), (.slice la ll lc)] g nobody R :=
  fn_soundG (c := cfg64) TTok FNSok mixed Try.func64 (show Try.f64.body = some c64 by kernel_rfl) (show Try.f64.ntmps = 46 by kernel_rfl) (show Try.f64.results.toList = [.cell 8 24, .cell 9 41, .tmp 10] by kernel_rfl) rfl ((F64_eq h0a h0l h0c h1 h2 kind n la ll lc g R).mpr hF)

/- 65 pilaster/heap.bytesOf -/
noncomputable def c65 : Code := match Try.f65.body with
  | some c => c
  | none => .skip
noncomputable def cfg65 : Cfg := ⟨Try.prog, TT, FNS, [], [], [], TCH, false, false⟩
def an65 : AnnG := (.seq .leaf (.seq .leaf (.seq (.seq .leaf (.blk (.loop ⟨[(3, .sl), (9, .int .i64)], [], []⟩ (.seq .leaf (.seq (.cond .leaf .leaf) (.seq (.blk (.seq .leaf .leaf)) .leaf)))))) (.seq .leaf .leaf))))
def F65 (s : ByteArray) (g : G) (R : Value → G → Prop) : Prop :=
  ∃ xa : Option Addr, ∃ xl : Nat, ∃ xc : Nat, ∃ wo1 : World, Sem.run Try.prog (convert 9 66 (.string s)) g.w = .ok (.slice xa xl xc) wo1 ∧ ∃ g1 : G, g1.w = wo1 ∧ Stp g.w.heap.size nobody g g1 ∧ ∃ Inv : Nat → Option Addr → Nat → Nat → Int → G → Prop, ((∃ m0 : Nat, Inv m0 none 0 0 (0 : Int) g1)) ∧
  ∀ m : Nat, ∀ outa : Option Addr, ∀ outl : Nat, ∀ outc : Nat, ∀ v_1 : Int, ∀ g2 : G, Le g1 g2 → Inv m outa outl outc v_1 g2 →
  ifB (ltI v_1 ((xl : Nat) : Int))
  ((0 ≤ v_1 ∧ v_1 < ((xl : Nat) : Int)) ∧ derefP xa fun ad => ∃ c : Int, g2.w.cell? (Addr.add ad (Int.toNat v_1 * 1)) = some (.int .u8 c) ∧ InI64 c ∧ (CallsP Try.prog 97 #[(.int .i64 c)] g2 fun v g3 =>
  ∃ x0 : Bool, ∃ x1 : Int, v = (.agg ⟨[(.bool x0), (.int .i64 x1)]⟩) ∧ ∀ g4 : G, NewL g3 g4 41 [(.bool x0), (.int .i64 x1)] →
  ∃ outa_1 : Option Addr, ∃ outl_1 : Nat, ∃ outc_1 : Nat, ∃ wo2 : World, Sem.run Try.prog (Builtin.append_ #[22, 22] 22 #[(.slice outa outl outc), (.slice (some ⟨g3.w.heap.size, 0, none⟩) 1 1)]) g4.w = .ok (.slice outa_1 outl_1 outc_1) wo2 ∧ ∃ g5 : G, g5.w = wo2 ∧ Stp g.w.heap.size nobody g4 g5 ∧ InI64 (v_1 + (1 : Int)) ∧ (∃ m_1 : Nat, m_1 < m ∧ Inv m_1 outa_1 outl_1 outc_1 (v_1 + (1 : Int)) g5)))
  (∀ g6 : G, Ex g2 g6 →
  R (.slice outa outl outc) g6)
theorem F65_eq (s : ByteArray) (g : G) (R : Value → G → Prop) : fnG cfg65 21 [.tmp 2] c65 an65 [(.string s)] g nobody R = F65 s g R := by kernel_rfl
theorem call65 (s : ByteArray) (g : G) (R : Value → G → Prop) (hF : F65 s g R) : CallsG Try.prog 65 #[(.string s)] g nobody R :=
  fn_soundG (c := cfg65) TTok FNSok mixed Try.func65 (show Try.f65.body = some c65 by kernel_rfl) (show Try.f65.ntmps = 21 by kernel_rfl) (show Try.f65.results.toList = [.tmp 2] by kernel_rfl) rfl ((F65_eq s g R).mpr hF)

/- 66 pilaster/heap.size -/
noncomputable def c66 : Code := match Try.f66.body with
  | some c => c
  | none => .skip
noncomputable def cfg66 : Cfg := ⟨Try.prog, TT, FNS, [1, 5], [(1, 1), (5, 5), (8, 1)], [], TCH, false, false⟩
def an66 : AnnG := (.seq .leaf (.seq (.seq .leaf (.blk (.loop ⟨[(2, .int .i64), (3, .int .i64), (11, .int .i64)], [], []⟩ (.seq .leaf (.seq (.cond .leaf .leaf) (.seq (.blk (.seq .leaf (.seq .leaf (.seq .leaf .leaf)))) .leaf)))))) (.seq .leaf .leaf)))
def F66 (v0 : Int) (v1 : Int) (v2 : ByteArray) (v3a : Option Addr) (v3l : Nat) (v3c : Nat) (v4a : Option Addr) (v4l : Nat) (v4c : Nat) (g : G) (R : Value → G → Prop) : Prop :=
  ∃ Inv : Nat → Int → Int → Int → G → Prop, (∀ g1 : G, Ex g g1 →
  (∃ m0 : Nat, Inv m0 (0 : Int) (0 : Int) (0 : Int) g1)) ∧
  ∀ m : Nat, ∀ nodes : Int, ∀ depth : Int, ∀ v_1 : Int, ∀ g2 : G, Le g g2 → Inv m nodes depth v_1 g2 →
  ifB (ltI v_1 ((v4l : Nat) : Int))
  ((0 ≤ v_1 ∧ v_1 < ((v4l : Nat) : Int)) ∧ derefP v4a fun ad => ∃ x0 : Int, ∃ x1 : Int, ∃ x2 : ByteArray, ∃ x3a : Option Addr, ∃ x3l : Nat, ∃ x3c : Nat, ∃ x4a : Option Addr, ∃ x4l : Nat, ∃ x4c : Nat, g2.w.cell? (Addr.add ad (Int.toNat v_1 * 5)) = some (.int .i64 x0) ∧ g2.w.cell? (Addr.add (Addr.add ad (Int.toNat v_1 * 5)) 1) = some (.int .i64 x1) ∧ g2.w.cell? (Addr.add (Addr.add ad (Int.toNat v_1 * 5)) 2) = some (.string x2) ∧ g2.w.cell? (Addr.add (Addr.add ad (Int.toNat v_1 * 5)) 3) = some (.slice x3a x3l x3c) ∧ g2.w.cell? (Addr.add (Addr.add ad (Int.toNat v_1 * 5)) 4) = some (.slice x4a x4l x4c) ∧ ∀ g3 : G, Ex g2 g3 →
  (CallsP Try.prog 66 #[(.agg ⟨[(.int .i64 x0), (.int .i64 x1), (.string x2), (.slice x3a x3l x3c), (.slice x4a x4l x4c)]⟩)] g3 fun v g4 =>
  ∃ x0_1 : Int, ∃ x1_1 : Int, v = (.tuple ⟨[(.int .i64 x0_1), (.int .i64 x1_1)]⟩) ∧ InI64 (nodes + x0_1) ∧ InI64 (v_1 + (1 : Int)) ∧ (∃ m_1 : Nat, m_1 < m ∧ Inv m_1 (nodes + x0_1) (maxI depth x1_1) (v_1 + (1 : Int)) g4)))
  (InI64 (nodes + (1 : Int)) ∧ InI64 (depth + (1 : Int)) ∧ ∀ g5 : G, Ex g2 g5 →
  R (.tuple ⟨[(.int .i64 (nodes + (1 : Int))), (.int .i64 (depth + (1 : Int)))]⟩) g5)
theorem F66_eq (v0 : Int) (v1 : Int) (v2 : ByteArray) (v3a : Option Addr) (v3l : Nat) (v3c : Nat) (v4a : Option Addr) (v4l : Nat) (v4c : Nat) (g : G) (R : Value → G → Prop) : fnG cfg66 31 [.tmp 2, .tmp 3] c66 an66 [(.agg ⟨[(.int .i64 v0), (.int .i64 v1), (.string v2), (.slice v3a v3l v3c), (.slice v4a v4l v4c)]⟩)] g nobody R = F66 v0 v1 v2 v3a v3l v3c v4a v4l v4c g R := by kernel_rfl
theorem call66 (v0 : Int) (v1 : Int) (v2 : ByteArray) (v3a : Option Addr) (v3l : Nat) (v3c : Nat) (v4a : Option Addr) (v4l : Nat) (v4c : Nat) (g : G) (R : Value → G → Prop) (hF : F66 v0 v1 v2 v3a v3l v3c v4a v4l v4c g R) : CallsG Try.prog 66 #[(.agg ⟨[(.int .i64 v0), (.int .i64 v1), (.string v2), (.slice v3a v3l v3c), (.slice v4a v4l v4c)]⟩)] g nobody R :=
  fn_soundG (c := cfg66) TTok FNSok mixed Try.func66 (show Try.f66.body = some c66 by kernel_rfl) (show Try.f66.ntmps = 31 by kernel_rfl) (show Try.f66.results.toList = [.tmp 2, .tmp 3] by kernel_rfl) rfl ((F66_eq v0 v1 v2 v3a v3l v3c v4a v4l v4c g R).mpr hF)

/- 67 pilaster/heap.data -/
noncomputable def c67 : Code := match Try.f67.body with
  | some c => c
  | none => .skip
noncomputable def cfg67 : Cfg := ⟨Try.prog, TT, FNS, [1], [(1, 1), (3, 1), (8, 1), (12, 1), (18, 1), (22, 1), (27, 1), (32, 1), (36, 1), (40, 1), (47, 1), (52, 1), (59, 1), (64, 1), (71, 1), (75, 1), (80, 1), (86, 1)], [], TCH, false, false⟩
def an67 : AnnG := (.seq .leaf (.join ⟨[], [], []⟩ (.seq .leaf (.cond (.seq .leaf .leaf) .leaf)) (.seq (.seq .leaf (.blk (.seq .leaf (.cond (.seq .leaf .leaf) (.seq .leaf (.cond (.seq .leaf .leaf) (.seq .leaf (.cond (.seq .leaf .leaf) (.seq .leaf (.cond (.seq .leaf .leaf) .leaf)))))))))) (.seq .leaf .leaf))))
def F67 (v0 : Int) (v1 : Int) (v2 : ByteArray) (v3a : Option Addr) (v3l : Nat) (v3c : Nat) (v4a : Option Addr) (v4l : Nat) (v4c : Nat) (g : G) (R : Value → G → Prop) : Prop :=
  ∀ J : G → Prop,
  (∀ g1 : G, (ifB (eqI v0 (1 : Int))
  ((CallsP Try.prog 99 #[(.int .i64 v1)] g1 fun v g2 =>
  ∃ x : Bool, v = (.bool x) ∧ ifB x
  (∀ g3 : G, Ex g2 g3 →
  R (.bool (eqI ((v4l : Nat) : Int) (0 : Int))) g3)
  (∀ g4 : G, Ex g2 g4 →
  R (.bool false) g4)))
  (ifB (eqI v0 (2 : Int))
  (ifB (leI ((v2.size : Nat) : Int) (16384 : Int))
  (∀ g5 : G, Ex g1 g5 →
  R (.bool (eqI ((v4l : Nat) : Int) (0 : Int))) g5)
  (∀ g6 : G, Ex g1 g6 →
  R (.bool false) g6))
  (ifB (eqI v0 (3 : Int))
  (ifB (leI ((v4l : Nat) : Int) (1000 : Int))
  ((CallsP Try.prog 100 #[(.slice v4a v4l v4c), (.func (.func 101) #[] #[])] g1 fun v g7 =>
  ∃ x_1 : Bool, v = (.bool x_1) ∧ ∀ g8 : G, Ex g7 g8 →
  R (.bool (!x_1)) g8))
  (∀ g9 : G, Ex g1 g9 →
  R (.bool false) g9))
  (ifB (eqI v0 (4 : Int))
  (ifB (leI (0 : Int) v1)
  (ifB (leI v1 (1000 : Int))
  (ifB (eqI ((v4l : Nat) : Int) (1 : Int))
  ((0 ≤ (0 : Int) ∧ (0 : Int) < ((v4l : Nat) : Int)) ∧ derefP v4a fun ad => ∃ x0 : Int, ∃ x1 : Int, ∃ x2 : ByteArray, ∃ x3a : Option Addr, ∃ x3l : Nat, ∃ x3c : Nat, ∃ x4a : Option Addr, ∃ x4l : Nat, ∃ x4c : Nat, g1.w.cell? (Addr.add ad (Int.toNat (0 : Int) * 5)) = some (.int .i64 x0) ∧ g1.w.cell? (Addr.add (Addr.add ad (Int.toNat (0 : Int) * 5)) 1) = some (.int .i64 x1) ∧ g1.w.cell? (Addr.add (Addr.add ad (Int.toNat (0 : Int) * 5)) 2) = some (.string x2) ∧ g1.w.cell? (Addr.add (Addr.add ad (Int.toNat (0 : Int) * 5)) 3) = some (.slice x3a x3l x3c) ∧ g1.w.cell? (Addr.add (Addr.add ad (Int.toNat (0 : Int) * 5)) 4) = some (.slice x4a x4l x4c) ∧ (CallsP Try.prog 67 #[(.agg ⟨[(.int .i64 x0), (.int .i64 x1), (.string x2), (.slice x3a x3l x3c), (.slice x4a x4l x4c)]⟩)] g1 fun v g10 =>
  ∃ x_2 : Bool, v = (.bool x_2) ∧ ∀ g11 : G, Ex g10 g11 →
  R (.bool x_2) g11))
  (∀ g12 : G, Ex g1 g12 →
  R (.bool false) g12))
  (∀ g13 : G, Ex g1 g13 →
  R (.bool false) g13))
  (∀ g14 : G, Ex g1 g14 →
  R (.bool false) g14))
  (∀ g15 : G, Ex g1 g15 →
  R (.bool false) g15))))) → J g1) →
  ifB (ltI (0 : Int) ((v3l : Nat) : Int))
  (∀ g16 : G, Ex g g16 →
  R (.bool false) g16)
  (ifB (!eqI v0 (2 : Int))
  (ifB (!strEq v2 (bs []))
  (∀ g17 : G, Ex g g17 →
  R (.bool false) g17)
  (ifB (!eqI v0 (1 : Int))
  (ifB (!eqI v0 (4 : Int))
  (ifB (!eqI v1 (0 : Int))
  (∀ g18 : G, Ex g g18 →
  R (.bool false) g18)
  (∀ g19 : G, Ex g g19 →
  J g19))
  (∀ g20 : G, Ex g g20 →
  J g20))
  (∀ g21 : G, Ex g g21 →
  J g21)))
  (ifB (!eqI v0 (1 : Int))
  (ifB (!eqI v0 (4 : Int))
  (ifB (!eqI v1 (0 : Int))
  (∀ g22 : G, Ex g g22 →
  R (.bool false) g22)
  (∀ g23 : G, Ex g g23 →
  J g23))
  (∀ g24 : G, Ex g g24 →
  J g24))
  (∀ g25 : G, Ex g g25 →
  J g25)))
theorem F67_eq (v0 : Int) (v1 : Int) (v2 : ByteArray) (v3a : Option Addr) (v3l : Nat) (v3c : Nat) (v4a : Option Addr) (v4l : Nat) (v4c : Nat) (g : G) (R : Value → G → Prop) : fnG cfg67 92 [.tmp 2] c67 an67 [(.agg ⟨[(.int .i64 v0), (.int .i64 v1), (.string v2), (.slice v3a v3l v3c), (.slice v4a v4l v4c)]⟩)] g nobody R = F67 v0 v1 v2 v3a v3l v3c v4a v4l v4c g R := by kernel_rfl
theorem call67 (v0 : Int) (v1 : Int) (v2 : ByteArray) (v3a : Option Addr) (v3l : Nat) (v3c : Nat) (v4a : Option Addr) (v4l : Nat) (v4c : Nat) (g : G) (R : Value → G → Prop) (hF : F67 v0 v1 v2 v3a v3l v3c v4a v4l v4c g R) : CallsG Try.prog 67 #[(.agg ⟨[(.int .i64 v0), (.int .i64 v1), (.string v2), (.slice v3a v3l v3c), (.slice v4a v4l v4c)]⟩)] g nobody R :=
  fn_soundG (c := cfg67) TTok FNSok mixed Try.func67 (show Try.f67.body = some c67 by kernel_rfl) (show Try.f67.ntmps = 92 by kernel_rfl) (show Try.f67.results.toList = [.tmp 2] by kernel_rfl) rfl ((F67_eq v0 v1 v2 v3a v3l v3c v4a v4l v4c g R).mpr hF)

/- 68 slices.Clone[[]pilaster/api.Word,pilaster/api.Word] -/
noncomputable def c68 : Code := match Try.f68.body with
  | some c => c
  | none => .skip
noncomputable def cfg68 : Cfg := ⟨Try.prog, TT, FNS, [], [], [], TCH, false, false⟩
def an68 : AnnG := (.seq .leaf (.seq (.seq .leaf (.cond (.seq .leaf .leaf) .leaf)) (.seq .leaf .leaf)))
def F68 (sa : Option Addr) (sl : Nat) (sc : Nat) (g : G) (R : Value → G → Prop) : Prop :=
  ifB sa.isNone
  (∀ g1 : G, Ex g g1 →
  R (.slice none 0 0) g1)
  (∀ g2 : G, NewL g g2 41 [] →
  ∃ xa : Option Addr, ∃ xl : Nat, ∃ xc : Nat, ∃ wo1 : World, Sem.run Try.prog (Builtin.append_ #[22, 22] 22 #[(.slice (some ⟨g.w.heap.size, 0, none⟩) 0 0), (.slice sa sl sc)]) g2.w = .ok (.slice xa xl xc) wo1 ∧ ∃ g3 : G, g3.w = wo1 ∧ Stp g.w.heap.size nobody g2 g3 ∧ ∀ g4 : G, Ex g3 g4 →
  R (.slice xa xl xc) g4)
theorem F68_eq (sa : Option Addr) (sl : Nat) (sc : Nat) (g : G) (R : Value → G → Prop) : fnG cfg68 8 [.tmp 2] c68 an68 [(.slice sa sl sc)] g nobody R = F68 sa sl sc g R := by kernel_rfl
theorem call68 (sa : Option Addr) (sl : Nat) (sc : Nat) (g : G) (R : Value → G → Prop) (hF : F68 sa sl sc g R) : CallsG Try.prog 68 #[(.slice sa sl sc)] g nobody R :=
  fn_soundG (c := cfg68) TTok FNSok mixed Try.func68 (show Try.f68.body = some c68 by kernel_rfl) (show Try.f68.ntmps = 8 by kernel_rfl) (show Try.f68.results.toList = [.tmp 2] by kernel_rfl) rfl ((F68_eq sa sl sc g R).mpr hF)

/- 69 pilaster/heap.put -/
noncomputable def c69 : Code := match Try.f69.body with
  | some c => c
  | none => .skip
noncomputable def cfg69 : Cfg := ⟨Try.prog, TT, FNS, [2, 3, 4, 5, 9, 10, 11], [(2, 2), (3, 3), (4, 4), (5, 5), (9, 9), (10, 10), (11, 11), (13, 3), (18, 3), (24, 3), (27, 3), (34, 3), (58, 3), (62, 3)], [], TCH, false, false⟩
def an69 : AnnG := (.seq .leaf (.seq (.seq .leaf (.blk (.seq .leaf (.cond (.seq (.treeP false [4, 5] 4 (.quiet 0 (.quiet 1 (.quiet 2 (.eff 3 .fin .fin))))) .leaf) (.seq .leaf (.cond (.seq (.treeP false [4, 5] 11 (.quiet 0 (.quiet 1 (.quiet 2 (.quiet 3 (.quiet 4 (.quiet 5 (.eff 6 (.eff 7 (.quiet 8 (.quiet 9 (.quiet 10 .fin))) .fin) .fin)))))))) .leaf) .leaf)))))) (.seq .leaf (.seq (.seq .leaf (.blk (.loop ⟨[(7, .sl), (37, .int .i64)], [(2, 2, 0), (4, 4, 0), (5, 5, 0)], [(2, [(.sl), (.int .i64), (.int .i64)]), (4, [(.sl), (.int .i64), (.int .i64)]), (5, [(.bool), (.int .i64)])]⟩ (.seq .leaf (.seq (.cond .leaf .leaf) (.seq (.blk (.seq .leaf (.seq .leaf (.seq (.seq .leaf (.cond (.seq .leaf .leaf) .leaf)) (.seq .leaf .leaf))))) .leaf)))))) (.seq (.seq .leaf (.cond (.seq .leaf .leaf) .leaf)) (.seq .leaf .leaf))))))
def F69 (h0a : Option Addr) (h0l : Nat) (h0c : Nat) (h1 : Int) (h2 : Int) (v0 : Int) (v1 : Int) (v2 : ByteArray) (v3a : Option Addr) (v3l : Nat) (v3c : Nat) (v4a : Option Addr) (v4l : Nat) (v4c : Nat) (g : G) (R : Value → G → Prop) : Prop :=
  ifB (eqI v0 (1 : Int))
  (∀ g1 : G, Ex g g1 →
  ∀ g2 : G, Ex g1 g2 →
  (CallsP Try.prog 97 #[(.int .i64 v1)] g2 fun v g3 =>
  ∃ x0 : Bool, ∃ x1 : Int, v = (.agg ⟨[(.bool x0), (.int .i64 x1)]⟩) ∧ ∀ g4 : G, Ex g3 g4 →
  R (.tuple ⟨[(.agg ⟨[(.slice h0a h0l h0c), (.int .i64 h1), (.int .i64 h2)]⟩), (.agg ⟨[(.bool x0), (.int .i64 x1)]⟩), (.bool true)]⟩) g4))
  (ifB (eqI v0 (2 : Int))
  (∀ g5 : G, Ex g g5 →
  ∀ g6 : G, Ex g5 g6 →
  (CallsP Try.prog 65 #[(.string v2)] g6 fun v g7 =>
  ∃ xa : Option Addr, ∃ xl : Nat, ∃ xc : Nat, v = (.slice xa xl xc) ∧ ∀ g8 : G, Ex g7 g8 →
  (CallsP Try.prog 64 #[(.agg ⟨[(.slice h0a h0l h0c), (.int .i64 h1), (.int .i64 h2)]⟩), (.int .i64 (4 : Int)), (.int .i64 ((v2.size : Nat) : Int)), (.slice xa xl xc)] g8 fun v g9 =>
  ∃ x00a : Option Addr, ∃ x00l : Nat, ∃ x00c : Nat, ∃ x01 : Int, ∃ x02 : Int, ∃ x10 : Bool, ∃ x11 : Int, ∃ x2 : Bool, v = (.tuple ⟨[(.agg ⟨[(.slice x00a x00l x00c), (.int .i64 x01), (.int .i64 x02)]⟩), (.agg ⟨[(.bool x10), (.int .i64 x11)]⟩), (.bool x2)]⟩) ∧ ∀ g10 : G, Ex g9 g10 →
  R (.tuple ⟨[(.agg ⟨[(.slice x00a x00l x00c), (.int .i64 x01), (.int .i64 x02)]⟩), (.agg ⟨[(.bool x10), (.int .i64 x11)]⟩), (.bool x2)]⟩) g10)))
  (∃ Inv : Nat → Option Addr → Nat → Nat → Int → Option Addr → Nat → Nat → Int → Int → Option Addr → Nat → Nat → Int → Int → Bool → Int → G → Prop, (∀ g11 : G, Ex g g11 →
  (∃ m0 : Nat, Inv m0 none 0 0 (0 : Int) h0a h0l h0c h1 h2 none 0 0 (0 : Int) (0 : Int) false (0 : Int) g11)) ∧
  ∀ m : Nat, ∀ la : Option Addr, ∀ ll : Nat, ∀ lc : Nat, ∀ v_1 : Int, ∀ h0a_1 : Option Addr, ∀ h0l_1 : Nat, ∀ h0c_1 : Nat, ∀ h1_1 : Int, ∀ h2_1 : Int, ∀ x0a : Option Addr, ∀ x0l : Nat, ∀ x0c : Nat, ∀ x1_1 : Int, ∀ x2_1 : Int, ∀ x0_1 : Bool, ∀ x1_2 : Int, ∀ g12 : G, Le g g12 → Inv m la ll lc v_1 h0a_1 h0l_1 h0c_1 h1_1 h2_1 x0a x0l x0c x1_1 x2_1 x0_1 x1_2 g12 →
  ifB (ltI v_1 ((v4l : Nat) : Int))
  ((0 ≤ v_1 ∧ v_1 < ((v4l : Nat) : Int)) ∧ derefP v4a fun ad => ∃ x0_2 : Int, ∃ x1_3 : Int, ∃ x2_2 : ByteArray, ∃ x3a : Option Addr, ∃ x3l : Nat, ∃ x3c : Nat, ∃ x4a : Option Addr, ∃ x4l : Nat, ∃ x4c : Nat, g12.w.cell? (Addr.add ad (Int.toNat v_1 * 5)) = some (.int .i64 x0_2) ∧ g12.w.cell? (Addr.add (Addr.add ad (Int.toNat v_1 * 5)) 1) = some (.int .i64 x1_3) ∧ g12.w.cell? (Addr.add (Addr.add ad (Int.toNat v_1 * 5)) 2) = some (.string x2_2) ∧ g12.w.cell? (Addr.add (Addr.add ad (Int.toNat v_1 * 5)) 3) = some (.slice x3a x3l x3c) ∧ g12.w.cell? (Addr.add (Addr.add ad (Int.toNat v_1 * 5)) 4) = some (.slice x4a x4l x4c) ∧ ∀ g13 : G, Ex g12 g13 →
  (CallsP Try.prog 69 #[(.agg ⟨[(.slice h0a_1 h0l_1 h0c_1), (.int .i64 h1_1), (.int .i64 h2_1)]⟩), (.agg ⟨[(.int .i64 x0_2), (.int .i64 x1_3), (.string x2_2), (.slice x3a x3l x3c), (.slice x4a x4l x4c)]⟩)] g13 fun v g14 =>
  ∃ x00a_1 : Option Addr, ∃ x00l_1 : Nat, ∃ x00c_1 : Nat, ∃ x01_1 : Int, ∃ x02_1 : Int, ∃ x10_1 : Bool, ∃ x11_1 : Int, ∃ x2_3 : Bool, v = (.tuple ⟨[(.agg ⟨[(.slice x00a_1 x00l_1 x00c_1), (.int .i64 x01_1), (.int .i64 x02_1)]⟩), (.agg ⟨[(.bool x10_1), (.int .i64 x11_1)]⟩), (.bool x2_3)]⟩) ∧ ifB (!x2_3)
  (∀ g15 : G, Ex g14 g15 →
  ∀ g16 : G, Ex g15 g16 →
  R (.tuple ⟨[(.agg ⟨[(.slice none 0 0), (.int .i64 (0 : Int)), (.int .i64 (0 : Int))]⟩), (.agg ⟨[(.bool false), (.int .i64 (0 : Int))]⟩), (.bool false)]⟩) g16)
  (∀ g17 : G, Ex g14 g17 →
  ∀ g18 : G, NewL g17 g18 41 [(.bool x10_1), (.int .i64 x11_1)] →
  ∃ la_1 : Option Addr, ∃ ll_1 : Nat, ∃ lc_1 : Nat, ∃ wo1 : World, Sem.run Try.prog (Builtin.append_ #[22, 22] 22 #[(.slice la ll lc), (.slice (some ⟨g17.w.heap.size, 0, none⟩) 1 1)]) g18.w = .ok (.slice la_1 ll_1 lc_1) wo1 ∧ ∃ g19 : G, g19.w = wo1 ∧ Stp g.w.heap.size nobody g18 g19 ∧ InI64 (v_1 + (1 : Int)) ∧ (∃ m_1 : Nat, m_1 < m ∧ Inv m_1 la_1 ll_1 lc_1 (v_1 + (1 : Int)) x00a_1 x00l_1 x00c_1 x01_1 x02_1 x0a x0l x0c x1_1 x2_1 x0_1 x1_2 g19))))
  (ifB (eqI v0 (4 : Int))
  ((CallsP Try.prog 64 #[(.agg ⟨[(.slice h0a_1 h0l_1 h0c_1), (.int .i64 h1_1), (.int .i64 h2_1)]⟩), (.int .i64 (2 : Int)), (.int .i64 v1), (.slice la ll lc)] g12 fun v g20 =>
  ∃ x00a_2 : Option Addr, ∃ x00l_2 : Nat, ∃ x00c_2 : Nat, ∃ x01_2 : Int, ∃ x02_2 : Int, ∃ x10_2 : Bool, ∃ x11_2 : Int, ∃ x2_4 : Bool, v = (.tuple ⟨[(.agg ⟨[(.slice x00a_2 x00l_2 x00c_2), (.int .i64 x01_2), (.int .i64 x02_2)]⟩), (.agg ⟨[(.bool x10_2), (.int .i64 x11_2)]⟩), (.bool x2_4)]⟩) ∧ ∀ g21 : G, Ex g20 g21 →
  R (.tuple ⟨[(.agg ⟨[(.slice x00a_2 x00l_2 x00c_2), (.int .i64 x01_2), (.int .i64 x02_2)]⟩), (.agg ⟨[(.bool x10_2), (.int .i64 x11_2)]⟩), (.bool x2_4)]⟩) g21))
  ((CallsP Try.prog 64 #[(.agg ⟨[(.slice h0a_1 h0l_1 h0c_1), (.int .i64 h1_1), (.int .i64 h2_1)]⟩), (.int .i64 (1 : Int)), (.int .i64 (0 : Int)), (.slice la ll lc)] g12 fun v g22 =>
  ∃ x00a_3 : Option Addr, ∃ x00l_3 : Nat, ∃ x00c_3 : Nat, ∃ x01_3 : Int, ∃ x02_3 : Int, ∃ x10_3 : Bool, ∃ x11_3 : Int, ∃ x2_5 : Bool, v = (.tuple ⟨[(.agg ⟨[(.slice x00a_3 x00l_3 x00c_3), (.int .i64 x01_3), (.int .i64 x02_3)]⟩), (.agg ⟨[(.bool x10_3), (.int .i64 x11_3)]⟩), (.bool x2_5)]⟩) ∧ ∀ g23 : G, Ex g22 g23 →
  R (.tuple ⟨[(.agg ⟨[(.slice x00a_3 x00l_3 x00c_3), (.int .i64 x01_3), (.int .i64 x02_3)]⟩), (.agg ⟨[(.bool x10_3), (.int .i64 x11_3)]⟩), (.bool x2_5)]⟩) g23)))))
theorem F69_eq (h0a : Option Addr) (h0l : Nat) (h0c : Nat) (h1 : Int) (h2 : Int) (v0 : Int) (v1 : Int) (v2 : ByteArray) (v3a : Option Addr) (v3l : Nat) (v3c : Nat) (v4a : Option Addr) (v4l : Nat) (v4c : Nat) (g : G) (R : Value → G → Prop) : fnG cfg69 75 [.cell 4 24, .cell 5 41, .tmp 6] c69 an69 [(.agg ⟨[(.slice h0a h0l h0c), (.int .i64 h1), (.int .i64 h2)]⟩), (.agg ⟨[(.int .i64 v0), (.int .i64 v1), (.string v2), (.slice v3a v3l v3c), (.slice v4a v4l v4c)]⟩)] g nobody R = F69 h0a h0l h0c h1 h2 v0 v1 v2 v3a v3l v3c v4a v4l v4c g R := by kernel_rfl
theorem call69 (h0a : Option Addr) (h0l : Nat) (h0c : Nat) (h1 : Int) (h2 : Int) (v0 : Int) (v1 : Int) (v2 : ByteArray) (v3a : Option Addr) (v3l : Nat) (v3c : Nat) (v4a : Option Addr) (v4l : Nat) (v4c : Nat) (g : G) (R : Value → G → Prop) (hF : F69 h0a h0l h0c h1 h2 v0 v1 v2 v3a v3l v3c v4a v4l v4c g R) : CallsG Try.prog 69 #[(.agg ⟨[(.slice h0a h0l h0c), (.int .i64 h1), (.int .i64 h2)]⟩), (.agg ⟨[(.int .i64 v0), (.int .i64 v1), (.string v2), (.slice v3a v3l v3c), (.slice v4a v4l v4c)]⟩)] g nobody R :=
  fn_soundG (c := cfg69) TTok FNSok mixed Try.func69 (show Try.f69.body = some c69 by kernel_rfl) (show Try.f69.ntmps = 75 by kernel_rfl) (show Try.f69.results.toList = [.cell 4 24, .cell 5 41, .tmp 6] by kernel_rfl) rfl ((F69_eq h0a h0l h0c h1 h2 v0 v1 v2 v3a v3l v3c v4a v4l v4c g R).mpr hF)

/- 70 pilaster/pilasterref49.Add -/
noncomputable def c70 : Code := match Try.f70.body with
  | some c => c
  | none => .skip
noncomputable def cfg70 : Cfg := ⟨Try.prog, TT, FNS, [4, 11], [(4, 4), (11, 11), (12, 4), (18, 4), (24, 4), (27, 4), (33, 4), (36, 11), (47, 11), (48, 11), (52, 11), (54, 4)], [], TCH, false, false⟩
def an70 : AnnG := (.seq .leaf (.seq (.seq .leaf (.cond (.seq .leaf .leaf) .leaf)) (.join ⟨[], [(11, 11, 0)], [(11, [(.sl), (.int .i64), (.int .i64)])]⟩ (.treeB 14 (.quiet 1 (.quiet 2 (.quiet 4 (.quiet 5 (.quiet 6 (.quiet 7 (.quiet 8 (.quiet 9 (.quiet 10 (.quiet 11 (.eff 0 (.eff 3 (.eff 12 (.eff 13 .fin .fin) (.eff 13 (.eff 12 .fin .fin) .fin)) (.eff 13 (.eff 3 (.eff 12 .fin .fin) .fin) .fin)) (.eff 13 (.eff 0 (.eff 3 (.eff 12 .fin .fin) .fin) .fin) .fin))))))))))))) (.seq (.treeB 10 (.quiet 0 (.quiet 1 (.quiet 2 (.quiet 4 (.quiet 6 (.quiet 7 (.eff 3 (.eff 5 (.eff 8 (.eff 9 .fin .fin) .fin) .fin) .fin)))))))) (.seq .leaf (.seq (.treeB 5 (.quiet 0 (.quiet 1 (.quiet 2 (.eff 3 (.eff 4 .fin .fin) (.eff 4 (.eff 3 .fin .fin) .fin)))))) .leaf))))))
def F70 (h0a : Option Addr) (h0l : Nat) (h0c : Nat) (h1 : Int) (h2 : Int) (kind : Int) (n : Int) (la : Option Addr) (ll : Nat) (lc : Nat) (g : G) (R : Value → G → Prop) : Prop :=
  ∀ g1 : G, Ex g g1 →
  ∀ g2 : G, NewD g1 g2 24 [(.slice none 0 0), (.int .i64 (0 : Int)), (.int .i64 (0 : Int))] →
  ∀ g3 : G, NewD g2 g3 41 [(.bool false), (.int .i64 (0 : Int))] →
  InI64 (h1 + (3 : Int)) ∧ InI64 ((h1 + (3 : Int)) + ((ll : Nat) : Int)) ∧ ifB (ltI h2 ((h1 + (3 : Int)) + ((ll : Nat) : Int)))
  (stOk g3.w ⟨g1.w.heap.size, 0, none⟩ 3 ∧ ¬ g3.X (Addr.block ⟨g1.w.heap.size, 0, none⟩) ∧ mutAt g3 ⟨g1.w.heap.size, 0, none⟩ 3 ∧ ((Addr.block ⟨g1.w.heap.size, 0, none⟩) < g.w.heap.size → nobody (Addr.block ⟨g1.w.heap.size, 0, none⟩)) ∧ ∀ g4 : G, StG false g3 ⟨g1.w.heap.size, 0, none⟩ [(.slice none 0 0), (.int .i64 (0 : Int)), (.int .i64 (0 : Int))] g4 →
  stOk g4.w ⟨g2.w.heap.size, 0, none⟩ 2 ∧ ¬ g4.X (Addr.block ⟨g2.w.heap.size, 0, none⟩) ∧ mutAt g4 ⟨g2.w.heap.size, 0, none⟩ 2 ∧ ((Addr.block ⟨g2.w.heap.size, 0, none⟩) < g.w.heap.size → nobody (Addr.block ⟨g2.w.heap.size, 0, none⟩)) ∧ ∀ g5 : G, StG false g4 ⟨g2.w.heap.size, 0, none⟩ [(.bool false), (.int .i64 (0 : Int))] g5 →
  ∃ r0a : Option Addr, ∃ r0l : Nat, ∃ r0c : Nat, ∃ r1 : Int, ∃ r2 : Int, g5.w.cell? ⟨g1.w.heap.size, 0, none⟩ = some (.slice r0a r0l r0c) ∧ g5.w.cell? (Addr.add ⟨g1.w.heap.size, 0, none⟩ 1) = some (.int .i64 r1) ∧ g5.w.cell? (Addr.add ⟨g1.w.heap.size, 0, none⟩ 2) = some (.int .i64 r2) ∧ ∃ r0 : Bool, ∃ r1_1 : Int, g5.w.cell? ⟨g2.w.heap.size, 0, none⟩ = some (.bool r0) ∧ g5.w.cell? (Addr.add ⟨g2.w.heap.size, 0, none⟩ 1) = some (.int .i64 r1_1) ∧ ∀ g6 : G, Ex g5 g6 →
  R (.tuple ⟨[(.agg ⟨[(.slice r0a r0l r0c), (.int .i64 r1), (.int .i64 r2)]⟩), (.agg ⟨[(.bool r0), (.int .i64 r1_1)]⟩), (.bool false)]⟩) g6)
  (∀ J : Option Addr → Nat → Nat → Int → Int → G → Prop,
  (∀ out0a : Option Addr, ∀ out0l : Nat, ∀ out0c : Nat, ∀ out1 : Int, ∀ out2 : Int, ∀ g7 : G, (∀ g8 : G, Ex g7 g8 →
  ∃ MR1 : Nat → Prop, (∀ b, MR1 b → ¬ g8.X b) ∧ (CallsP Try.prog 74 #[(.int .i64 kind)] g8 fun v g9 =>
  ∃ x0 : Bool, ∃ x1 : Int, v = (.agg ⟨[(.bool x0), (.int .i64 x1)]⟩) ∧ (CallsP Try.prog 74 #[(.int .i64 n)] g9 fun v g10 =>
  ∃ x0_1 : Bool, ∃ x1_1 : Int, v = (.agg ⟨[(.bool x0_1), (.int .i64 x1_1)]⟩) ∧ (CallsP Try.prog 74 #[(.int .i64 ((ll : Nat) : Int))] g10 fun v g11 =>
  ∃ x0_2 : Bool, ∃ x1_2 : Int, v = (.agg ⟨[(.bool x0_2), (.int .i64 x1_2)]⟩) ∧ ∀ g12 : G, NewL g11 g12 41 [(.bool x0), (.int .i64 x1), (.bool x0_1), (.int .i64 x1_1), (.bool x0_2), (.int .i64 x1_2)] →
  ∃ xa : Option Addr, ∃ xl : Nat, ∃ xc : Nat, ∃ wo1 : World, Sem.run Try.prog (Builtin.append_ #[22, 22] 22 #[(.slice out0a out0l out0c), (.slice (some ⟨g11.w.heap.size, 0, none⟩) 3 3)]) g12.w = .ok (.slice xa xl xc) wo1 ∧ ∃ g13 : G, g13.w = wo1 ∧ Stp g.w.heap.size nobody g12 g13 ∧ ∀ g14 : G, Ex g13 g14 →
  ∃ xa_1 : Option Addr, ∃ xl_1 : Nat, ∃ xc_1 : Nat, ∃ wo2 : World, Sem.run Try.prog (Builtin.append_ #[22, 22] 22 #[(.slice xa xl xc), (.slice la ll lc)]) g14.w = .ok (.slice xa_1 xl_1 xc_1) wo2 ∧ ∃ g15 : G, g15.w = wo2 ∧ Stp g.w.heap.size nobody g14 g15 ∧ ∀ g16 : G, Ex g15 g16 →
  ∃ MR2 : Nat → Prop, (∀ b, MR2 b → ¬ g16.X b) ∧ (stOk g16.w ⟨g1.w.heap.size, 0, none⟩ 3 ∧ ¬ g16.X (Addr.block ⟨g1.w.heap.size, 0, none⟩) ∧ mutAt g16 ⟨g1.w.heap.size, 0, none⟩ 3 ∧ ((Addr.block ⟨g1.w.heap.size, 0, none⟩) < g.w.heap.size → nobody (Addr.block ⟨g1.w.heap.size, 0, none⟩)) ∧ ∀ g17 : G, StG false g16 ⟨g1.w.heap.size, 0, none⟩ [(.slice xa_1 xl_1 xc_1), (.int .i64 out1), (.int .i64 out2)] g17 →
  SameBut MR2 g16 g17 ∧ stOk g17.w ⟨g2.w.heap.size, 0, none⟩ 2 ∧ ¬ g17.X (Addr.block ⟨g2.w.heap.size, 0, none⟩) ∧ mutAt g17 ⟨g2.w.heap.size, 0, none⟩ 2 ∧ ((Addr.block ⟨g2.w.heap.size, 0, none⟩) < g.w.heap.size → nobody (Addr.block ⟨g2.w.heap.size, 0, none⟩)) ∧ ∀ g18 : G, StG false g17 ⟨g2.w.heap.size, 0, none⟩ [(.bool true), (.int .i64 h1)] g18 →
  ∃ r0a_1 : Option Addr, ∃ r0l_1 : Nat, ∃ r0c_1 : Nat, ∃ r1_2 : Int, ∃ r2_1 : Int, g18.w.cell? ⟨g1.w.heap.size, 0, none⟩ = some (.slice r0a_1 r0l_1 r0c_1) ∧ g18.w.cell? (Addr.add ⟨g1.w.heap.size, 0, none⟩ 1) = some (.int .i64 r1_2) ∧ g18.w.cell? (Addr.add ⟨g1.w.heap.size, 0, none⟩ 2) = some (.int .i64 r2_1) ∧ ∃ r0_1 : Bool, ∃ r1_3 : Int, g18.w.cell? ⟨g2.w.heap.size, 0, none⟩ = some (.bool r0_1) ∧ g18.w.cell? (Addr.add ⟨g2.w.heap.size, 0, none⟩ 1) = some (.int .i64 r1_3) ∧ ∀ g19 : G, Ex g18 g19 →
  R (.tuple ⟨[(.agg ⟨[(.slice r0a_1 r0l_1 r0c_1), (.int .i64 r1_2), (.int .i64 r2_1)]⟩), (.agg ⟨[(.bool r0_1), (.int .i64 r1_3)]⟩), (.bool true)]⟩) g19) ∧ (stOk g16.w ⟨g1.w.heap.size, 0, none⟩ 3 ∧ ¬ g16.X (Addr.block ⟨g1.w.heap.size, 0, none⟩) ∧ mutAt g16 ⟨g1.w.heap.size, 0, none⟩ 3 ∧ ((Addr.block ⟨g1.w.heap.size, 0, none⟩) < g.w.heap.size → nobody (Addr.block ⟨g1.w.heap.size, 0, none⟩)) ∧ ∀ g20 : G, StG false g16 ⟨g1.w.heap.size, 0, none⟩ [(.slice xa_1 xl_1 xc_1), (.int .i64 out1), (.int .i64 out2)] g20 →
  SameBut MR2 g16 g20 ∧ stOk g20.w ⟨g2.w.heap.size, 0, none⟩ 2 ∧ ¬ g20.X (Addr.block ⟨g2.w.heap.size, 0, none⟩) ∧ mutAt g20 ⟨g2.w.heap.size, 0, none⟩ 2 ∧ ((Addr.block ⟨g2.w.heap.size, 0, none⟩) < g.w.heap.size → nobody (Addr.block ⟨g2.w.heap.size, 0, none⟩)) ∧ ∀ g21 : G, StG false g20 ⟨g2.w.heap.size, 0, none⟩ [(.bool true), (.int .i64 h1)] g21 →
  ∃ r0a_2 : Option Addr, ∃ r0l_2 : Nat, ∃ r0c_2 : Nat, ∃ r1_4 : Int, ∃ r2_2 : Int, g21.w.cell? ⟨g1.w.heap.size, 0, none⟩ = some (.slice r0a_2 r0l_2 r0c_2) ∧ g21.w.cell? (Addr.add ⟨g1.w.heap.size, 0, none⟩ 1) = some (.int .i64 r1_4) ∧ g21.w.cell? (Addr.add ⟨g1.w.heap.size, 0, none⟩ 2) = some (.int .i64 r2_2) ∧ ∃ r0_2 : Bool, ∃ r1_5 : Int, g21.w.cell? ⟨g2.w.heap.size, 0, none⟩ = some (.bool r0_2) ∧ g21.w.cell? (Addr.add ⟨g2.w.heap.size, 0, none⟩ 1) = some (.int .i64 r1_5) ∧ ∀ g22 : G, Ex g21 g22 →
  R (.tuple ⟨[(.agg ⟨[(.slice r0a_2 r0l_2 r0c_2), (.int .i64 r1_4), (.int .i64 r2_2)]⟩), (.agg ⟨[(.bool r0_2), (.int .i64 r1_5)]⟩), (.bool true)]⟩) g22))))) → J out0a out0l out0c out1 out2 g7) →
  ∀ g23 : G, Ex g3 g23 →
  ∃ MR3 : Nat → Prop, (∀ b, MR3 b → ¬ g23.X b) ∧ InI64 (h1 + (3 : Int)) ∧ InI64 ((h1 + (3 : Int)) + ((ll : Nat) : Int)) ∧ (∀ g24 : G, NewL g23 g24 41 [] →
  (∃ xa_2 : Option Addr, ∃ xl_2 : Nat, ∃ xc_2 : Nat, ∃ wo3 : World, Sem.run Try.prog (Builtin.append_ #[22, 22] 22 #[(.slice (some ⟨g23.w.heap.size, 0, none⟩) 0 0), (.slice h0a h0l h0c)]) g24.w = .ok (.slice xa_2 xl_2 xc_2) wo3 ∧ ∃ g25 : G, g25.w = wo3 ∧ Stp g.w.heap.size nobody g24 g25 ∧ SameBut MR3 g23 g25 ∧ (∀ g26 : G, Ex g25 g26 →
  J xa_2 xl_2 xc_2 ((h1 + (3 : Int)) + ((ll : Nat) : Int)) h2 g26) ∧ (∀ g27 : G, Ex g25 g27 →
  ∀ g28 : G, Ex g27 g28 →
  J xa_2 xl_2 xc_2 ((h1 + (3 : Int)) + ((ll : Nat) : Int)) h2 g28)) ∧ (∀ g29 : G, Ex g24 g29 →
  ∃ xa_3 : Option Addr, ∃ xl_3 : Nat, ∃ xc_3 : Nat, ∃ wo4 : World, Sem.run Try.prog (Builtin.append_ #[22, 22] 22 #[(.slice (some ⟨g23.w.heap.size, 0, none⟩) 0 0), (.slice h0a h0l h0c)]) g29.w = .ok (.slice xa_3 xl_3 xc_3) wo4 ∧ ∃ g30 : G, g30.w = wo4 ∧ Stp g.w.heap.size nobody g29 g30 ∧ SameBut MR3 g23 g30 ∧ ∀ g31 : G, Ex g30 g31 →
  J xa_3 xl_3 xc_3 ((h1 + (3 : Int)) + ((ll : Nat) : Int)) h2 g31)) ∧ (∀ g32 : G, Ex g23 g32 →
  ∀ g33 : G, NewL g32 g33 41 [] →
  ∃ xa_4 : Option Addr, ∃ xl_4 : Nat, ∃ xc_4 : Nat, ∃ wo5 : World, Sem.run Try.prog (Builtin.append_ #[22, 22] 22 #[(.slice (some ⟨g32.w.heap.size, 0, none⟩) 0 0), (.slice h0a h0l h0c)]) g33.w = .ok (.slice xa_4 xl_4 xc_4) wo5 ∧ ∃ g34 : G, g34.w = wo5 ∧ Stp g.w.heap.size nobody g33 g34 ∧ SameBut MR3 g23 g34 ∧ ∀ g35 : G, Ex g34 g35 →
  J xa_4 xl_4 xc_4 ((h1 + (3 : Int)) + ((ll : Nat) : Int)) h2 g35))
theorem F70_eq (h0a : Option Addr) (h0l : Nat) (h0c : Nat) (h1 : Int) (h2 : Int) (kind : Int) (n : Int) (la : Option Addr) (ll : Nat) (lc : Nat) (g : G) (R : Value → G → Prop) : fnG cfg70 57 [.cell 8 24, .cell 9 41, .tmp 10] c70 an70 [(.agg ⟨[(.slice h0a h0l h0c), (.int .i64 h1), (.int .i64 h2)]⟩), (.int .i64 kind), (.int .i64 n), (.slice la ll lc)] g nobody R = F70 h0a h0l h0c h1 h2 kind n la ll lc g R := by kernel_rfl
theorem call70 (h0a : Option Addr) (h0l : Nat) (h0c : Nat) (h1 : Int) (h2 : Int) (kind : Int) (n : Int) (la : Option Addr) (ll : Nat) (lc : Nat) (g : G) (R : Value → G → Prop) (hF : F70 h0a h0l h0c h1 h2 kind n la ll lc g R) : CallsG Try.prog 70 #[(.agg ⟨[(.slice h0a h0l h0c), (.int .i64 h1), (.int .i64 h2)]⟩), (.int .i64 kind), (.int .i64 n), (.slice la ll lc)] g nobody R :=
  fn_soundG (c := cfg70) TTok FNSok mixed Try.func70 (show Try.f70.body = some c70 by kernel_rfl) (show Try.f70.ntmps = 57 by kernel_rfl) (show Try.f70.results.toList = [.cell 8 24, .cell 9 41, .tmp 10] by kernel_rfl) rfl ((F70_eq h0a h0l h0c h1 h2 kind n la ll lc g R).mpr hF)

/- 71 pilaster/pilasterref49.bytes -/
noncomputable def c71 : Code := match Try.f71.body with
  | some c => c
  | none => .skip
noncomputable def cfg71 : Cfg := ⟨Try.prog, TT, FNS, [], [], [], TCH, false, false⟩
def an71 : AnnG := (.seq .leaf (.seq .leaf (.seq (.seq .leaf (.blk (.loop ⟨[(3, .sl), (4, .int .i64)], [], []⟩ (.seq (.seq .leaf (.cond .leaf .leaf)) (.seq (.blk .leaf) .leaf))))) (.seq .leaf .leaf))))
def F71 (s : ByteArray) (g : G) (R : Value → G → Prop) : Prop :=
  ∃ Inv : Nat → Option Addr → Nat → Nat → Int → G → Prop, ((∃ m0 : Nat, Inv m0 none 0 0 (0 : Int) g)) ∧
  ∀ m : Nat, ∀ outa : Option Addr, ∀ outl : Nat, ∀ outc : Nat, ∀ i : Int, ∀ g1 : G, Le g g1 → Inv m outa outl outc i g1 →
  ifB (ltI i ((s.size : Nat) : Int))
  (∃ b : UInt8, (0 ≤ i ∧ s[Int.toNat i]? = some b) ∧ InI64 ((b.toNat : Nat) : Int) ∧ (CallsP Try.prog 74 #[(.int .i64 ((b.toNat : Nat) : Int))] g1 fun v g2 =>
  ∃ x0 : Bool, ∃ x1 : Int, v = (.agg ⟨[(.bool x0), (.int .i64 x1)]⟩) ∧ ∀ g3 : G, NewL g2 g3 41 [(.bool x0), (.int .i64 x1)] →
  ∃ outa_1 : Option Addr, ∃ outl_1 : Nat, ∃ outc_1 : Nat, ∃ wo1 : World, Sem.run Try.prog (Builtin.append_ #[22, 22] 22 #[(.slice outa outl outc), (.slice (some ⟨g2.w.heap.size, 0, none⟩) 1 1)]) g3.w = .ok (.slice outa_1 outl_1 outc_1) wo1 ∧ ∃ g4 : G, g4.w = wo1 ∧ Stp g.w.heap.size nobody g3 g4 ∧ InI64 (i + (1 : Int)) ∧ (∃ m_1 : Nat, m_1 < m ∧ Inv m_1 outa_1 outl_1 outc_1 (i + (1 : Int)) g4)))
  (∀ g5 : G, Ex g1 g5 →
  R (.slice outa outl outc) g5)
theorem F71_eq (s : ByteArray) (g : G) (R : Value → G → Prop) : fnG cfg71 20 [.tmp 2] c71 an71 [(.string s)] g nobody R = F71 s g R := by kernel_rfl
theorem call71 (s : ByteArray) (g : G) (R : Value → G → Prop) (hF : F71 s g R) : CallsG Try.prog 71 #[(.string s)] g nobody R :=
  fn_soundG (c := cfg71) TTok FNSok mixed Try.func71 (show Try.f71.body = some c71 by kernel_rfl) (show Try.f71.ntmps = 20 by kernel_rfl) (show Try.f71.results.toList = [.tmp 2] by kernel_rfl) rfl ((F71_eq s g R).mpr hF)

/- 72 pilaster/pilasterref49.count -/
noncomputable def c72 : Code := match Try.f72.body with
  | some c => c
  | none => .skip
noncomputable def cfg72 : Cfg := ⟨Try.prog, TT, FNS, [3], [(3, 3), (13, 3), (25, 3)], [], TCH, false, false⟩
def an72 : AnnG := (.seq .leaf (.seq (.seq .leaf (.cond (.seq .leaf .leaf) .leaf)) (.seq .leaf (.seq (.seq .leaf (.blk (.loop ⟨[(7, .int .i64), (8, .int .i64)], [], []⟩ (.join ⟨[], [], []⟩ (.seq .leaf (.cond .leaf .leaf)) (.seq (.blk .leaf) .leaf))))) (.seq .leaf .leaf)))))
def F72 (v0 : Int) (v1 : Int) (v2 : ByteArray) (v3a : Option Addr) (v3l : Nat) (v3c : Nat) (v4a : Option Addr) (v4l : Nat) (v4c : Nat) (left : Int) (depth : Int) (g : G) (R : Value → G → Prop) : Prop :=
  ifB (ltI (400 : Int) depth)
  (∀ g1 : G, Ex g g1 →
  R (.int .i64 left) g1)
  (∃ Inv : Nat → Int → Int → G → Prop, (∀ g2 : G, Ex g g2 →
  (∃ m0 : Nat, Inv m0 (1 : Int) (0 : Int) g2)) ∧
  ∀ m : Nat, ∀ n : Int, ∀ i : Int, ∀ g3 : G, Le g g3 → Inv m n i g3 →
  ∀ J : G → Prop,
  (∀ g4 : G, ((0 ≤ i ∧ i < ((v4l : Nat) : Int)) ∧ derefP v4a fun ad => ∃ x0 : Int, ∃ x1 : Int, ∃ x2 : ByteArray, ∃ x3a : Option Addr, ∃ x3l : Nat, ∃ x3c : Nat, ∃ x4a : Option Addr, ∃ x4l : Nat, ∃ x4c : Nat, g4.w.cell? (Addr.add ad (Int.toNat i * 5)) = some (.int .i64 x0) ∧ g4.w.cell? (Addr.add (Addr.add ad (Int.toNat i * 5)) 1) = some (.int .i64 x1) ∧ g4.w.cell? (Addr.add (Addr.add ad (Int.toNat i * 5)) 2) = some (.string x2) ∧ g4.w.cell? (Addr.add (Addr.add ad (Int.toNat i * 5)) 3) = some (.slice x3a x3l x3c) ∧ g4.w.cell? (Addr.add (Addr.add ad (Int.toNat i * 5)) 4) = some (.slice x4a x4l x4c) ∧ InI64 (left - n) ∧ InI64 (depth + (1 : Int)) ∧ (CallsP Try.prog 72 #[(.agg ⟨[(.int .i64 x0), (.int .i64 x1), (.string x2), (.slice x3a x3l x3c), (.slice x4a x4l x4c)]⟩), (.int .i64 (left - n)), (.int .i64 (depth + (1 : Int)))] g4 fun v g5 =>
  ∃ x : Int, v = (.int .i64 x) ∧ InI64 (n + x) ∧ InI64 (i + (1 : Int)) ∧ (∃ m_1 : Nat, m_1 < m ∧ Inv m_1 (n + x) (i + (1 : Int)) g5))) → J g4) →
  ifB (ltI i ((v4l : Nat) : Int))
  (ifB (ltI n left)
  (J g3)
  (∀ g6 : G, Ex g3 g6 →
  R (.int .i64 n) g6))
  (∀ g7 : G, Ex g3 g7 →
  R (.int .i64 n) g7))
theorem F72_eq (v0 : Int) (v1 : Int) (v2 : ByteArray) (v3a : Option Addr) (v3l : Nat) (v3c : Nat) (v4a : Option Addr) (v4l : Nat) (v4c : Nat) (left : Int) (depth : Int) (g : G) (R : Value → G → Prop) : fnG cfg72 38 [.tmp 6] c72 an72 [(.agg ⟨[(.int .i64 v0), (.int .i64 v1), (.string v2), (.slice v3a v3l v3c), (.slice v4a v4l v4c)]⟩), (.int .i64 left), (.int .i64 depth)] g nobody R = F72 v0 v1 v2 v3a v3l v3c v4a v4l v4c left depth g R := by kernel_rfl
theorem call72 (v0 : Int) (v1 : Int) (v2 : ByteArray) (v3a : Option Addr) (v3l : Nat) (v3c : Nat) (v4a : Option Addr) (v4l : Nat) (v4c : Nat) (left : Int) (depth : Int) (g : G) (R : Value → G → Prop) (hF : F72 v0 v1 v2 v3a v3l v3c v4a v4l v4c left depth g R) : CallsG Try.prog 72 #[(.agg ⟨[(.int .i64 v0), (.int .i64 v1), (.string v2), (.slice v3a v3l v3c), (.slice v4a v4l v4c)]⟩), (.int .i64 left), (.int .i64 depth)] g nobody R :=
  fn_soundG (c := cfg72) TTok FNSok mixed Try.func72 (show Try.f72.body = some c72 by kernel_rfl) (show Try.f72.ntmps = 38 by kernel_rfl) (show Try.f72.results.toList = [.tmp 6] by kernel_rfl) rfl ((F72_eq v0 v1 v2 v3a v3l v3c v4a v4l v4c left depth g R).mpr hF)

/- 73 pilaster/pilasterref49.data -/
noncomputable def c73 : Code := match Try.f73.body with
  | some c => c
  | none => .skip
noncomputable def cfg73 : Cfg := ⟨Try.prog, TT, FNS, [1], [(1, 1), (5, 1), (9, 1), (15, 1), (20, 1), (25, 1), (34, 1), (39, 1), (45, 1), (54, 1), (59, 1), (64, 1), (73, 1), (78, 1), (83, 1), (89, 1), (98, 1)], [], TCH, false, false⟩
def an73 : AnnG := (.seq .leaf (.seq .leaf (.join ⟨[(3, .bool)], [], []⟩ (.seq .leaf (.blk (.seq .leaf (.cond (.seq .leaf .leaf) (.seq .leaf (.cond (.seq .leaf .leaf) (.seq .leaf (.cond .leaf (.seq .leaf (.cond .leaf (.seq .leaf .leaf))))))))))) (.seq (.seq .leaf (.blk (.loop ⟨[(3, .bool), (4, .int .i64)], [], []⟩ (.join ⟨[], [], []⟩ (.seq .leaf (.cond .leaf .leaf)) (.seq (.blk .leaf) .leaf))))) (.seq .leaf .leaf)))))
def F73 (v0 : Int) (v1 : Int) (v2 : ByteArray) (v3a : Option Addr) (v3l : Nat) (v3c : Nat) (v4a : Option Addr) (v4l : Nat) (v4c : Nat) (g : G) (R : Value → G → Prop) : Prop :=
  ∀ J : Bool → G → Prop,
  (∀ ok : Bool, ∀ g1 : G, (∃ Inv : Nat → Bool → Int → G → Prop, ((∃ m0 : Nat, Inv m0 ok (0 : Int) g1)) ∧
  ∀ m : Nat, ∀ ok_1 : Bool, ∀ i : Int, ∀ g2 : G, Le g1 g2 → Inv m ok_1 i g2 →
  ∀ J_1 : G → Prop,
  (∀ g3 : G, ((0 ≤ i ∧ i < ((v4l : Nat) : Int)) ∧ derefP v4a fun ad => ∃ x0 : Int, ∃ x1 : Int, ∃ x2 : ByteArray, ∃ x3a : Option Addr, ∃ x3l : Nat, ∃ x3c : Nat, ∃ x4a : Option Addr, ∃ x4l : Nat, ∃ x4c : Nat, g3.w.cell? (Addr.add ad (Int.toNat i * 5)) = some (.int .i64 x0) ∧ g3.w.cell? (Addr.add (Addr.add ad (Int.toNat i * 5)) 1) = some (.int .i64 x1) ∧ g3.w.cell? (Addr.add (Addr.add ad (Int.toNat i * 5)) 2) = some (.string x2) ∧ g3.w.cell? (Addr.add (Addr.add ad (Int.toNat i * 5)) 3) = some (.slice x3a x3l x3c) ∧ g3.w.cell? (Addr.add (Addr.add ad (Int.toNat i * 5)) 4) = some (.slice x4a x4l x4c) ∧ (CallsP Try.prog 73 #[(.agg ⟨[(.int .i64 x0), (.int .i64 x1), (.string x2), (.slice x3a x3l x3c), (.slice x4a x4l x4c)]⟩)] g3 fun v g4 =>
  ∃ ok_2 : Bool, v = (.bool ok_2) ∧ InI64 (i + (1 : Int)) ∧ (∃ m_1 : Nat, m_1 < m ∧ Inv m_1 ok_2 (i + (1 : Int)) g4))) → J_1 g3) →
  ifB (ltI i ((v4l : Nat) : Int))
  (ifB ok_1
  (J_1 g2)
  (∀ g5 : G, Ex g2 g5 →
  R (.bool ok_1) g5))
  (∀ g6 : G, Ex g2 g6 →
  R (.bool ok_1) g6)) → J ok g1) →
  ifB (eqI v0 (1 : Int))
  (ifB (eqI ((v3l : Nat) : Int) (0 : Int))
  (∀ g7 : G, Ex g g7 →
  (CallsP Try.prog 95 #[(.int .i64 v1)] g7 fun v g8 =>
  ∃ x : Bool, v = (.bool x) ∧ ifB x
  (ifB (strEq v2 (bs []))
  (∀ g9 : G, Ex g8 g9 →
  R (.bool (eqI ((v4l : Nat) : Int) (0 : Int))) g9)
  (∀ g10 : G, Ex g8 g10 →
  R (.bool false) g10))
  (∀ g11 : G, Ex g8 g11 →
  R (.bool false) g11)))
  (∀ g12 : G, Ex g g12 →
  R (.bool false) g12))
  (ifB (eqI v0 (2 : Int))
  (ifB (eqI ((v3l : Nat) : Int) (0 : Int))
  (ifB (eqI v1 (0 : Int))
  (ifB (leI ((v2.size : Nat) : Int) (16384 : Int))
  (∀ g13 : G, Ex g g13 →
  R (.bool (eqI ((v4l : Nat) : Int) (0 : Int))) g13)
  (∀ g14 : G, Ex g g14 →
  R (.bool false) g14))
  (∀ g15 : G, Ex g g15 →
  R (.bool false) g15))
  (∀ g16 : G, Ex g g16 →
  R (.bool false) g16))
  (ifB (eqI v0 (3 : Int))
  (ifB (eqI ((v3l : Nat) : Int) (0 : Int))
  (ifB (eqI v1 (0 : Int))
  (ifB (strEq v2 (bs []))
  (∀ g17 : G, Ex g g17 →
  J (leI ((v4l : Nat) : Int) (1000 : Int)) g17)
  (∀ g18 : G, Ex g g18 →
  J false g18))
  (∀ g19 : G, Ex g g19 →
  J false g19))
  (∀ g20 : G, Ex g g20 →
  J false g20))
  (ifB (eqI v0 (4 : Int))
  (ifB (eqI ((v3l : Nat) : Int) (0 : Int))
  (∀ g21 : G, Ex g g21 →
  (CallsP Try.prog 61 #[(.int .i64 v1), (.int .i64 (0 : Int)), (.int .i64 (1000 : Int))] g21 fun v g22 =>
  ∃ x_1 : Bool, v = (.bool x_1) ∧ ifB x_1
  (ifB (strEq v2 (bs []))
  (J (eqI ((v4l : Nat) : Int) (1 : Int)) g22)
  (J false g22))
  (J false g22)))
  (∀ g23 : G, Ex g g23 →
  J false g23))
  (∀ g24 : G, Ex g g24 →
  R (.bool false) g24))))
theorem F73_eq (v0 : Int) (v1 : Int) (v2 : ByteArray) (v3a : Option Addr) (v3l : Nat) (v3c : Nat) (v4a : Option Addr) (v4l : Nat) (v4c : Nat) (g : G) (R : Value → G → Prop) : fnG cfg73 105 [.tmp 2] c73 an73 [(.agg ⟨[(.int .i64 v0), (.int .i64 v1), (.string v2), (.slice v3a v3l v3c), (.slice v4a v4l v4c)]⟩)] g nobody R = F73 v0 v1 v2 v3a v3l v3c v4a v4l v4c g R := by kernel_rfl
theorem call73 (v0 : Int) (v1 : Int) (v2 : ByteArray) (v3a : Option Addr) (v3l : Nat) (v3c : Nat) (v4a : Option Addr) (v4l : Nat) (v4c : Nat) (g : G) (R : Value → G → Prop) (hF : F73 v0 v1 v2 v3a v3l v3c v4a v4l v4c g R) : CallsG Try.prog 73 #[(.agg ⟨[(.int .i64 v0), (.int .i64 v1), (.string v2), (.slice v3a v3l v3c), (.slice v4a v4l v4c)]⟩)] g nobody R :=
  fn_soundG (c := cfg73) TTok FNSok mixed Try.func73 (show Try.f73.body = some c73 by kernel_rfl) (show Try.f73.ntmps = 105 by kernel_rfl) (show Try.f73.results.toList = [.tmp 2] by kernel_rfl) rfl ((F73_eq v0 v1 v2 v3a v3l v3c v4a v4l v4c g R).mpr hF)

/- 74 pilaster/pilasterref49.number -/
noncomputable def c74 : Code := match Try.f74.body with
  | some c => c
  | none => .skip
noncomputable def cfg74 : Cfg := ⟨Try.prog, TT, FNS, [2], [(2, 2)], [], TCH, false, false⟩
def an74 : AnnG := (.seq .leaf (.seq .leaf .leaf))
def F74 (n : Int) (g : G) (R : Value → G → Prop) : Prop :=
  ∀ g1 : G, Ex g g1 →
  ∀ g2 : G, Ex g1 g2 →
  R (.agg ⟨[(.bool false), (.int .i64 n)]⟩) g2
theorem F74_eq (n : Int) (g : G) (R : Value → G → Prop) : fnG cfg74 5 [.cell 2 41] c74 an74 [(.int .i64 n)] g nobody R = F74 n g R := by kernel_rfl
theorem call74 (n : Int) (g : G) (R : Value → G → Prop) (hF : F74 n g R) : CallsG Try.prog 74 #[(.int .i64 n)] g nobody R :=
  fn_soundG (c := cfg74) TTok FNSok mixed Try.func74 (show Try.f74.body = some c74 by kernel_rfl) (show Try.f74.ntmps = 5 by kernel_rfl) (show Try.f74.results.toList = [.cell 2 41] by kernel_rfl) rfl ((F74_eq n g R).mpr hF)

/- 75 pilaster/heap.right -/
noncomputable def c75 : Code := match Try.f75.body with
  | some c => c
  | none => .skip
noncomputable def cfg75 : Cfg := ⟨Try.prog, TT, FNS, [], [], [], TCH, false, false⟩
def an75 : AnnG := (.seq .leaf (.seq (.seq .leaf (.cond (.seq .leaf .leaf) .leaf)) (.seq (.seq .leaf (.blk (.seq .leaf (.cond (.seq .leaf .leaf) (.seq .leaf (.cond (.seq .leaf .leaf) (.seq .leaf (.cond (.seq .leaf .leaf) .leaf)))))))) (.seq .leaf .leaf))))
def F75 (kind : Int) (n : Int) (la : Option Addr) (ll : Nat) (lc : Nat) (g : G) (R : Value → G → Prop) : Prop :=
  (CallsP Try.prog 59 #[(.int .i64 kind), (.int .i64 ((ll : Nat) : Int))] g fun v g1 =>
  ∃ x : Bool, v = (.bool x) ∧ ifB (!x)
  (∀ g2 : G, Ex g1 g2 →
  R (.bool false) g2)
  (ifB (eqI kind (1 : Int))
  (∀ g3 : G, Ex g1 g3 →
  R (.bool (eqI n (0 : Int))) g3)
  (ifB (eqI kind (2 : Int))
  (ifB (leI (0 : Int) n)
  (∀ g4 : G, Ex g1 g4 →
  R (.bool (leI n (1000 : Int))) g4)
  (∀ g5 : G, Ex g1 g5 →
  R (.bool false) g5))
  (ifB (eqI kind (3 : Int))
  (ifB (leI (0 : Int) n)
  (∀ g6 : G, Ex g1 g6 →
  R (.bool (leI n (4096 : Int))) g6)
  (∀ g7 : G, Ex g1 g7 →
  R (.bool false) g7))
  (ifB (eqI n ((ll : Nat) : Int))
  ((CallsP Try.prog 76 #[(.slice la ll lc), (.func (.func 102) #[] #[])] g1 fun v g8 =>
  ∃ x_1 : Bool, v = (.bool x_1) ∧ ∀ g9 : G, Ex g8 g9 →
  R (.bool (!x_1)) g9))
  (∀ g10 : G, Ex g1 g10 →
  R (.bool false) g10))))))
theorem F75_eq (kind : Int) (n : Int) (la : Option Addr) (ll : Nat) (lc : Nat) (g : G) (R : Value → G → Prop) : fnG cfg75 42 [.tmp 6] c75 an75 [(.int .i64 kind), (.int .i64 n), (.slice la ll lc)] g nobody R = F75 kind n la ll lc g R := by kernel_rfl
theorem call75 (kind : Int) (n : Int) (la : Option Addr) (ll : Nat) (lc : Nat) (g : G) (R : Value → G → Prop) (hF : F75 kind n la ll lc g R) : CallsG Try.prog 75 #[(.int .i64 kind), (.int .i64 n), (.slice la ll lc)] g nobody R :=
  fn_soundG (c := cfg75) TTok FNSok mixed Try.func75 (show Try.f75.body = some c75 by kernel_rfl) (show Try.f75.ntmps = 42 by kernel_rfl) (show Try.f75.results.toList = [.tmp 6] by kernel_rfl) rfl ((F75_eq kind n la ll lc g R).mpr hF)

/- 76 slices.ContainsFunc[[]pilaster/api.Word,pilaster/api.Word] -/
noncomputable def c76 : Code := match Try.f76.body with
  | some c => c
  | none => .skip
noncomputable def cfg76 : Cfg := ⟨Try.prog, TT, FNS, [], [], [], TCH, false, false⟩
def an76 : AnnG := (.seq .leaf (.seq .leaf .leaf))
def F76 (sa : Option Addr) (sl : Nat) (sc : Nat) (ff : FuncId) (fc : Array Value) (g : G) (R : Value → G → Prop) : Prop :=
  (CallsP Try.prog 103 #[(.slice sa sl sc), (.func (.func ff) #[] fc)] g fun v g1 =>
  ∃ x : Int, v = (.int .i64 x) ∧ ∀ g2 : G, Ex g1 g2 →
  R (.bool (leI (0 : Int) x)) g2)
theorem F76_eq (sa : Option Addr) (sl : Nat) (sc : Nat) (ff : FuncId) (fc : Array Value) (g : G) (R : Value → G → Prop) : fnG cfg76 9 [.tmp 4] c76 an76 [(.slice sa sl sc), (.func (.func ff) #[] fc)] g nobody R = F76 sa sl sc ff fc g R := by kernel_rfl
theorem call76 (sa : Option Addr) (sl : Nat) (sc : Nat) (ff : FuncId) (fc : Array Value) (g : G) (R : Value → G → Prop) (hF : F76 sa sl sc ff fc g R) : CallsG Try.prog 76 #[(.slice sa sl sc), (.func (.func ff) #[] fc)] g nobody R :=
  fn_soundG (c := cfg76) TTok FNSok mixed Try.func76 (show Try.f76.body = some c76 by kernel_rfl) (show Try.f76.ntmps = 9 by kernel_rfl) (show Try.f76.results.toList = [.tmp 4] by kernel_rfl) rfl ((F76_eq sa sl sc ff fc g R).mpr hF)

/- 77 pilaster/heap.Alloc$1 -/
noncomputable def c77 : Code := match Try.f77.body with
  | some c => c
  | none => .skip
noncomputable def cfg77 : Cfg := ⟨Try.prog, TT, FNS, [2], [(2, 2)], [], TCH, false, false⟩
def an77 : AnnG := (.seq .leaf (.seq .leaf .leaf))
def F77 (w0 : Bool) (w1 : Int) (c0 : Option Addr) (g : G) (R : Value → G → Prop) : Prop :=
  ∀ g1 : G, Ex g g1 →
  derefP c0 fun ad => ∃ xa : Option Addr, ∃ xl : Nat, ∃ xc : Nat, g1.w.cell? ad = some (.slice xa xl xc) ∧ (CallsP Try.prog 78 #[(.slice xa xl xc), (.agg ⟨[(.bool w0), (.int .i64 w1)]⟩)] g1 fun v g2 =>
  ∃ x : Bool, v = (.bool x) ∧ ∀ g3 : G, Ex g2 g3 →
  R (.bool (!x)) g3)
theorem F77_eq (w0 : Bool) (w1 : Int) (c0 : Option Addr) (g : G) (R : Value → G → Prop) : fnG cfg77 8 [.tmp 3] c77 an77 [(.agg ⟨[(.bool w0), (.int .i64 w1)]⟩), (.pointer c0)] g nobody R = F77 w0 w1 c0 g R := by kernel_rfl
theorem call77 (w0 : Bool) (w1 : Int) (c0 : Option Addr) (g : G) (R : Value → G → Prop) (hF : F77 w0 w1 c0 g R) : CallsG Try.prog 77 #[(.agg ⟨[(.bool w0), (.int .i64 w1)]⟩), (.pointer c0)] g nobody R :=
  fn_soundG (c := cfg77) TTok FNSok mixed Try.func77 (show Try.f77.body = some c77 by kernel_rfl) (show Try.f77.ntmps = 8 by kernel_rfl) (show Try.f77.results.toList = [.tmp 3] by kernel_rfl) rfl ((F77_eq w0 w1 c0 g R).mpr hF)

/- 78 pilaster/heap.fits -/
noncomputable def c78 : Code := match Try.f78.body with
  | some c => c
  | none => .skip
noncomputable def cfg78 : Cfg := ⟨Try.prog, TT, FNS, [3], [(3, 3), (7, 3), (10, 3), (15, 3)], [], TCH, false, false⟩
def an78 : AnnG := (.seq .leaf (.seq (.seq .leaf (.cond (.seq .leaf .leaf) .leaf)) (.seq .leaf (.seq .leaf .leaf))))
def F78 (la : Option Addr) (ll : Nat) (lc : Nat) (w0 : Bool) (w1 : Int) (g : G) (R : Value → G → Prop) : Prop :=
  ifB (!w0)
  (∀ g1 : G, Ex g g1 →
  (CallsP Try.prog 99 #[(.int .i64 w1)] g1 fun v g2 =>
  ∃ x : Bool, v = (.bool x) ∧ ∀ g3 : G, Ex g2 g3 →
  R (.bool x) g3))
  (∀ g4 : G, Ex g g4 →
  (CallsP Try.prog 104 #[(.slice la ll lc), (.int .i64 w1)] g4 fun v g5 =>
  ∃ x0 : Int, ∃ x1 : Bool, v = (.tuple ⟨[(.int .i64 x0), (.bool x1)]⟩) ∧ ∀ g6 : G, Ex g5 g6 →
  R (.bool x1) g6))
theorem F78_eq (la : Option Addr) (ll : Nat) (lc : Nat) (w0 : Bool) (w1 : Int) (g : G) (R : Value → G → Prop) : fnG cfg78 21 [.tmp 4] c78 an78 [(.slice la ll lc), (.agg ⟨[(.bool w0), (.int .i64 w1)]⟩)] g nobody R = F78 la ll lc w0 w1 g R := by kernel_rfl
theorem call78 (la : Option Addr) (ll : Nat) (lc : Nat) (w0 : Bool) (w1 : Int) (g : G) (R : Value → G → Prop) (hF : F78 la ll lc w0 w1 g R) : CallsG Try.prog 78 #[(.slice la ll lc), (.agg ⟨[(.bool w0), (.int .i64 w1)]⟩)] g nobody R :=
  fn_soundG (c := cfg78) TTok FNSok mixed Try.func78 (show Try.f78.body = some c78 by kernel_rfl) (show Try.f78.ntmps = 21 by kernel_rfl) (show Try.f78.results.toList = [.tmp 4] by kernel_rfl) rfl ((F78_eq la ll lc w0 w1 g R).mpr hF)

/- 79 pilaster/pilasterref49.Right -/
noncomputable def c79 : Code := match Try.f79.body with
  | some c => c
  | none => .skip
noncomputable def cfg79 : Cfg := ⟨Try.prog, TT, FNS, [], [], [], TCH, false, false⟩
def an79 : AnnG := (.seq .leaf (.seq (.seq .leaf (.blk (.seq .leaf (.cond (.seq .leaf .leaf) (.seq .leaf (.cond (.seq .leaf .leaf) (.seq .leaf (.cond (.seq .leaf .leaf) (.seq .leaf (.cond (.seq (.seq .leaf (.blk (.loop ⟨[(7, .int .i64)], [], []⟩ (.seq (.seq .leaf (.cond .leaf .leaf)) (.seq (.blk (.seq .leaf (.cond (.seq .leaf .leaf) .leaf))) .leaf))))) (.seq .leaf .leaf)) .leaf)))))))))) (.seq .leaf .leaf)))
def F79 (kind : Int) (n : Int) (la : Option Addr) (ll : Nat) (lc : Nat) (g : G) (R : Value → G → Prop) : Prop :=
  ifB (eqI kind (1 : Int))
  (ifB (eqI n (0 : Int))
  (∀ g1 : G, Ex g g1 →
  R (.bool (leI ((ll : Nat) : Int) (1000 : Int))) g1)
  (∀ g2 : G, Ex g g2 →
  R (.bool false) g2))
  (ifB (eqI kind (2 : Int))
  ((CallsP Try.prog 61 #[(.int .i64 n), (.int .i64 (0 : Int)), (.int .i64 (1000 : Int))] g fun v g3 =>
  ∃ x : Bool, v = (.bool x) ∧ ifB x
  (∀ g4 : G, Ex g3 g4 →
  R (.bool (eqI ((ll : Nat) : Int) (1 : Int))) g4)
  (∀ g5 : G, Ex g3 g5 →
  R (.bool false) g5)))
  (ifB (eqI kind (3 : Int))
  ((CallsP Try.prog 61 #[(.int .i64 n), (.int .i64 (0 : Int)), (.int .i64 (4096 : Int))] g fun v g6 =>
  ∃ x_1 : Bool, v = (.bool x_1) ∧ ifB x_1
  (∀ g7 : G, Ex g6 g7 →
  R (.bool (leI ((ll : Nat) : Int) (1000 : Int))) g7)
  (∀ g8 : G, Ex g6 g8 →
  R (.bool false) g8)))
  (ifB (eqI kind (4 : Int))
  (∃ Inv : Nat → Int → G → Prop, ((∃ m0 : Nat, Inv m0 (0 : Int) g)) ∧
  ∀ m : Nat, ∀ i : Int, ∀ g9 : G, Le g g9 → Inv m i g9 →
  ifB (ltI i ((ll : Nat) : Int))
  ((0 ≤ i ∧ i < ((ll : Nat) : Int)) ∧ derefP la fun ad => ∃ x_2 : Bool, g9.w.cell? (Addr.add ad (Int.toNat i * 2)) = some (.bool x_2) ∧ ifB x_2
  (∀ g10 : G, Ex g9 g10 →
  R (.bool false) g10)
  ((0 ≤ i ∧ i < ((ll : Nat) : Int)) ∧ derefP la fun ad_1 => ∃ x_3 : Int, g9.w.cell? (Addr.add (Addr.add ad_1 (Int.toNat i * 2)) 1) = some (.int .i64 x_3) ∧ (CallsP Try.prog 61 #[(.int .i64 x_3), (.int .i64 (0 : Int)), (.int .i64 (255 : Int))] g9 fun v g11 =>
  ∃ x_4 : Bool, v = (.bool x_4) ∧ ifB (!x_4)
  (∀ g12 : G, Ex g11 g12 →
  R (.bool false) g12)
  (InI64 (i + (1 : Int)) ∧ (∃ m_1 : Nat, m_1 < m ∧ Inv m_1 (i + (1 : Int)) g11)))))
  (ifB (eqI n ((ll : Nat) : Int))
  (∀ g13 : G, Ex g9 g13 →
  R (.bool (leI n (16384 : Int))) g13)
  (∀ g14 : G, Ex g9 g14 →
  R (.bool false) g14)))
  (∀ g15 : G, Ex g g15 →
  R (.bool false) g15))))
theorem F79_eq (kind : Int) (n : Int) (la : Option Addr) (ll : Nat) (lc : Nat) (g : G) (R : Value → G → Prop) : fnG cfg79 66 [.tmp 6] c79 an79 [(.int .i64 kind), (.int .i64 n), (.slice la ll lc)] g nobody R = F79 kind n la ll lc g R := by kernel_rfl
theorem call79 (kind : Int) (n : Int) (la : Option Addr) (ll : Nat) (lc : Nat) (g : G) (R : Value → G → Prop) (hF : F79 kind n la ll lc g R) : CallsG Try.prog 79 #[(.int .i64 kind), (.int .i64 n), (.slice la ll lc)] g nobody R :=
  fn_soundG (c := cfg79) TTok FNSok mixed Try.func79 (show Try.f79.body = some c79 by kernel_rfl) (show Try.f79.ntmps = 66 by kernel_rfl) (show Try.f79.results.toList = [.tmp 6] by kernel_rfl) rfl ((F79_eq kind n la ll lc g R).mpr hF)

/- 80 pilaster/heap.contents -/
noncomputable def c80 : Code := match Try.f80.body with
  | some c => c
  | none => .skip
noncomputable def cfg80 : Cfg := ⟨Try.prog, TT, FNS, [2], [(2, 2), (5, 2), (11, 2)], [], TCH, false, false⟩
def an80 : AnnG := (.seq .leaf (.seq (.tree 14 (.quiet 0 (.quiet 1 (.quiet 2 (.quiet 3 (.quiet 4 (.quiet 5 (.quiet 6 (.quiet 7 (.quiet 8 (.quiet 9 (.quiet 10 (.quiet 11 (.quiet 12 (.quiet 13 .fin))))))))))))))) .leaf))
def F80 (h0a : Option Addr) (h0l : Nat) (h0c : Nat) (h1 : Int) (h2 : Int) (at0 : Int) (g : G) (R : Value → G → Prop) : Prop :=
  ∀ g1 : G, Ex g g1 →
  InI64 (at0 + (3 : Int)) ∧ InI64 (at0 + (3 : Int)) ∧ InI64 (at0 + (2 : Int)) ∧ (0 ≤ (at0 + (2 : Int)) ∧ (at0 + (2 : Int)) < ((h0l : Nat) : Int)) ∧ derefP h0a fun ad => ∃ x : Int, g1.w.cell? (Addr.add (Addr.add ad (Int.toNat (at0 + (2 : Int)) * 2)) 1) = some (.int .i64 x) ∧ InI64 ((at0 + (3 : Int)) + x) ∧ (0 ≤ ((at0 + (3 : Int)) + x) ∧ ((at0 + (3 : Int)) + x) ≤ ((h0c : Nat) : Int)) ∧ (0 ≤ (at0 + (3 : Int)) ∧ (at0 + (3 : Int)) ≤ (((Int.toNat ((at0 + (3 : Int)) + x)) : Nat) : Int)) ∧ ∀ g2 : G, Ex g1 g2 →
  R (.slice (slAddr h0a h0c (Int.toNat (at0 + (3 : Int))) 2) ((Int.toNat ((at0 + (3 : Int)) + x)) - (Int.toNat (at0 + (3 : Int)))) (h0c - (Int.toNat (at0 + (3 : Int))))) g2
theorem F80_eq (h0a : Option Addr) (h0l : Nat) (h0c : Nat) (h1 : Int) (h2 : Int) (at0 : Int) (g : G) (R : Value → G → Prop) : fnG cfg80 20 [.tmp 4] c80 an80 [(.agg ⟨[(.slice h0a h0l h0c), (.int .i64 h1), (.int .i64 h2)]⟩), (.int .i64 at0)] g nobody R = F80 h0a h0l h0c h1 h2 at0 g R := by kernel_rfl
theorem call80 (h0a : Option Addr) (h0l : Nat) (h0c : Nat) (h1 : Int) (h2 : Int) (at0 : Int) (g : G) (R : Value → G → Prop) (hF : F80 h0a h0l h0c h1 h2 at0 g R) : CallsG Try.prog 80 #[(.agg ⟨[(.slice h0a h0l h0c), (.int .i64 h1), (.int .i64 h2)]⟩), (.int .i64 at0)] g nobody R :=
  fn_soundG (c := cfg80) TTok FNSok mixed Try.func80 (show Try.f80.body = some c80 by kernel_rfl) (show Try.f80.ntmps = 20 by kernel_rfl) (show Try.f80.results.toList = [.tmp 4] by kernel_rfl) rfl ((F80_eq h0a h0l h0c h1 h2 at0 g R).mpr hF)

/- 81 pilaster/pilasterref49.Has -/
noncomputable def c81 : Code := match Try.f81.body with
  | some c => c
  | none => .skip
noncomputable def cfg81 : Cfg := ⟨Try.prog, TT, FNS, [], [], [], TCH, false, false⟩
def an81 : AnnG := (.seq .leaf (.seq .leaf (.seq (.blk (.loop ⟨[(5, .int .i64), (6, .int .i64)], [], []⟩ (.seq (.seq .leaf (.cond .leaf .leaf)) (.blk (.seq .leaf (.seq .leaf (.cond .leaf .leaf))))))) (.seq .leaf .leaf))))
def F81 (la : Option Addr) (ll : Nat) (lc : Nat) (n : Int) (g : G) (R : Value → G → Prop) : Prop :=
  ∃ Inv : Nat → Int → Int → G → Prop, ((∃ m0 : Nat, Inv m0 (0 : Int) ((ll : Nat) : Int) g)) ∧
  ∀ m : Nat, ∀ low : Int, ∀ high : Int, ∀ g1 : G, Le g g1 → Inv m low high g1 →
  ifB (ltI low high)
  (InI64 (low + high) ∧ (2 : Int) ≠ 0 ∧ InI64 (Int.tdiv (low + high) (2 : Int)) ∧ (0 ≤ (Int.tdiv (low + high) (2 : Int)) ∧ (Int.tdiv (low + high) (2 : Int)) < ((ll : Nat) : Int)) ∧ derefP la fun ad => ∃ x : Int, g1.w.cell? (Addr.add ad (Int.toNat (Int.tdiv (low + high) (2 : Int)) * 1)) = some (.int .i64 x) ∧ ifB (ltI x n)
  (InI64 ((Int.tdiv (low + high) (2 : Int)) + (1 : Int)) ∧ (∃ m_1 : Nat, m_1 < m ∧ Inv m_1 ((Int.tdiv (low + high) (2 : Int)) + (1 : Int)) high g1))
  ((∃ m_1 : Nat, m_1 < m ∧ Inv m_1 low (Int.tdiv (low + high) (2 : Int)) g1)))
  (ifB (ltI low ((ll : Nat) : Int))
  ((0 ≤ low ∧ low < ((ll : Nat) : Int)) ∧ derefP la fun ad_1 => ∃ x_1 : Int, g1.w.cell? (Addr.add ad_1 (Int.toNat low * 1)) = some (.int .i64 x_1) ∧ ∀ g2 : G, Ex g1 g2 →
  R (.bool (eqI x_1 n)) g2)
  (∀ g3 : G, Ex g1 g3 →
  R (.bool false) g3))
theorem F81_eq (la : Option Addr) (ll : Nat) (lc : Nat) (n : Int) (g : G) (R : Value → G → Prop) : fnG cfg81 38 [.tmp 4] c81 an81 [(.slice la ll lc), (.int .i64 n)] g nobody R = F81 la ll lc n g R := by kernel_rfl
theorem call81 (la : Option Addr) (ll : Nat) (lc : Nat) (n : Int) (g : G) (R : Value → G → Prop) (hF : F81 la ll lc n g R) : CallsG Try.prog 81 #[(.slice la ll lc), (.int .i64 n)] g nobody R :=
  fn_soundG (c := cfg81) TTok FNSok mixed Try.func81 (show Try.f81.body = some c81 by kernel_rfl) (show Try.f81.ntmps = 38 by kernel_rfl) (show Try.f81.results.toList = [.tmp 4] by kernel_rfl) rfl ((F81_eq la ll lc n g R).mpr hF)

/- 82 pilaster/pilasterlaw50.example -/
noncomputable def c82 : Code := match Try.f82.body with
  | some c => c
  | none => .skip
noncomputable def cfg82 : Cfg := ⟨Try.prog, TT, FNS, [0, 1, 2, 3, 5], [(0, 0), (1, 1), (2, 2), (3, 3), (5, 5)], [], TCH, false, false⟩
def an82 : AnnG := (.seq .leaf (.seq .leaf (.seq .leaf (.seq .leaf (.seq .leaf (.seq (.treeP false [0, 1] 3 (.quiet 0 (.quiet 1 (.eff 2 .fin .fin)))) .leaf))))))
def F82 (g : G) (R : Value → G → Prop) : Prop :=
  ∀ g1 : G, Ex g g1 →
  ∀ g2 : G, Ex g1 g2 →
  (CallsP Try.prog 25 #[(.agg ⟨[(.slice none 0 0), (.int .i64 (0 : Int)), (.int .i64 (100 : Int))]⟩), (.string (bs [97]))] g2 fun v g3 =>
  ∃ x00a : Option Addr, ∃ x00l : Nat, ∃ x00c : Nat, ∃ x01 : Int, ∃ x02 : Int, ∃ x10 : Bool, ∃ x11 : Int, ∃ x2 : Int, v = (.tuple ⟨[(.agg ⟨[(.slice x00a x00l x00c), (.int .i64 x01), (.int .i64 x02)]⟩), (.agg ⟨[(.bool x10), (.int .i64 x11)]⟩), (.int .i64 x2)]⟩) ∧ ∀ g4 : G, Ex g3 g4 →
  (CallsP Try.prog 25 #[(.agg ⟨[(.slice x00a x00l x00c), (.int .i64 x01), (.int .i64 x02)]⟩), (.string (bs [98]))] g4 fun v g5 =>
  ∃ x00a_1 : Option Addr, ∃ x00l_1 : Nat, ∃ x00c_1 : Nat, ∃ x01_1 : Int, ∃ x02_1 : Int, ∃ x10_1 : Bool, ∃ x11_1 : Int, ∃ x2_1 : Int, v = (.tuple ⟨[(.agg ⟨[(.slice x00a_1 x00l_1 x00c_1), (.int .i64 x01_1), (.int .i64 x02_1)]⟩), (.agg ⟨[(.bool x10_1), (.int .i64 x11_1)]⟩), (.int .i64 x2_1)]⟩) ∧ ∀ g6 : G, Ex g5 g6 →
  ∀ g7 : G, NewL g6 g7 41 [(.bool x10_1), (.int .i64 x11_1), (.bool x10_1), (.int .i64 x11_1)] →
  (CallsP Try.prog 30 #[(.agg ⟨[(.slice x00a_1 x00l_1 x00c_1), (.int .i64 x01_1), (.int .i64 x02_1)]⟩), (.int .i64 (1 : Int)), (.int .i64 (0 : Int)), (.slice (some ⟨g6.w.heap.size, 0, none⟩) 2 2)] g7 fun v g8 =>
  ∃ x00a_2 : Option Addr, ∃ x00l_2 : Nat, ∃ x00c_2 : Nat, ∃ x01_2 : Int, ∃ x02_2 : Int, ∃ x10_2 : Bool, ∃ x11_2 : Int, ∃ x2_2 : Int, v = (.tuple ⟨[(.agg ⟨[(.slice x00a_2 x00l_2 x00c_2), (.int .i64 x01_2), (.int .i64 x02_2)]⟩), (.agg ⟨[(.bool x10_2), (.int .i64 x11_2)]⟩), (.int .i64 x2_2)]⟩) ∧ ∀ g9 : G, Ex g8 g9 →
  ∀ g10 : G, Ex g9 g10 →
  R (.tuple ⟨[(.agg ⟨[(.slice x00a_2 x00l_2 x00c_2), (.int .i64 x01_2), (.int .i64 x02_2)]⟩), (.agg ⟨[(.bool x10_2), (.int .i64 x11_2)]⟩)]⟩) g10)))
theorem F82_eq (g : G) (R : Value → G → Prop) : fnG cfg82 31 [.cell 0 24, .cell 1 41] c82 an82 [] g nobody R = F82 g R := by kernel_rfl
theorem call82 (g : G) (R : Value → G → Prop) (hF : F82 g R) : CallsG Try.prog 82 #[] g nobody R :=
  fn_soundG (c := cfg82) TTok FNSok mixed Try.func82 (show Try.f82.body = some c82 by kernel_rfl) (show Try.f82.ntmps = 31 by kernel_rfl) (show Try.f82.results.toList = [.cell 0 24, .cell 1 41] by kernel_rfl) rfl ((F82_eq g R).mpr hF)

/- 83 pilaster/collect.check -/
noncomputable def c83 : Code := match Try.f83.body with
  | some c => c
  | none => .skip
noncomputable def cfg83 : Cfg := ⟨Try.prog, TT, FNS, [2], [(2, 2)], [8], TCH, false, false⟩
def an83 : AnnG := (.seq .leaf (.seq .leaf (.seq (.blk (.seq .leaf (.cond (.seq .leaf .leaf) (.seq .leaf (.cond (.seq .leaf .leaf) .leaf))))) (.seq .leaf (.seq (.seq .leaf (.blk (.loop ⟨[(27, .int .i64)], [], []⟩ (.seq .leaf (.seq (.cond .leaf .leaf) (.seq (.blk (.seq .leaf .leaf)) .leaf)))))) (.seq (.seq .leaf (.cond (.seq .leaf .leaf) .leaf)) (.seq .leaf .leaf)))))))
def F83 (h0a : Option Addr) (h0l : Nat) (h0c : Nat) (h1 : Int) (h2 : Int) (la : Option Addr) (ll : Nat) (lc : Nat) (g : G) (R : Value → G → Prop) : Prop :=
  ∀ g1 : G, Ex g g1 →
  (CallsP Try.prog 34 #[(.agg ⟨[(.slice h0a h0l h0c), (.int .i64 h1), (.int .i64 h2)]⟩)] g1 fun v g2 =>
  ∃ x0a : Option Addr, ∃ x0l : Nat, ∃ x0c : Nat, ∃ x1 : Int, v = (.tuple ⟨[(.slice x0a x0l x0c), (.int .i64 x1)]⟩) ∧ ifB (!eqI x1 (0 : Int))
  (∀ g3 : G, Ex g2 g3 →
  R (.tuple ⟨[(.map none), (.int .i64 x1)]⟩) g3)
  (ifB (ltI (65536 : Int) ((ll : Nat) : Int))
  (∀ g4 : G, Ex g2 g4 →
  R (.tuple ⟨[(.map none), (.int .i64 (5 : Int))]⟩) g4)
  (∀ g5 : G, NewM g2 g5 →
  ∀ g6 : G, NewD g5 g6 109 [(.map none)] →
  stOk g6.w ⟨g5.w.heap.size, 0, none⟩ 1 ∧ ¬ g6.X (Addr.block ⟨g5.w.heap.size, 0, none⟩) ∧ mutAt g6 ⟨g5.w.heap.size, 0, none⟩ 1 ∧ ((Addr.block ⟨g5.w.heap.size, 0, none⟩) < g.w.heap.size → nobody (Addr.block ⟨g5.w.heap.size, 0, none⟩)) ∧ ∀ g7 : G, StG true g6 ⟨g5.w.heap.size, 0, none⟩ [(.map (some g2.w.heap.size))] g7 →
  ∃ Inv : Nat → Int → G → Prop, ((∃ m0 : Nat, Inv m0 (0 : Int) g7)) ∧
  ∀ m : Nat, ∀ v_1 : Int, ∀ g8 : G, Le g7 g8 → Inv m v_1 g8 →
  ifB (ltI v_1 ((x0l : Nat) : Int))
  ((0 ≤ v_1 ∧ v_1 < ((x0l : Nat) : Int)) ∧ derefP x0a fun ad => ∃ n : Int, g8.w.cell? (Addr.add ad (Int.toNat v_1 * 1)) = some (.int .i64 n) ∧ ∃ starts : Option Nat, g8.w.cell? ⟨g5.w.heap.size, 0, none⟩ = some (.map starts) ∧ ∃ wo1 : World, Sem.run Try.prog (Instr.mapUpdate 109 (.map starts) (.int .i64 n) (.bool true)) g8.w = .ok () wo1 ∧ ∃ g9 : G, g9.w = wo1 ∧ Stp g.w.heap.size nobody g8 g9 ∧ InI64 (v_1 + (1 : Int)) ∧ (∃ m_1 : Nat, m_1 < m ∧ Inv m_1 (v_1 + (1 : Int)) g9))
  ((CallsP Try.prog 76 #[(.slice la ll lc), (.func (.func 105) #[] ⟨[(.pointer (some ⟨g5.w.heap.size, 0, none⟩))]⟩)] g8 fun v g10 =>
  ∃ x : Bool, v = (.bool x) ∧ ifB x
  (∀ g11 : G, Ex g10 g11 →
  R (.tuple ⟨[(.map none), (.int .i64 (2 : Int))]⟩) g11)
  (∃ starts_1 : Option Nat, g10.w.cell? ⟨g5.w.heap.size, 0, none⟩ = some (.map starts_1) ∧ ∀ g12 : G, Ex g10 g12 →
  R (.tuple ⟨[(.map starts_1), (.int .i64 (0 : Int))]⟩) g12))))))
theorem F83_eq (h0a : Option Addr) (h0l : Nat) (h0c : Nat) (h1 : Int) (h2 : Int) (la : Option Addr) (ll : Nat) (lc : Nat) (g : G) (R : Value → G → Prop) : fnG cfg83 38 [.tmp 4, .tmp 5] c83 an83 [(.agg ⟨[(.slice h0a h0l h0c), (.int .i64 h1), (.int .i64 h2)]⟩), (.slice la ll lc)] g nobody R = F83 h0a h0l h0c h1 h2 la ll lc g R := by kernel_rfl
theorem call83 (h0a : Option Addr) (h0l : Nat) (h0c : Nat) (h1 : Int) (h2 : Int) (la : Option Addr) (ll : Nat) (lc : Nat) (g : G) (R : Value → G → Prop) (hF : F83 h0a h0l h0c h1 h2 la ll lc g R) : CallsG Try.prog 83 #[(.agg ⟨[(.slice h0a h0l h0c), (.int .i64 h1), (.int .i64 h2)]⟩), (.slice la ll lc)] g nobody R :=
  fn_soundG (c := cfg83) TTok FNSok mixed Try.func83 (show Try.f83.body = some c83 by kernel_rfl) (show Try.f83.ntmps = 38 by kernel_rfl) (show Try.f83.results.toList = [.tmp 4, .tmp 5] by kernel_rfl) rfl ((F83_eq h0a h0l h0c h1 h2 la ll lc g R).mpr hF)

/- 84 pilaster/collect.collect -/
noncomputable def c84 : Code := match Try.f84.body with
  | some c => c
  | none => .skip
noncomputable def cfg84 : Cfg := ⟨Try.prog, TT, FNS, [2, 9, 13], [(2, 2), (9, 9), (13, 13), (15, 2)], [], TCH, false, false⟩
def an84 : AnnG := (.seq .leaf (.seq .leaf (.seq .leaf (.seq (.seq .leaf (.blk (.loop ⟨[(7, .sl), (23, .int .i64)], [], []⟩ (.seq .leaf (.seq (.cond .leaf .leaf) (.seq (.blk (.seq .leaf .leaf)) .leaf)))))) (.seq (.seq .leaf (.blk (.loop ⟨[(10, .int .i64)], [], []⟩ (.seq (.seq .leaf (.cond .leaf .leaf)) (.blk (.seq .leaf (.seq (.seq .leaf (.blk (.loop ⟨[(12, .int .i64)], [], []⟩ (.seq (.seq .leaf (.cond .leaf .leaf)) (.seq (.blk (.seq .leaf (.tree 7 (.quiet 0 (.quiet 1 (.quiet 2 (.quiet 3 (.quiet 4 (.quiet 5 (.quiet 6 .fin)))))))))) .leaf))))) .leaf))))))) (.seq .leaf (.seq .leaf .leaf)))))))
def F84 (h0a : Option Addr) (h0l : Nat) (h0c : Nat) (h1 : Int) (h2 : Int) (rootsa : Option Addr) (rootsl : Nat) (rootsc : Nat) (g : G) (R : Value → G → Prop) : Prop :=
  ∀ g1 : G, Ex g g1 →
  ∀ g2 : G, NewM g1 g2 →
  ∀ g3 : G, NewD g2 g3 117 ([(.slice h0a h0l h0c), (.int .i64 h1), (.int .i64 h2), (.slice none 0 0), (.int .i64 (0 : Int)), (.int .i64 h2), (.map (some g1.w.heap.size))] : List Value) →
  ∃ Inv : Nat → Option Addr → Nat → Nat → Int → G → Prop, ((∃ m0 : Nat, Inv m0 none 0 0 (0 : Int) g3)) ∧
  ∀ m : Nat, ∀ outa : Option Addr, ∀ outl : Nat, ∀ outc : Nat, ∀ v_1 : Int, ∀ g4 : G, Le g3 g4 → Inv m outa outl outc v_1 g4 →
  ifB (ltI v_1 ((rootsl : Nat) : Int))
  ((0 ≤ v_1 ∧ v_1 < ((rootsl : Nat) : Int)) ∧ derefP rootsa fun ad => ∃ x0 : Bool, ∃ x1 : Int, g4.w.cell? (Addr.add ad (Int.toNat v_1 * 2)) = some (.bool x0) ∧ g4.w.cell? (Addr.add (Addr.add ad (Int.toNat v_1 * 2)) 1) = some (.int .i64 x1) ∧ ∀ g5 : G, Ex g4 g5 →
  (CallsP Try.prog 106 #[(.pointer (some ⟨g2.w.heap.size, 0, none⟩)), (.agg ⟨[(.bool x0), (.int .i64 x1)]⟩)] g5 fun v g6 =>
  ∃ x0_1 : Bool, ∃ x1_1 : Int, v = (.agg ⟨[(.bool x0_1), (.int .i64 x1_1)]⟩) ∧ ∀ g7 : G, NewL g6 g7 41 [(.bool x0_1), (.int .i64 x1_1)] →
  ∃ outa_1 : Option Addr, ∃ outl_1 : Nat, ∃ outc_1 : Nat, ∃ wo1 : World, Sem.run Try.prog (Builtin.append_ #[22, 22] 22 #[(.slice outa outl outc), (.slice (some ⟨g6.w.heap.size, 0, none⟩) 1 1)]) g7.w = .ok (.slice outa_1 outl_1 outc_1) wo1 ∧ ∃ g8 : G, g8.w = wo1 ∧ Stp g.w.heap.size nobody g7 g8 ∧ InI64 (v_1 + (1 : Int)) ∧ (∃ m_1 : Nat, m_1 < m ∧ Inv m_1 outa_1 outl_1 outc_1 (v_1 + (1 : Int)) g8)))
  (∃ Inv_1 : Nat → Int → G → Prop, ((∃ m0 : Nat, Inv_1 m0 (0 : Int) g4)) ∧
  ∀ m_2 : Nat, ∀ at0 : Int, ∀ g9 : G, Le g4 g9 → Inv_1 m_2 at0 g9 →
  ∃ xa : Option Addr, ∃ xl : Nat, ∃ xc : Nat, g9.w.cell? (Addr.add ⟨g2.w.heap.size, 0, none⟩ 3) = some (.slice xa xl xc) ∧ ifB (ltI at0 ((xl : Nat) : Int))
  (∃ x0a : Option Addr, ∃ x0l : Nat, ∃ x0c : Nat, ∃ x1_2 : Int, ∃ x2 : Int, g9.w.cell? (Addr.add ⟨g2.w.heap.size, 0, none⟩ 3) = some (.slice x0a x0l x0c) ∧ g9.w.cell? (Addr.add (Addr.add ⟨g2.w.heap.size, 0, none⟩ 3) 1) = some (.int .i64 x1_2) ∧ g9.w.cell? (Addr.add (Addr.add ⟨g2.w.heap.size, 0, none⟩ 3) 2) = some (.int .i64 x2) ∧ (CallsP Try.prog 90 #[(.agg ⟨[(.slice x0a x0l x0c), (.int .i64 x1_2), (.int .i64 x2)]⟩), (.int .i64 at0)] g9 fun v g10 =>
  ∃ n : Int, v = (.int .i64 n) ∧ InI64 (at0 + (3 : Int)) ∧ ∃ Inv_2 : Nat → Int → G → Prop, ((∃ m0 : Nat, Inv_2 m0 (at0 + (3 : Int)) g10)) ∧
  ∀ m_4 : Nat, ∀ i : Int, ∀ g11 : G, Le g10 g11 → Inv_2 m_4 i g11 →
  InI64 (at0 + n) ∧ ifB (ltI i (at0 + n))
  (∃ xa_1 : Option Addr, ∃ xl_1 : Nat, ∃ xc_1 : Nat, g11.w.cell? (Addr.add ⟨g2.w.heap.size, 0, none⟩ 3) = some (.slice xa_1 xl_1 xc_1) ∧ (0 ≤ i ∧ i < ((xl_1 : Nat) : Int)) ∧ derefP xa_1 fun ad_1 => ∃ x0_2 : Bool, ∃ x1_3 : Int, g11.w.cell? (Addr.add ad_1 (Int.toNat i * 2)) = some (.bool x0_2) ∧ g11.w.cell? (Addr.add (Addr.add ad_1 (Int.toNat i * 2)) 1) = some (.int .i64 x1_3) ∧ (CallsP Try.prog 106 #[(.pointer (some ⟨g2.w.heap.size, 0, none⟩)), (.agg ⟨[(.bool x0_2), (.int .i64 x1_3)]⟩)] g11 fun v g12 =>
  ∃ x0_3 : Bool, ∃ x1_4 : Int, v = (.agg ⟨[(.bool x0_3), (.int .i64 x1_4)]⟩) ∧ ∀ g13 : G, Ex g12 g13 →
  ∃ xa_2 : Option Addr, ∃ xl_2 : Nat, ∃ xc_2 : Nat, g13.w.cell? (Addr.add ⟨g2.w.heap.size, 0, none⟩ 3) = some (.slice xa_2 xl_2 xc_2) ∧ (0 ≤ i ∧ i < ((xl_2 : Nat) : Int)) ∧ derefP xa_2 fun ad_2 => stOk g13.w (Addr.add ad_2 (Int.toNat i * 2)) 2 ∧ ¬ g13.X (Addr.block (Addr.add ad_2 (Int.toNat i * 2))) ∧ mutAt g13 (Addr.add ad_2 (Int.toNat i * 2)) 2 ∧ ((Addr.block (Addr.add ad_2 (Int.toNat i * 2))) < g.w.heap.size → nobody (Addr.block (Addr.add ad_2 (Int.toNat i * 2)))) ∧ ∀ g14 : G, StG false g13 (Addr.add ad_2 (Int.toNat i * 2)) [(.bool x0_3), (.int .i64 x1_4)] g14 →
  InI64 (i + (1 : Int)) ∧ (∃ m_5 : Nat, m_5 < m_4 ∧ Inv_2 m_5 (i + (1 : Int)) g14)))
  (InI64 (at0 + n) ∧ (∃ m_3 : Nat, m_3 < m_2 ∧ Inv_1 m_3 (at0 + n) g11))))
  (∃ xa_3 : Option Addr, ∃ xl_3 : Nat, ∃ xc_3 : Nat, g9.w.cell? (Addr.add ⟨g2.w.heap.size, 0, none⟩ 3) = some (.slice xa_3 xl_3 xc_3) ∧ stOk g9.w (Addr.add (Addr.add ⟨g2.w.heap.size, 0, none⟩ 3) 1) 1 ∧ ¬ g9.X (Addr.block (Addr.add (Addr.add ⟨g2.w.heap.size, 0, none⟩ 3) 1)) ∧ mutAt g9 (Addr.add (Addr.add ⟨g2.w.heap.size, 0, none⟩ 3) 1) 1 ∧ ((Addr.block (Addr.add (Addr.add ⟨g2.w.heap.size, 0, none⟩ 3) 1)) < g.w.heap.size → nobody (Addr.block (Addr.add (Addr.add ⟨g2.w.heap.size, 0, none⟩ 3) 1))) ∧ ∀ g15 : G, StG false g9 (Addr.add (Addr.add ⟨g2.w.heap.size, 0, none⟩ 3) 1) [(.int .i64 ((xl_3 : Nat) : Int))] g15 →
  ∀ g16 : G, Ex g15 g16 →
  R (.tuple ⟨[(.pointer (some ⟨g2.w.heap.size, 0, none⟩)), (.slice outa outl outc)]⟩) g16))
theorem F84_eq (h0a : Option Addr) (h0l : Nat) (h0c : Nat) (h1 : Int) (h2 : Int) (rootsa : Option Addr) (rootsl : Nat) (rootsc : Nat) (g : G) (R : Value → G → Prop) : fnG cfg84 90 [.tmp 4, .tmp 5] c84 an84 [(.agg ⟨[(.slice h0a h0l h0c), (.int .i64 h1), (.int .i64 h2)]⟩), (.slice rootsa rootsl rootsc)] g nobody R = F84 h0a h0l h0c h1 h2 rootsa rootsl rootsc g R := by kernel_rfl
theorem call84 (h0a : Option Addr) (h0l : Nat) (h0c : Nat) (h1 : Int) (h2 : Int) (rootsa : Option Addr) (rootsl : Nat) (rootsc : Nat) (g : G) (R : Value → G → Prop) (hF : F84 h0a h0l h0c h1 h2 rootsa rootsl rootsc g R) : CallsG Try.prog 84 #[(.agg ⟨[(.slice h0a h0l h0c), (.int .i64 h1), (.int .i64 h2)]⟩), (.slice rootsa rootsl rootsc)] g nobody R :=
  fn_soundG (c := cfg84) TTok FNSok mixed Try.func84 (show Try.f84.body = some c84 by kernel_rfl) (show Try.f84.ntmps = 90 by kernel_rfl) (show Try.f84.results.toList = [.tmp 4, .tmp 5] by kernel_rfl) rfl ((F84_eq h0a h0l h0c h1 h2 rootsa rootsl rootsc g R).mpr hF)

/- 85 pilaster/pilasterref50.Order -/
noncomputable def c85 : Code := match Try.f85.body with
  | some c => c
  | none => .skip
noncomputable def cfg85 : Cfg := ⟨Try.prog, TT, FNS, [2], [(2, 2)], [], TCH, false, false⟩
def an85 : AnnG := (.seq .leaf (.seq .leaf (.seq (.seq .leaf (.blk (.loop ⟨[(5, .sl), (6, .int .i64)], [], []⟩ (.seq (.seq .leaf (.cond .leaf .leaf)) (.seq (.blk (.seq (.tree 12 (.quiet 0 (.quiet 1 (.quiet 2 (.quiet 3 (.quiet 4 (.eff 5 (.quiet 6 (.quiet 7 (.quiet 8 (.quiet 9 (.quiet 10 (.quiet 11 .fin)))))) .fin))))))) .leaf)) .leaf))))) (.seq .leaf .leaf))))
def F85 (h0a : Option Addr) (h0l : Nat) (h0c : Nat) (h1 : Int) (h2 : Int) (rootsa : Option Addr) (rootsl : Nat) (rootsc : Nat) (g : G) (R : Value → G → Prop) : Prop :=
  ∀ g1 : G, Ex g g1 →
  (CallsP Try.prog 107 #[(.slice none 0 0), (.slice rootsa rootsl rootsc)] g1 fun v g2 =>
  ∃ la : Option Addr, ∃ ll : Nat, ∃ lc : Nat, v = (.slice la ll lc) ∧ ∃ Inv : Nat → Option Addr → Nat → Nat → Int → G → Prop, ((∃ m0 : Nat, Inv m0 la ll lc (0 : Int) g2)) ∧
  ∀ m : Nat, ∀ la_1 : Option Addr, ∀ ll_1 : Nat, ∀ lc_1 : Nat, ∀ i : Int, ∀ g3 : G, Le g2 g3 → Inv m la_1 ll_1 lc_1 i g3 →
  ifB (ltI i ((ll_1 : Nat) : Int))
  (∀ g4 : G, Ex g3 g4 →
  (0 ≤ i ∧ i < ((ll_1 : Nat) : Int)) ∧ derefP la_1 fun ad => ∃ x : Int, g4.w.cell? (Addr.add ad (Int.toNat i * 1)) = some (.int .i64 x) ∧ (CallsP Try.prog 38 #[(.agg ⟨[(.slice h0a h0l h0c), (.int .i64 h1), (.int .i64 h2)]⟩), (.int .i64 x)] g4 fun v g5 =>
  ∃ x0 : Int, ∃ x1 : Int, ∃ x2a : Option Addr, ∃ x2l : Nat, ∃ x2c : Nat, v = (.tuple ⟨[(.int .i64 x0), (.int .i64 x1), (.slice x2a x2l x2c)]⟩) ∧ (CallsP Try.prog 107 #[(.slice la_1 ll_1 lc_1), (.slice x2a x2l x2c)] g5 fun v g6 =>
  ∃ la_2 : Option Addr, ∃ ll_2 : Nat, ∃ lc_2 : Nat, v = (.slice la_2 ll_2 lc_2) ∧ InI64 (i + (1 : Int)) ∧ (∃ m_1 : Nat, m_1 < m ∧ Inv m_1 la_2 ll_2 lc_2 (i + (1 : Int)) g6))))
  (∀ g7 : G, Ex g3 g7 →
  R (.slice la_1 ll_1 lc_1) g7))
theorem F85_eq (h0a : Option Addr) (h0l : Nat) (h0c : Nat) (h1 : Int) (h2 : Int) (rootsa : Option Addr) (rootsl : Nat) (rootsc : Nat) (g : G) (R : Value → G → Prop) : fnG cfg85 32 [.tmp 4] c85 an85 [(.agg ⟨[(.slice h0a h0l h0c), (.int .i64 h1), (.int .i64 h2)]⟩), (.slice rootsa rootsl rootsc)] g nobody R = F85 h0a h0l h0c h1 h2 rootsa rootsl rootsc g R := by kernel_rfl
theorem call85 (h0a : Option Addr) (h0l : Nat) (h0c : Nat) (h1 : Int) (h2 : Int) (rootsa : Option Addr) (rootsl : Nat) (rootsc : Nat) (g : G) (R : Value → G → Prop) (hF : F85 h0a h0l h0c h1 h2 rootsa rootsl rootsc g R) : CallsG Try.prog 85 #[(.agg ⟨[(.slice h0a h0l h0c), (.int .i64 h1), (.int .i64 h2)]⟩), (.slice rootsa rootsl rootsc)] g nobody R :=
  fn_soundG (c := cfg85) TTok FNSok mixed Try.func85 (show Try.f85.body = some c85 by kernel_rfl) (show Try.f85.ntmps = 32 by kernel_rfl) (show Try.f85.results.toList = [.tmp 4] by kernel_rfl) rfl ((F85_eq h0a h0l h0c h1 h2 rootsa rootsl rootsc g R).mpr hF)

/- 86 (pilaster/pilasterref50.moves).all -/
noncomputable def c86 : Code := match Try.f86.body with
  | some c => c
  | none => .skip
noncomputable def cfg86 : Cfg := ⟨Try.prog, TT, FNS, [2, 7], [(2, 2), (7, 7), (18, 7), (20, 2), (22, 2), (24, 7), (29, 7)], [], TCH, false, false⟩
def an86 : AnnG := (.seq .leaf (.seq .leaf (.seq (.seq .leaf (.blk (.loop ⟨[(5, .sl), (6, .int .i64)], [], []⟩ (.seq (.seq .leaf (.cond .leaf .leaf)) (.seq (.blk (.seq .leaf (.seq (.seq .leaf (.cond (.treeP false [7] 7 (.quiet 0 (.quiet 1 (.quiet 2 (.quiet 3 (.quiet 4 (.eff 5 (.eff 6 .fin .fin) .fin))))))) .leaf)) .leaf))) .leaf))))) (.seq .leaf .leaf))))
def F86 (m0a : Option Addr) (m0l : Nat) (m0c : Nat) (m1a : Option Addr) (m1l : Nat) (m1c : Nat) (la : Option Addr) (ll : Nat) (lc : Nat) (g : G) (R : Value → G → Prop) : Prop :=
  ∃ Inv : Nat → Option Addr → Nat → Nat → Int → G → Prop, (∀ g1 : G, Ex g g1 →
  (∃ m0 : Nat, Inv m0 none 0 0 (0 : Int) g1)) ∧
  ∀ m : Nat, ∀ outa : Option Addr, ∀ outl : Nat, ∀ outc : Nat, ∀ i : Int, ∀ g2 : G, Le g g2 → Inv m outa outl outc i g2 →
  ifB (ltI i ((ll : Nat) : Int))
  ((0 ≤ i ∧ i < ((ll : Nat) : Int)) ∧ derefP la fun ad => ∃ x0 : Bool, ∃ x1 : Int, g2.w.cell? (Addr.add ad (Int.toNat i * 2)) = some (.bool x0) ∧ g2.w.cell? (Addr.add (Addr.add ad (Int.toNat i * 2)) 1) = some (.int .i64 x1) ∧ ifB x0
  (∀ g3 : G, Ex g2 g3 →
  ∀ g4 : G, Ex g3 g4 →
  (CallsP Try.prog 93 #[(.slice m0a m0l m0c), (.int .i64 x1)] g4 fun v g5 =>
  ∃ x : Int, v = (.int .i64 x) ∧ (0 ≤ x ∧ x < ((m1l : Nat) : Int)) ∧ derefP m1a fun ad_1 => ∃ x_1 : Int, g5.w.cell? (Addr.add ad_1 (Int.toNat x * 1)) = some (.int .i64 x_1) ∧ ∀ g6 : G, Ex g5 g6 →
  ∀ g7 : G, NewL g6 g7 41 [(.bool x0), (.int .i64 x_1)] →
  ∃ outa_1 : Option Addr, ∃ outl_1 : Nat, ∃ outc_1 : Nat, ∃ wo1 : World, Sem.run Try.prog (Builtin.append_ #[22, 22] 22 #[(.slice outa outl outc), (.slice (some ⟨g6.w.heap.size, 0, none⟩) 1 1)]) g7.w = .ok (.slice outa_1 outl_1 outc_1) wo1 ∧ ∃ g8 : G, g8.w = wo1 ∧ Stp g.w.heap.size nobody g7 g8 ∧ InI64 (i + (1 : Int)) ∧ (∃ m_1 : Nat, m_1 < m ∧ Inv m_1 outa_1 outl_1 outc_1 (i + (1 : Int)) g8)))
  (∀ g9 : G, Ex g2 g9 →
  ∀ g10 : G, NewL g9 g10 41 [(.bool x0), (.int .i64 x1)] →
  ∃ outa_2 : Option Addr, ∃ outl_2 : Nat, ∃ outc_2 : Nat, ∃ wo2 : World, Sem.run Try.prog (Builtin.append_ #[22, 22] 22 #[(.slice outa outl outc), (.slice (some ⟨g9.w.heap.size, 0, none⟩) 1 1)]) g10.w = .ok (.slice outa_2 outl_2 outc_2) wo2 ∧ ∃ g11 : G, g11.w = wo2 ∧ Stp g.w.heap.size nobody g10 g11 ∧ InI64 (i + (1 : Int)) ∧ (∃ m_1 : Nat, m_1 < m ∧ Inv m_1 outa_2 outl_2 outc_2 (i + (1 : Int)) g11)))
  (∀ g12 : G, Ex g2 g12 →
  R (.slice outa outl outc) g12)
theorem F86_eq (m0a : Option Addr) (m0l : Nat) (m0c : Nat) (m1a : Option Addr) (m1l : Nat) (m1c : Nat) (la : Option Addr) (ll : Nat) (lc : Nat) (g : G) (R : Value → G → Prop) : fnG cfg86 35 [.tmp 4] c86 an86 [(.agg ⟨[(.slice m0a m0l m0c), (.slice m1a m1l m1c)]⟩), (.slice la ll lc)] g nobody R = F86 m0a m0l m0c m1a m1l m1c la ll lc g R := by kernel_rfl
theorem call86 (m0a : Option Addr) (m0l : Nat) (m0c : Nat) (m1a : Option Addr) (m1l : Nat) (m1c : Nat) (la : Option Addr) (ll : Nat) (lc : Nat) (g : G) (R : Value → G → Prop) (hF : F86 m0a m0l m0c m1a m1l m1c la ll lc g R) : CallsG Try.prog 86 #[(.agg ⟨[(.slice m0a m0l m0c), (.slice m1a m1l m1c)]⟩), (.slice la ll lc)] g nobody R :=
  fn_soundG (c := cfg86) TTok FNSok mixed Try.func86 (show Try.f86.body = some c86 by kernel_rfl) (show Try.f86.ntmps = 35 by kernel_rfl) (show Try.f86.results.toList = [.tmp 4] by kernel_rfl) rfl ((F86_eq m0a m0l m0c m1a m1l m1c la ll lc g R).mpr hF)

/- 87 slices.Equal[[]string,string] -/
noncomputable def c87 : Code := match Try.f87.body with
  | some c => c
  | none => .skip
noncomputable def cfg87 : Cfg := ⟨Try.prog, TT, FNS, [], [], [], TCH, false, false⟩
def an87 : AnnG := (.seq .leaf (.seq (.seq .leaf (.cond (.seq .leaf .leaf) .leaf)) (.seq (.seq .leaf (.blk (.loop ⟨[(13, .int .i64)], [], []⟩ (.seq .leaf (.seq (.cond .leaf .leaf) (.seq (.blk (.seq .leaf (.seq (.tree 8 (.quiet 0 (.quiet 1 (.quiet 2 (.quiet 3 (.quiet 4 (.quiet 5 (.quiet 6 (.quiet 7 .fin))))))))) (.cond (.seq .leaf .leaf) .leaf)))) .leaf)))))) (.seq .leaf .leaf))))
def F87 (s1a : Option Addr) (s1l : Nat) (s1c : Nat) (s2a : Option Addr) (s2l : Nat) (s2c : Nat) (g : G) (R : Value → G → Prop) : Prop :=
  ifB (!eqI ((s1l : Nat) : Int) ((s2l : Nat) : Int))
  (∀ g1 : G, Ex g g1 →
  R (.bool false) g1)
  (∃ Inv : Nat → Int → G → Prop, ((∃ m0 : Nat, Inv m0 (0 : Int) g)) ∧
  ∀ m : Nat, ∀ v_1 : Int, ∀ g2 : G, Le g g2 → Inv m v_1 g2 →
  ifB (ltI v_1 ((s1l : Nat) : Int))
  (∀ g3 : G, Ex g2 g3 →
  (0 ≤ v_1 ∧ v_1 < ((s1l : Nat) : Int)) ∧ derefP s1a fun ad => ∃ x : ByteArray, g3.w.cell? (Addr.add ad (Int.toNat v_1 * 1)) = some (.string x) ∧ (0 ≤ v_1 ∧ v_1 < ((s2l : Nat) : Int)) ∧ derefP s2a fun ad_1 => ∃ x_1 : ByteArray, g3.w.cell? (Addr.add ad_1 (Int.toNat v_1 * 1)) = some (.string x_1) ∧ ifB (!strEq x x_1)
  (∀ g4 : G, Ex g3 g4 →
  R (.bool false) g4)
  (InI64 (v_1 + (1 : Int)) ∧ (∃ m_1 : Nat, m_1 < m ∧ Inv m_1 (v_1 + (1 : Int)) g3)))
  (∀ g5 : G, Ex g2 g5 →
  R (.bool true) g5))
theorem F87_eq (s1a : Option Addr) (s1l : Nat) (s1c : Nat) (s2a : Option Addr) (s2l : Nat) (s2c : Nat) (g : G) (R : Value → G → Prop) : fnG cfg87 26 [.tmp 4] c87 an87 [(.slice s1a s1l s1c), (.slice s2a s2l s2c)] g nobody R = F87 s1a s1l s1c s2a s2l s2c g R := by kernel_rfl
theorem call87 (s1a : Option Addr) (s1l : Nat) (s1c : Nat) (s2a : Option Addr) (s2l : Nat) (s2c : Nat) (g : G) (R : Value → G → Prop) (hF : F87 s1a s1l s1c s2a s2l s2c g R) : CallsG Try.prog 87 #[(.slice s1a s1l s1c), (.slice s2a s2l s2c)] g nobody R :=
  fn_soundG (c := cfg87) TTok FNSok mixed Try.func87 (show Try.f87.body = some c87 by kernel_rfl) (show Try.f87.ntmps = 26 by kernel_rfl) (show Try.f87.results.toList = [.tmp 4] by kernel_rfl) rfl ((F87_eq s1a s1l s1c s2a s2l s2c g R).mpr hF)

/- 88 slices.EqualFunc[[]pilaster/api.Value,[]pilaster/api.Value,pilaster/api.Value,pilaster/api.Value] -/
noncomputable def c88 : Code := match Try.f88.body with
  | some c => c
  | none => .skip
noncomputable def cfg88 : Cfg := ⟨Try.prog, TT, FNS, [8, 9], [(8, 8), (9, 9)], [], TCH, false, false⟩
def an88 : AnnG := (.seq .leaf (.seq (.seq .leaf (.cond (.seq .leaf .leaf) .leaf)) (.seq (.seq .leaf (.blk (.loop ⟨[(17, .int .i64)], [], []⟩ (.seq .leaf (.seq (.cond .leaf .leaf) (.seq (.blk (.seq .leaf (.seq .leaf (.seq .leaf (.cond (.seq .leaf .leaf) .leaf))))) .leaf)))))) (.seq .leaf .leaf))))
def F88 (s1a : Option Addr) (s1l : Nat) (s1c : Nat) (s2a : Option Addr) (s2l : Nat) (s2c : Nat) (eqf : FuncId) (eqc : Array Value) (g : G) (R : Value → G → Prop) : Prop :=
  ifB (!eqI ((s1l : Nat) : Int) ((s2l : Nat) : Int))
  (∀ g1 : G, Ex g g1 →
  R (.bool false) g1)
  (∃ Inv : Nat → Int → G → Prop, ((∃ m0 : Nat, Inv m0 (0 : Int) g)) ∧
  ∀ m : Nat, ∀ v_1 : Int, ∀ g2 : G, Le g g2 → Inv m v_1 g2 →
  ifB (ltI v_1 ((s1l : Nat) : Int))
  ((0 ≤ v_1 ∧ v_1 < ((s1l : Nat) : Int)) ∧ derefP s1a fun ad => ∃ x0 : Int, ∃ x1 : Int, ∃ x2 : ByteArray, ∃ x3a : Option Addr, ∃ x3l : Nat, ∃ x3c : Nat, ∃ x4a : Option Addr, ∃ x4l : Nat, ∃ x4c : Nat, g2.w.cell? (Addr.add ad (Int.toNat v_1 * 5)) = some (.int .i64 x0) ∧ g2.w.cell? (Addr.add (Addr.add ad (Int.toNat v_1 * 5)) 1) = some (.int .i64 x1) ∧ g2.w.cell? (Addr.add (Addr.add ad (Int.toNat v_1 * 5)) 2) = some (.string x2) ∧ g2.w.cell? (Addr.add (Addr.add ad (Int.toNat v_1 * 5)) 3) = some (.slice x3a x3l x3c) ∧ g2.w.cell? (Addr.add (Addr.add ad (Int.toNat v_1 * 5)) 4) = some (.slice x4a x4l x4c) ∧ (0 ≤ v_1 ∧ v_1 < ((s2l : Nat) : Int)) ∧ derefP s2a fun ad_1 => ∀ g3 : G, Ex g2 g3 →
  ∃ x0_1 : Int, ∃ x1_1 : Int, ∃ x2_1 : ByteArray, ∃ x3a_1 : Option Addr, ∃ x3l_1 : Nat, ∃ x3c_1 : Nat, ∃ x4a_1 : Option Addr, ∃ x4l_1 : Nat, ∃ x4c_1 : Nat, g3.w.cell? (Addr.add ad_1 (Int.toNat v_1 * 5)) = some (.int .i64 x0_1) ∧ g3.w.cell? (Addr.add (Addr.add ad_1 (Int.toNat v_1 * 5)) 1) = some (.int .i64 x1_1) ∧ g3.w.cell? (Addr.add (Addr.add ad_1 (Int.toNat v_1 * 5)) 2) = some (.string x2_1) ∧ g3.w.cell? (Addr.add (Addr.add ad_1 (Int.toNat v_1 * 5)) 3) = some (.slice x3a_1 x3l_1 x3c_1) ∧ g3.w.cell? (Addr.add (Addr.add ad_1 (Int.toNat v_1 * 5)) 4) = some (.slice x4a_1 x4l_1 x4c_1) ∧ ∀ g4 : G, Ex g3 g4 →
  Enters Try.prog eqf ∧ (CallsP Try.prog eqf ((⟨[(.agg ⟨[(.int .i64 x0), (.int .i64 x1), (.string x2), (.slice x3a x3l x3c), (.slice x4a x4l x4c)]⟩), (.agg ⟨[(.int .i64 x0_1), (.int .i64 x1_1), (.string x2_1), (.slice x3a_1 x3l_1 x3c_1), (.slice x4a_1 x4l_1 x4c_1)]⟩)]⟩ : Array Value) ++ eqc) g4 fun v g5 =>
  ∃ x : Bool, v = (.bool x) ∧ ifB (!x)
  (∀ g6 : G, Ex g5 g6 →
  R (.bool false) g6)
  (InI64 (v_1 + (1 : Int)) ∧ (∃ m_1 : Nat, m_1 < m ∧ Inv m_1 (v_1 + (1 : Int)) g5))))
  (∀ g7 : G, Ex g2 g7 →
  R (.bool true) g7))
theorem F88_eq (s1a : Option Addr) (s1l : Nat) (s1c : Nat) (s2a : Option Addr) (s2l : Nat) (s2c : Nat) (eqf : FuncId) (eqc : Array Value) (g : G) (R : Value → G → Prop) : fnG cfg88 32 [.tmp 6] c88 an88 [(.slice s1a s1l s1c), (.slice s2a s2l s2c), (.func (.func eqf) #[] eqc)] g nobody R = F88 s1a s1l s1c s2a s2l s2c eqf eqc g R := by kernel_rfl
theorem call88 (s1a : Option Addr) (s1l : Nat) (s1c : Nat) (s2a : Option Addr) (s2l : Nat) (s2c : Nat) (eqf : FuncId) (eqc : Array Value) (g : G) (R : Value → G → Prop) (hF : F88 s1a s1l s1c s2a s2l s2c eqf eqc g R) : CallsG Try.prog 88 #[(.slice s1a s1l s1c), (.slice s2a s2l s2c), (.func (.func eqf) #[] eqc)] g nobody R :=
  fn_soundG (c := cfg88) TTok FNSok mixed Try.func88 (show Try.f88.body = some c88 by kernel_rfl) (show Try.f88.ntmps = 32 by kernel_rfl) (show Try.f88.results.toList = [.tmp 6] by kernel_rfl) rfl ((F88_eq s1a s1l s1c s2a s2l s2c eqf eqc g R).mpr hF)

/- 89 pilaster/collect.Same$1 -/
noncomputable def c89 : Code := match Try.f89.body with
  | some c => c
  | none => .skip
noncomputable def cfg89 : Cfg := ⟨Try.prog, TT, FNS, [], [], [], TCH, false, false⟩
def an89 : AnnG := (.seq .leaf (.blk (.loop ⟨[(8, .int .i64)], [], []⟩ (.seq .leaf (.seq (.cond .leaf .leaf) (.seq (.blk (.seq .leaf (.tree 11 (.quiet 0 (.quiet 1 (.quiet 2 (.quiet 3 (.quiet 4 (.quiet 5 (.quiet 6 (.quiet 7 (.quiet 8 (.eff 9 (.eff 10 .fin .fin) .fin))))))))))))) .leaf))))))
def F89 (la : Option Addr) (ll : Nat) (lc : Nat) (ma : Option Addr) (ml : Nat) (mc : Nat) (c0 : Option Addr) (g : G) (R : Value → G → Prop) : Prop :=
  ∃ Inv : Nat → Int → G → Prop, ((∃ m0 : Nat, Inv m0 (0 : Int) g)) ∧
  ∀ m : Nat, ∀ v_1 : Int, ∀ g1 : G, Le g g1 → Inv m v_1 g1 →
  ifB (ltI v_1 ((ll : Nat) : Int))
  (∀ g2 : G, Ex g1 g2 →
  derefP c0 fun ad => ∃ xa : Option Addr, ∃ xl : Nat, ∃ xc : Nat, g2.w.cell? ad = some (.slice xa xl xc) ∧ (0 ≤ v_1 ∧ v_1 < ((ll : Nat) : Int)) ∧ derefP la fun ad_1 => ∃ x0 : Bool, ∃ x1 : Int, g2.w.cell? (Addr.add ad_1 (Int.toNat v_1 * 2)) = some (.bool x0) ∧ g2.w.cell? (Addr.add (Addr.add ad_1 (Int.toNat v_1 * 2)) 1) = some (.int .i64 x1) ∧ (0 ≤ v_1 ∧ v_1 < ((ml : Nat) : Int)) ∧ derefP ma fun ad_2 => ∃ x0_1 : Bool, ∃ x1_1 : Int, g2.w.cell? (Addr.add ad_2 (Int.toNat v_1 * 2)) = some (.bool x0_1) ∧ g2.w.cell? (Addr.add (Addr.add ad_2 (Int.toNat v_1 * 2)) 1) = some (.int .i64 x1_1) ∧ ∀ g3 : G, NewL g2 g3 124 [(.bool x0), (.int .i64 x1), (.bool x0_1), (.int .i64 x1_1)] →
  ∃ xa_1 : Option Addr, ∃ xl_1 : Nat, ∃ xc_1 : Nat, ∃ wo1 : World, Sem.run Try.prog (Builtin.append_ #[122, 122] 122 #[(.slice xa xl xc), (.slice (some ⟨g2.w.heap.size, 0, none⟩) 1 1)]) g3.w = .ok (.slice xa_1 xl_1 xc_1) wo1 ∧ ∃ g4 : G, g4.w = wo1 ∧ Stp g.w.heap.size nobody g3 g4 ∧ derefP c0 fun ad_3 => stOk g4.w ad_3 1 ∧ ¬ g4.X (Addr.block ad_3) ∧ mutAt g4 ad_3 1 ∧ ((Addr.block ad_3) < g.w.heap.size → nobody (Addr.block ad_3)) ∧ ∀ g5 : G, StG false g4 ad_3 [(.slice xa_1 xl_1 xc_1)] g5 →
  InI64 (v_1 + (1 : Int)) ∧ (∃ m_1 : Nat, m_1 < m ∧ Inv m_1 (v_1 + (1 : Int)) g5))
  (∀ g6 : G, Ex g1 g6 →
  R (.tuple ⟨[]⟩) g6)
theorem F89_eq (la : Option Addr) (ll : Nat) (lc : Nat) (ma : Option Addr) (ml : Nat) (mc : Nat) (c0 : Option Addr) (g : G) (R : Value → G → Prop) : fnG cfg89 24 [] c89 an89 [(.slice la ll lc), (.slice ma ml mc), (.pointer c0)] g nobody R = F89 la ll lc ma ml mc c0 g R := by kernel_rfl
theorem call89 (la : Option Addr) (ll : Nat) (lc : Nat) (ma : Option Addr) (ml : Nat) (mc : Nat) (c0 : Option Addr) (g : G) (R : Value → G → Prop) (hF : F89 la ll lc ma ml mc c0 g R) : CallsG Try.prog 89 #[(.slice la ll lc), (.slice ma ml mc), (.pointer c0)] g nobody R :=
  fn_soundG (c := cfg89) TTok FNSok mixed Try.func89 (show Try.f89.body = some c89 by kernel_rfl) (show Try.f89.ntmps = 24 by kernel_rfl) (show Try.f89.results.toList = [] by kernel_rfl) rfl ((F89_eq la ll lc ma ml mc c0 g R).mpr hF)

/- 90 pilaster/collect.length -/
noncomputable def c90 : Code := match Try.f90.body with
  | some c => c
  | none => .skip
noncomputable def cfg90 : Cfg := ⟨Try.prog, TT, FNS, [2], [(2, 2), (5, 2)], [], TCH, false, false⟩
def an90 : AnnG := (.seq .leaf (.seq .leaf .leaf))
def F90 (h0a : Option Addr) (h0l : Nat) (h0c : Nat) (h1 : Int) (h2 : Int) (at0 : Int) (g : G) (R : Value → G → Prop) : Prop :=
  InI64 (at0 + (2 : Int)) ∧ (0 ≤ (at0 + (2 : Int)) ∧ (at0 + (2 : Int)) < ((h0l : Nat) : Int)) ∧ derefP h0a fun ad => ∀ g1 : G, Ex g g1 →
  ∃ x : Int, g1.w.cell? (Addr.add (Addr.add ad (Int.toNat (at0 + (2 : Int)) * 2)) 1) = some (.int .i64 x) ∧ InI64 ((3 : Int) + x) ∧ ∀ g2 : G, Ex g1 g2 →
  R (.int .i64 ((3 : Int) + x)) g2
theorem F90_eq (h0a : Option Addr) (h0l : Nat) (h0c : Nat) (h1 : Int) (h2 : Int) (at0 : Int) (g : G) (R : Value → G → Prop) : fnG cfg90 13 [.tmp 4] c90 an90 [(.agg ⟨[(.slice h0a h0l h0c), (.int .i64 h1), (.int .i64 h2)]⟩), (.int .i64 at0)] g nobody R = F90 h0a h0l h0c h1 h2 at0 g R := by kernel_rfl
theorem call90 (h0a : Option Addr) (h0l : Nat) (h0c : Nat) (h1 : Int) (h2 : Int) (at0 : Int) (g : G) (R : Value → G → Prop) (hF : F90 h0a h0l h0c h1 h2 at0 g R) : CallsG Try.prog 90 #[(.agg ⟨[(.slice h0a h0l h0c), (.int .i64 h1), (.int .i64 h2)]⟩), (.int .i64 at0)] g nobody R :=
  fn_soundG (c := cfg90) TTok FNSok mixed Try.func90 (show Try.f90.body = some c90 by kernel_rfl) (show Try.f90.ntmps = 13 by kernel_rfl) (show Try.f90.results.toList = [.tmp 4] by kernel_rfl) rfl ((F90_eq h0a h0l h0c h1 h2 at0 g R).mpr hF)

/- 91 slices.Equal[[]pilaster/api.Word,pilaster/api.Word] -/
noncomputable def c91 : Code := match Try.f91.body with
  | some c => c
  | none => .skip
noncomputable def cfg91 : Cfg := ⟨Try.prog, TT, FNS, [], [], [], TCH, false, false⟩
def an91 : AnnG := (.seq .leaf (.seq (.seq .leaf (.cond (.seq .leaf .leaf) .leaf)) (.seq (.seq .leaf (.blk (.loop ⟨[(13, .int .i64)], [], []⟩ (.seq .leaf (.seq (.cond .leaf .leaf) (.seq (.blk (.seq .leaf (.seq (.tree 8 (.quiet 0 (.quiet 1 (.quiet 2 (.quiet 3 (.quiet 4 (.quiet 5 (.quiet 6 (.quiet 7 .fin))))))))) (.cond (.seq .leaf .leaf) .leaf)))) .leaf)))))) (.seq .leaf .leaf))))
def F91 (s1a : Option Addr) (s1l : Nat) (s1c : Nat) (s2a : Option Addr) (s2l : Nat) (s2c : Nat) (g : G) (R : Value → G → Prop) : Prop :=
  ifB (!eqI ((s1l : Nat) : Int) ((s2l : Nat) : Int))
  (∀ g1 : G, Ex g g1 →
  R (.bool false) g1)
  (∃ Inv : Nat → Int → G → Prop, ((∃ m0 : Nat, Inv m0 (0 : Int) g)) ∧
  ∀ m : Nat, ∀ v_1 : Int, ∀ g2 : G, Le g g2 → Inv m v_1 g2 →
  ifB (ltI v_1 ((s1l : Nat) : Int))
  (∀ g3 : G, Ex g2 g3 →
  (0 ≤ v_1 ∧ v_1 < ((s1l : Nat) : Int)) ∧ derefP s1a fun ad => ∃ x0 : Bool, ∃ x1 : Int, g3.w.cell? (Addr.add ad (Int.toNat v_1 * 2)) = some (.bool x0) ∧ g3.w.cell? (Addr.add (Addr.add ad (Int.toNat v_1 * 2)) 1) = some (.int .i64 x1) ∧ (0 ≤ v_1 ∧ v_1 < ((s2l : Nat) : Int)) ∧ derefP s2a fun ad_1 => ∃ x0_1 : Bool, ∃ x1_1 : Int, g3.w.cell? (Addr.add ad_1 (Int.toNat v_1 * 2)) = some (.bool x0_1) ∧ g3.w.cell? (Addr.add (Addr.add ad_1 (Int.toNat v_1 * 2)) 1) = some (.int .i64 x1_1) ∧ ifB (!((x0 == x0_1) && ((eqI x1 x1_1) && true)))
  (∀ g4 : G, Ex g3 g4 →
  R (.bool false) g4)
  (InI64 (v_1 + (1 : Int)) ∧ (∃ m_1 : Nat, m_1 < m ∧ Inv m_1 (v_1 + (1 : Int)) g3)))
  (∀ g5 : G, Ex g2 g5 →
  R (.bool true) g5))
theorem F91_eq (s1a : Option Addr) (s1l : Nat) (s1c : Nat) (s2a : Option Addr) (s2l : Nat) (s2c : Nat) (g : G) (R : Value → G → Prop) : fnG cfg91 26 [.tmp 4] c91 an91 [(.slice s1a s1l s1c), (.slice s2a s2l s2c)] g nobody R = F91 s1a s1l s1c s2a s2l s2c g R := by kernel_rfl
theorem call91 (s1a : Option Addr) (s1l : Nat) (s1c : Nat) (s2a : Option Addr) (s2l : Nat) (s2c : Nat) (g : G) (R : Value → G → Prop) (hF : F91 s1a s1l s1c s2a s2l s2c g R) : CallsG Try.prog 91 #[(.slice s1a s1l s1c), (.slice s2a s2l s2c)] g nobody R :=
  fn_soundG (c := cfg91) TTok FNSok mixed Try.func91 (show Try.f91.body = some c91 by kernel_rfl) (show Try.f91.ntmps = 26 by kernel_rfl) (show Try.f91.results.toList = [.tmp 4] by kernel_rfl) rfl ((F91_eq s1a s1l s1c s2a s2l s2c g R).mpr hF)

/- 92 slices.Sort[[]int,int] -/
noncomputable def c92 : Code := match Try.f92.body with
  | some c => c
  | none => .skip
noncomputable def cfg92 : Cfg := ⟨Try.prog, TT, FNS, [], [], [], TCH, false, false⟩
def an92 : AnnG := (.seq .leaf .leaf)
def F92 (xa : Option Addr) (xl : Nat) (xc : Nat) (g : G) (R : Value → G → Prop) : Prop :=
  (CallsP Try.prog 109 #[(.int .u64 (IntKind.u64.wrap ((xl : Nat) : Int)))] g fun v g1 =>
  ∃ x : Int, v = (.int .i64 x) ∧ (CallsP Try.prog 108 #[(.slice xa xl xc), (.int .i64 (0 : Int)), (.int .i64 ((xl : Nat) : Int)), (.int .i64 x)] g1 fun v g2 =>
  v = (.tuple ⟨[]⟩) ∧ ∀ g3 : G, Ex g2 g3 →
  R (.tuple ⟨[]⟩) g3))
theorem F92_eq (xa : Option Addr) (xl : Nat) (xc : Nat) (g : G) (R : Value → G → Prop) : fnG cfg92 11 [] c92 an92 [(.slice xa xl xc)] g nobody R = F92 xa xl xc g R := by kernel_rfl
theorem call92 (xa : Option Addr) (xl : Nat) (xc : Nat) (g : G) (R : Value → G → Prop) (hF : F92 xa xl xc g R) : CallsG Try.prog 92 #[(.slice xa xl xc)] g nobody R :=
  fn_soundG (c := cfg92) TTok FNSok mixed Try.func92 (show Try.f92.body = some c92 by kernel_rfl) (show Try.f92.ntmps = 11 by kernel_rfl) (show Try.f92.results.toList = [] by kernel_rfl) rfl ((F92_eq xa xl xc g R).mpr hF)

/- 93 pilaster/pilasterref50.place -/
noncomputable def c93 : Code := match Try.f93.body with
  | some c => c
  | none => .skip
noncomputable def cfg93 : Cfg := ⟨Try.prog, TT, FNS, [], [], [], TCH, false, false⟩
def an93 : AnnG := (.seq .leaf (.seq (.seq .leaf (.blk (.loop ⟨[(5, .int .i64)], [], []⟩ (.seq (.seq .leaf (.cond .leaf .leaf)) (.seq (.blk (.seq .leaf (.cond (.seq .leaf .leaf) .leaf))) .leaf))))) (.seq .leaf .leaf)))
def F93 (la : Option Addr) (ll : Nat) (lc : Nat) (n : Int) (g : G) (R : Value → G → Prop) : Prop :=
  ∃ Inv : Nat → Int → G → Prop, ((∃ m0 : Nat, Inv m0 (0 : Int) g)) ∧
  ∀ m : Nat, ∀ i : Int, ∀ g1 : G, Le g g1 → Inv m i g1 →
  ifB (ltI i ((ll : Nat) : Int))
  ((0 ≤ i ∧ i < ((ll : Nat) : Int)) ∧ derefP la fun ad => ∃ x : Int, g1.w.cell? (Addr.add ad (Int.toNat i * 1)) = some (.int .i64 x) ∧ ifB (eqI x n)
  (∀ g2 : G, Ex g1 g2 →
  R (.int .i64 i) g2)
  (InI64 (i + (1 : Int)) ∧ (∃ m_1 : Nat, m_1 < m ∧ Inv m_1 (i + (1 : Int)) g1)))
  (∀ g3 : G, Ex g1 g3 →
  R (.int .i64 (-1 : Int)) g3)
theorem F93_eq (la : Option Addr) (ll : Nat) (lc : Nat) (n : Int) (g : G) (R : Value → G → Prop) : fnG cfg93 19 [.tmp 4] c93 an93 [(.slice la ll lc), (.int .i64 n)] g nobody R = F93 la ll lc n g R := by kernel_rfl
theorem call93 (la : Option Addr) (ll : Nat) (lc : Nat) (n : Int) (g : G) (R : Value → G → Prop) (hF : F93 la ll lc n g R) : CallsG Try.prog 93 #[(.slice la ll lc), (.int .i64 n)] g nobody R :=
  fn_soundG (c := cfg93) TTok FNSok mixed Try.func93 (show Try.f93.body = some c93 by kernel_rfl) (show Try.f93.ntmps = 19 by kernel_rfl) (show Try.f93.results.toList = [.tmp 4] by kernel_rfl) rfl ((F93_eq la ll lc n g R).mpr hF)

/- 95 pilaster/pilasterref49.small -/
noncomputable def c95 : Code := match Try.f95.body with
  | some c => c
  | none => .skip
noncomputable def cfg95 : Cfg := ⟨Try.prog, TT, FNS, [], [], [], TCH, false, false⟩
def an95 : AnnG := (.seq .leaf (.seq .leaf .leaf))
def F95 (n : Int) (g : G) (R : Value → G → Prop) : Prop :=
  ifB (leI (-4503599627370496 : Int) n)
  (∀ g1 : G, Ex g g1 →
  R (.bool (leI n (4503599627370496 : Int))) g1)
  (∀ g2 : G, Ex g g2 →
  R (.bool false) g2)
theorem F95_eq (n : Int) (g : G) (R : Value → G → Prop) : fnG cfg95 9 [.tmp 2] c95 an95 [(.int .i64 n)] g nobody R = F95 n g R := by kernel_rfl
theorem call95 (n : Int) (g : G) (R : Value → G → Prop) (hF : F95 n g R) : CallsG Try.prog 95 #[(.int .i64 n)] g nobody R :=
  fn_soundG (c := cfg95) TTok FNSok mixed Try.func95 (show Try.f95.body = some c95 by kernel_rfl) (show Try.f95.ntmps = 9 by kernel_rfl) (show Try.f95.results.toList = [.tmp 2] by kernel_rfl) rfl ((F95_eq n g R).mpr hF)

/- 96 slices.Concat[[]pilaster/api.Word,pilaster/api.Word] -/
noncomputable def c96 : Code := match Try.f96.body with
  | some c => c
  | none => .skip
noncomputable def cfg96 : Cfg := ⟨Try.prog, TT, FNS, [], [], [], TCH, false, false⟩
def an96 : AnnG := (.seq .leaf (.seq .leaf (.seq (.seq .leaf (.blk (.loop ⟨[(3, .int .i64), (11, .int .i64)], [], []⟩ (.seq .leaf (.seq (.cond .leaf .leaf) (.seq (.blk (.seq .leaf (.seq .leaf (.seq .leaf (.cond .leaf .leaf))))) .leaf)))))) (.seq .leaf (.seq (.seq .leaf (.blk (.loop ⟨[(6, .sl), (27, .int .i64)], [], []⟩ (.seq .leaf (.seq (.cond .leaf .leaf) (.seq (.blk (.seq .leaf .leaf)) .leaf)))))) (.seq .leaf .leaf))))))
def F96 (slicesa : Option Addr) (slicesl : Nat) (slicesc : Nat) (g : G) (R : Value → G → Prop) : Prop :=
  ∃ Inv : Nat → Int → Int → G → Prop, ((∃ m0 : Nat, Inv m0 (0 : Int) (0 : Int) g)) ∧
  ∀ m : Nat, ∀ size : Int, ∀ v_1 : Int, ∀ g1 : G, Le g g1 → Inv m size v_1 g1 →
  ifB (ltI v_1 ((slicesl : Nat) : Int))
  ((0 ≤ v_1 ∧ v_1 < ((slicesl : Nat) : Int)) ∧ derefP slicesa fun ad => ∃ sa : Option Addr, ∃ sl : Nat, ∃ sc : Nat, g1.w.cell? (Addr.add ad (Int.toNat v_1 * 1)) = some (.slice sa sl sc) ∧ InI64 (size + ((sl : Nat) : Int)) ∧ ifB (ltI (size + ((sl : Nat) : Int)) (0 : Int))
  (False)
  (InI64 (v_1 + (1 : Int)) ∧ (∃ m_1 : Nat, m_1 < m ∧ Inv m_1 (size + ((sl : Nat) : Int)) (v_1 + (1 : Int)) g1)))
  ((CallsP Try.prog 111 #[(.slice none 0 0), (.int .i64 size)] g1 fun v g2 =>
  ∃ newslicea : Option Addr, ∃ newslicel : Nat, ∃ newslicec : Nat, v = (.slice newslicea newslicel newslicec) ∧ ∃ Inv_1 : Nat → Option Addr → Nat → Nat → Int → G → Prop, ((∃ m0 : Nat, Inv_1 m0 newslicea newslicel newslicec (0 : Int) g2)) ∧
  ∀ m_2 : Nat, ∀ newslicea_1 : Option Addr, ∀ newslicel_1 : Nat, ∀ newslicec_1 : Nat, ∀ v_2 : Int, ∀ g3 : G, Le g2 g3 → Inv_1 m_2 newslicea_1 newslicel_1 newslicec_1 v_2 g3 →
  ifB (ltI v_2 ((slicesl : Nat) : Int))
  ((0 ≤ v_2 ∧ v_2 < ((slicesl : Nat) : Int)) ∧ derefP slicesa fun ad_1 => ∃ sa_1 : Option Addr, ∃ sl_1 : Nat, ∃ sc_1 : Nat, g3.w.cell? (Addr.add ad_1 (Int.toNat v_2 * 1)) = some (.slice sa_1 sl_1 sc_1) ∧ ∃ newslicea_2 : Option Addr, ∃ newslicel_2 : Nat, ∃ newslicec_2 : Nat, ∃ wo1 : World, Sem.run Try.prog (Builtin.append_ #[22, 22] 22 #[(.slice newslicea_1 newslicel_1 newslicec_1), (.slice sa_1 sl_1 sc_1)]) g3.w = .ok (.slice newslicea_2 newslicel_2 newslicec_2) wo1 ∧ ∃ g4 : G, g4.w = wo1 ∧ Stp g.w.heap.size nobody g3 g4 ∧ InI64 (v_2 + (1 : Int)) ∧ (∃ m_3 : Nat, m_3 < m_2 ∧ Inv_1 m_3 newslicea_2 newslicel_2 newslicec_2 (v_2 + (1 : Int)) g4))
  (∀ g5 : G, Ex g3 g5 →
  R (.slice newslicea_1 newslicel_1 newslicec_1) g5)))
theorem F96_eq (slicesa : Option Addr) (slicesl : Nat) (slicesc : Nat) (g : G) (R : Value → G → Prop) : fnG cfg96 36 [.tmp 2] c96 an96 [(.slice slicesa slicesl slicesc)] g nobody R = F96 slicesa slicesl slicesc g R := by kernel_rfl
theorem call96 (slicesa : Option Addr) (slicesl : Nat) (slicesc : Nat) (g : G) (R : Value → G → Prop) (hF : F96 slicesa slicesl slicesc g R) : CallsG Try.prog 96 #[(.slice slicesa slicesl slicesc)] g nobody R :=
  fn_soundG (c := cfg96) TTok FNSok mixed Try.func96 (show Try.f96.body = some c96 by kernel_rfl) (show Try.f96.ntmps = 36 by kernel_rfl) (show Try.f96.results.toList = [.tmp 2] by kernel_rfl) rfl ((F96_eq slicesa slicesl slicesc g R).mpr hF)

/- 97 pilaster/heap.number -/
noncomputable def c97 : Code := match Try.f97.body with
  | some c => c
  | none => .skip
noncomputable def cfg97 : Cfg := ⟨Try.prog, TT, FNS, [2], [(2, 2)], [], TCH, false, false⟩
def an97 : AnnG := (.seq .leaf (.seq .leaf .leaf))
def F97 (n : Int) (g : G) (R : Value → G → Prop) : Prop :=
  ∀ g1 : G, Ex g g1 →
  ∀ g2 : G, Ex g1 g2 →
  R (.agg ⟨[(.bool false), (.int .i64 n)]⟩) g2
theorem F97_eq (n : Int) (g : G) (R : Value → G → Prop) : fnG cfg97 5 [.cell 2 41] c97 an97 [(.int .i64 n)] g nobody R = F97 n g R := by kernel_rfl
theorem call97 (n : Int) (g : G) (R : Value → G → Prop) (hF : F97 n g R) : CallsG Try.prog 97 #[(.int .i64 n)] g nobody R :=
  fn_soundG (c := cfg97) TTok FNSok mixed Try.func97 (show Try.f97.body = some c97 by kernel_rfl) (show Try.f97.ntmps = 5 by kernel_rfl) (show Try.f97.results.toList = [.cell 2 41] by kernel_rfl) rfl ((F97_eq n g R).mpr hF)

/- 98 pilaster/heap.reference -/
noncomputable def c98 : Code := match Try.f98.body with
  | some c => c
  | none => .skip
noncomputable def cfg98 : Cfg := ⟨Try.prog, TT, FNS, [2], [(2, 2)], [], TCH, false, false⟩
def an98 : AnnG := (.seq .leaf (.seq .leaf .leaf))
def F98 (n : Int) (g : G) (R : Value → G → Prop) : Prop :=
  ∀ g1 : G, Ex g g1 →
  ∀ g2 : G, Ex g1 g2 →
  R (.agg ⟨[(.bool true), (.int .i64 n)]⟩) g2
theorem F98_eq (n : Int) (g : G) (R : Value → G → Prop) : fnG cfg98 5 [.cell 2 41] c98 an98 [(.int .i64 n)] g nobody R = F98 n g R := by kernel_rfl
theorem call98 (n : Int) (g : G) (R : Value → G → Prop) (hF : F98 n g R) : CallsG Try.prog 98 #[(.int .i64 n)] g nobody R :=
  fn_soundG (c := cfg98) TTok FNSok mixed Try.func98 (show Try.f98.body = some c98 by kernel_rfl) (show Try.f98.ntmps = 5 by kernel_rfl) (show Try.f98.results.toList = [.cell 2 41] by kernel_rfl) rfl ((F98_eq n g R).mpr hF)

/- 99 pilaster/heap.plain -/
noncomputable def c99 : Code := match Try.f99.body with
  | some c => c
  | none => .skip
noncomputable def cfg99 : Cfg := ⟨Try.prog, TT, FNS, [], [], [], TCH, false, false⟩
def an99 : AnnG := (.seq .leaf (.seq .leaf .leaf))
def F99 (n : Int) (g : G) (R : Value → G → Prop) : Prop :=
  ifB (leI (-4503599627370496 : Int) n)
  (∀ g1 : G, Ex g g1 →
  R (.bool (leI n (4503599627370496 : Int))) g1)
  (∀ g2 : G, Ex g g2 →
  R (.bool false) g2)
theorem F99_eq (n : Int) (g : G) (R : Value → G → Prop) : fnG cfg99 9 [.tmp 2] c99 an99 [(.int .i64 n)] g nobody R = F99 n g R := by kernel_rfl
theorem call99 (n : Int) (g : G) (R : Value → G → Prop) (hF : F99 n g R) : CallsG Try.prog 99 #[(.int .i64 n)] g nobody R :=
  fn_soundG (c := cfg99) TTok FNSok mixed Try.func99 (show Try.f99.body = some c99 by kernel_rfl) (show Try.f99.ntmps = 9 by kernel_rfl) (show Try.f99.results.toList = [.tmp 2] by kernel_rfl) rfl ((F99_eq n g R).mpr hF)

/- 100 slices.ContainsFunc[[]pilaster/api.Value,pilaster/api.Value] -/
noncomputable def c100 : Code := match Try.f100.body with
  | some c => c
  | none => .skip
noncomputable def cfg100 : Cfg := ⟨Try.prog, TT, FNS, [], [], [], TCH, false, false⟩
def an100 : AnnG := (.seq .leaf (.seq .leaf .leaf))
def F100 (sa : Option Addr) (sl : Nat) (sc : Nat) (ff : FuncId) (fc : Array Value) (g : G) (R : Value → G → Prop) : Prop :=
  (CallsP Try.prog 112 #[(.slice sa sl sc), (.func (.func ff) #[] fc)] g fun v g1 =>
  ∃ x : Int, v = (.int .i64 x) ∧ ∀ g2 : G, Ex g1 g2 →
  R (.bool (leI (0 : Int) x)) g2)
theorem F100_eq (sa : Option Addr) (sl : Nat) (sc : Nat) (ff : FuncId) (fc : Array Value) (g : G) (R : Value → G → Prop) : fnG cfg100 9 [.tmp 4] c100 an100 [(.slice sa sl sc), (.func (.func ff) #[] fc)] g nobody R = F100 sa sl sc ff fc g R := by kernel_rfl
theorem call100 (sa : Option Addr) (sl : Nat) (sc : Nat) (ff : FuncId) (fc : Array Value) (g : G) (R : Value → G → Prop) (hF : F100 sa sl sc ff fc g R) : CallsG Try.prog 100 #[(.slice sa sl sc), (.func (.func ff) #[] fc)] g nobody R :=
  fn_soundG (c := cfg100) TTok FNSok mixed Try.func100 (show Try.f100.body = some c100 by kernel_rfl) (show Try.f100.ntmps = 9 by kernel_rfl) (show Try.f100.results.toList = [.tmp 4] by kernel_rfl) rfl ((F100_eq sa sl sc ff fc g R).mpr hF)

/- 101 pilaster/heap.data$1 -/
noncomputable def c101 : Code := match Try.f101.body with
  | some c => c
  | none => .skip
noncomputable def cfg101 : Cfg := ⟨Try.prog, TT, FNS, [1], [(1, 1)], [], TCH, false, false⟩
def an101 : AnnG := (.seq .leaf (.seq .leaf .leaf))
def F101 (x0 : Int) (x1 : Int) (x2 : ByteArray) (x3a : Option Addr) (x3l : Nat) (x3c : Nat) (x4a : Option Addr) (x4l : Nat) (x4c : Nat) (g : G) (R : Value → G → Prop) : Prop :=
  ∀ g1 : G, Ex g g1 →
  (CallsP Try.prog 67 #[(.agg ⟨[(.int .i64 x0), (.int .i64 x1), (.string x2), (.slice x3a x3l x3c), (.slice x4a x4l x4c)]⟩)] g1 fun v g2 =>
  ∃ x : Bool, v = (.bool x) ∧ ∀ g3 : G, Ex g2 g3 →
  R (.bool (!x)) g3)
theorem F101_eq (x0 : Int) (x1 : Int) (x2 : ByteArray) (x3a : Option Addr) (x3l : Nat) (x3c : Nat) (x4a : Option Addr) (x4l : Nat) (x4c : Nat) (g : G) (R : Value → G → Prop) : fnG cfg101 6 [.tmp 2] c101 an101 [(.agg ⟨[(.int .i64 x0), (.int .i64 x1), (.string x2), (.slice x3a x3l x3c), (.slice x4a x4l x4c)]⟩)] g nobody R = F101 x0 x1 x2 x3a x3l x3c x4a x4l x4c g R := by kernel_rfl
theorem call101 (x0 : Int) (x1 : Int) (x2 : ByteArray) (x3a : Option Addr) (x3l : Nat) (x3c : Nat) (x4a : Option Addr) (x4l : Nat) (x4c : Nat) (g : G) (R : Value → G → Prop) (hF : F101 x0 x1 x2 x3a x3l x3c x4a x4l x4c g R) : CallsG Try.prog 101 #[(.agg ⟨[(.int .i64 x0), (.int .i64 x1), (.string x2), (.slice x3a x3l x3c), (.slice x4a x4l x4c)]⟩)] g nobody R :=
  fn_soundG (c := cfg101) TTok FNSok mixed Try.func101 (show Try.f101.body = some c101 by kernel_rfl) (show Try.f101.ntmps = 6 by kernel_rfl) (show Try.f101.results.toList = [.tmp 2] by kernel_rfl) rfl ((F101_eq x0 x1 x2 x3a x3l x3c x4a x4l x4c g R).mpr hF)

/- 102 pilaster/heap.right$1 -/
noncomputable def c102 : Code := match Try.f102.body with
  | some c => c
  | none => .skip
noncomputable def cfg102 : Cfg := ⟨Try.prog, TT, FNS, [1], [(1, 1), (3, 1), (6, 1), (11, 1)], [], TCH, false, false⟩
def an102 : AnnG := (.seq .leaf (.seq .leaf .leaf))
def F102 (w0 : Bool) (w1 : Int) (g : G) (R : Value → G → Prop) : Prop :=
  ifB w0
  (∀ g1 : G, Ex g g1 →
  R (.bool true) g1)
  (ifB (ltI w1 (0 : Int))
  (∀ g2 : G, Ex g g2 →
  R (.bool true) g2)
  (∀ g3 : G, Ex g g3 →
  R (.bool (ltI (255 : Int) w1)) g3))
theorem F102_eq (w0 : Bool) (w1 : Int) (g : G) (R : Value → G → Prop) : fnG cfg102 15 [.tmp 2] c102 an102 [(.agg ⟨[(.bool w0), (.int .i64 w1)]⟩)] g nobody R = F102 w0 w1 g R := by kernel_rfl
theorem call102 (w0 : Bool) (w1 : Int) (g : G) (R : Value → G → Prop) (hF : F102 w0 w1 g R) : CallsG Try.prog 102 #[(.agg ⟨[(.bool w0), (.int .i64 w1)]⟩)] g nobody R :=
  fn_soundG (c := cfg102) TTok FNSok mixed Try.func102 (show Try.f102.body = some c102 by kernel_rfl) (show Try.f102.ntmps = 15 by kernel_rfl) (show Try.f102.results.toList = [.tmp 2] by kernel_rfl) rfl ((F102_eq w0 w1 g R).mpr hF)

/- 103 slices.IndexFunc[[]pilaster/api.Word,pilaster/api.Word] -/
noncomputable def c103 : Code := match Try.f103.body with
  | some c => c
  | none => .skip
noncomputable def cfg103 : Cfg := ⟨Try.prog, TT, FNS, [], [], [], TCH, false, false⟩
def an103 : AnnG := (.seq .leaf (.seq (.seq .leaf (.blk (.loop ⟨[(8, .int .i64)], [], []⟩ (.seq .leaf (.seq (.cond .leaf .leaf) (.seq (.blk (.seq .leaf (.seq .leaf (.cond (.seq .leaf .leaf) .leaf)))) .leaf)))))) (.seq .leaf .leaf)))
def F103 (sa : Option Addr) (sl : Nat) (sc : Nat) (ff : FuncId) (fc : Array Value) (g : G) (R : Value → G → Prop) : Prop :=
  ∃ Inv : Nat → Int → G → Prop, ((∃ m0 : Nat, Inv m0 (0 : Int) g)) ∧
  ∀ m : Nat, ∀ v_1 : Int, ∀ g1 : G, Le g g1 → Inv m v_1 g1 →
  ifB (ltI v_1 ((sl : Nat) : Int))
  ((0 ≤ v_1 ∧ v_1 < ((sl : Nat) : Int)) ∧ derefP sa fun ad => ∃ x0 : Bool, ∃ x1 : Int, g1.w.cell? (Addr.add ad (Int.toNat v_1 * 2)) = some (.bool x0) ∧ g1.w.cell? (Addr.add (Addr.add ad (Int.toNat v_1 * 2)) 1) = some (.int .i64 x1) ∧ Enters Try.prog ff ∧ (CallsP Try.prog ff ((⟨[(.agg ⟨[(.bool x0), (.int .i64 x1)]⟩)]⟩ : Array Value) ++ fc) g1 fun v g2 =>
  ∃ x : Bool, v = (.bool x) ∧ ifB x
  (∀ g3 : G, Ex g2 g3 →
  R (.int .i64 v_1) g3)
  (InI64 (v_1 + (1 : Int)) ∧ (∃ m_1 : Nat, m_1 < m ∧ Inv m_1 (v_1 + (1 : Int)) g2))))
  (∀ g4 : G, Ex g1 g4 →
  R (.int .i64 (-1 : Int)) g4)
theorem F103_eq (sa : Option Addr) (sl : Nat) (sc : Nat) (ff : FuncId) (fc : Array Value) (g : G) (R : Value → G → Prop) : fnG cfg103 19 [.tmp 4] c103 an103 [(.slice sa sl sc), (.func (.func ff) #[] fc)] g nobody R = F103 sa sl sc ff fc g R := by kernel_rfl
theorem call103 (sa : Option Addr) (sl : Nat) (sc : Nat) (ff : FuncId) (fc : Array Value) (g : G) (R : Value → G → Prop) (hF : F103 sa sl sc ff fc g R) : CallsG Try.prog 103 #[(.slice sa sl sc), (.func (.func ff) #[] fc)] g nobody R :=
  fn_soundG (c := cfg103) TTok FNSok mixed Try.func103 (show Try.f103.body = some c103 by kernel_rfl) (show Try.f103.ntmps = 19 by kernel_rfl) (show Try.f103.results.toList = [.tmp 4] by kernel_rfl) rfl ((F103_eq sa sl sc ff fc g R).mpr hF)

/- 104 slices.BinarySearch[[]int,int] -/
noncomputable def c104 : Code := match Try.f104.body with
  | some c => c
  | none => .skip
noncomputable def cfg104 : Cfg := ⟨Try.prog, TT, FNS, [], [], [], TCH, false, false⟩
def an104 : AnnG := (.seq .leaf (.seq .leaf (.seq .leaf (.seq (.blk (.loop ⟨[(7, .int .i64), (8, .int .i64)], [], []⟩ (.seq (.seq .leaf (.cond .leaf .leaf)) (.blk (.seq .leaf (.seq .leaf (.cond .leaf .leaf))))))) (.seq .leaf .leaf)))))
def F104 (xa : Option Addr) (xl : Nat) (xc : Nat) (target : Int) (g : G) (R : Value → G → Prop) : Prop :=
  ∃ Inv : Nat → Int → Int → G → Prop, ((∃ m0 : Nat, Inv m0 (0 : Int) ((xl : Nat) : Int) g)) ∧
  ∀ m : Nat, ∀ i : Int, ∀ j : Int, ∀ g1 : G, Le g g1 → Inv m i j g1 →
  ifB (ltI i j)
  (InI64 (i + j) ∧ 0 ≤ (1 : Int) ∧ InI64 (shrI IntKind.u64 (IntKind.u64.wrap (i + j)) (1 : Int)) ∧ (0 ≤ (shrI IntKind.u64 (IntKind.u64.wrap (i + j)) (1 : Int)) ∧ (shrI IntKind.u64 (IntKind.u64.wrap (i + j)) (1 : Int)) < ((xl : Nat) : Int)) ∧ derefP xa fun ad => ∃ x : Int, g1.w.cell? (Addr.add ad (Int.toNat (shrI IntKind.u64 (IntKind.u64.wrap (i + j)) (1 : Int)) * 1)) = some (.int .i64 x) ∧ (CallsP Try.prog 113 #[(.int .i64 x), (.int .i64 target)] g1 fun v g2 =>
  ∃ x_1 : Bool, v = (.bool x_1) ∧ ifB x_1
  (InI64 ((shrI IntKind.u64 (IntKind.u64.wrap (i + j)) (1 : Int)) + (1 : Int)) ∧ (∃ m_1 : Nat, m_1 < m ∧ Inv m_1 ((shrI IntKind.u64 (IntKind.u64.wrap (i + j)) (1 : Int)) + (1 : Int)) j g2))
  ((∃ m_1 : Nat, m_1 < m ∧ Inv m_1 i (shrI IntKind.u64 (IntKind.u64.wrap (i + j)) (1 : Int)) g2))))
  (ifB (ltI i ((xl : Nat) : Int))
  ((0 ≤ i ∧ i < ((xl : Nat) : Int)) ∧ derefP xa fun ad_1 => ∃ x_2 : Int, g1.w.cell? (Addr.add ad_1 (Int.toNat i * 1)) = some (.int .i64 x_2) ∧ ifB (eqI x_2 target)
  (∀ g3 : G, Ex g1 g3 →
  R (.tuple ⟨[(.int .i64 i), (.bool true)]⟩) g3)
  ((0 ≤ i ∧ i < ((xl : Nat) : Int)) ∧ derefP xa fun ad_2 => ∃ x_3 : Int, g1.w.cell? (Addr.add ad_2 (Int.toNat i * 1)) = some (.int .i64 x_3) ∧ (CallsP Try.prog 114 #[(.int .i64 x_3)] g1 fun v g4 =>
  ∃ x_4 : Bool, v = (.bool x_4) ∧ ifB x_4
  ((CallsP Try.prog 114 #[(.int .i64 target)] g4 fun v g5 =>
  ∃ x_5 : Bool, v = (.bool x_5) ∧ ∀ g6 : G, Ex g5 g6 →
  R (.tuple ⟨[(.int .i64 i), (.bool x_5)]⟩) g6))
  (∀ g7 : G, Ex g4 g7 →
  R (.tuple ⟨[(.int .i64 i), (.bool false)]⟩) g7))))
  (∀ g8 : G, Ex g1 g8 →
  R (.tuple ⟨[(.int .i64 i), (.bool false)]⟩) g8))
theorem F104_eq (xa : Option Addr) (xl : Nat) (xc : Nat) (target : Int) (g : G) (R : Value → G → Prop) : fnG cfg104 54 [.tmp 4, .tmp 5] c104 an104 [(.slice xa xl xc), (.int .i64 target)] g nobody R = F104 xa xl xc target g R := by kernel_rfl
theorem call104 (xa : Option Addr) (xl : Nat) (xc : Nat) (target : Int) (g : G) (R : Value → G → Prop) (hF : F104 xa xl xc target g R) : CallsG Try.prog 104 #[(.slice xa xl xc), (.int .i64 target)] g nobody R :=
  fn_soundG (c := cfg104) TTok FNSok mixed Try.func104 (show Try.f104.body = some c104 by kernel_rfl) (show Try.f104.ntmps = 54 by kernel_rfl) (show Try.f104.results.toList = [.tmp 4, .tmp 5] by kernel_rfl) rfl ((F104_eq xa xl xc target g R).mpr hF)

/- 105 pilaster/collect.check$1 -/
noncomputable def c105 : Code := match Try.f105.body with
  | some c => c
  | none => .skip
noncomputable def cfg105 : Cfg := ⟨Try.prog, TT, FNS, [2], [(2, 2), (4, 2), (7, 2), (11, 2), (15, 2)], [], TCH, false, false⟩
def an105 : AnnG := (.seq .leaf (.seq (.seq .leaf (.cond (.seq .leaf .leaf) .leaf)) (.seq .leaf .leaf)))
def F105 (w0 : Bool) (w1 : Int) (c0 : Option Addr) (g : G) (R : Value → G → Prop) : Prop :=
  ifB w0
  (∀ g1 : G, Ex g g1 →
  derefP c0 fun ad => ∃ x : Option Nat, g1.w.cell? ad = some (.map x) ∧ ∃ x_1 : Bool, ∃ wo1 : World, Sem.run Try.prog (Instr.lookup 109 (.map x) (.int .i64 w1) false) g1.w = .ok (.bool x_1) wo1 ∧ ∃ g2 : G, g2.w = wo1 ∧ Stp g.w.heap.size nobody g1 g2 ∧ ∀ g3 : G, Ex g2 g3 →
  R (.bool (!x_1)) g3)
  (ifB (ltI w1 (-4503599627370496 : Int))
  (∀ g4 : G, Ex g g4 →
  R (.bool true) g4)
  (∀ g5 : G, Ex g g5 →
  R (.bool (ltI (4503599627370496 : Int) w1)) g5))
theorem F105_eq (w0 : Bool) (w1 : Int) (c0 : Option Addr) (g : G) (R : Value → G → Prop) : fnG cfg105 19 [.tmp 3] c105 an105 [(.agg ⟨[(.bool w0), (.int .i64 w1)]⟩), (.pointer c0)] g nobody R = F105 w0 w1 c0 g R := by kernel_rfl
theorem call105 (w0 : Bool) (w1 : Int) (c0 : Option Addr) (g : G) (R : Value → G → Prop) (hF : F105 w0 w1 c0 g R) : CallsG Try.prog 105 #[(.agg ⟨[(.bool w0), (.int .i64 w1)]⟩), (.pointer c0)] g nobody R :=
  fn_soundG (c := cfg105) TTok FNSok mixed Try.func105 (show Try.f105.body = some c105 by kernel_rfl) (show Try.f105.ntmps = 19 by kernel_rfl) (show Try.f105.results.toList = [.tmp 3] by kernel_rfl) rfl ((F105_eq w0 w1 c0 g R).mpr hF)

/- 106 (*pilaster/collect.collector).forward -/
noncomputable def c106 : Code := match Try.f106.body with
  | some c => c
  | none => .skip
noncomputable def cfg106 : Cfg := ⟨Try.prog, TT, FNS, [3, 4], [(3, 3), (4, 4), (7, 3), (16, 3), (33, 3), (47, 3), (49, 3), (55, 3)], [], TCH, false, false⟩
def an106 : AnnG := (.seq .leaf (.seq (.seq .leaf (.cond (.seq .leaf .leaf) .leaf)) (.seq (.treeB 11 (.quiet 0 (.quiet 1 (.quiet 2 (.quiet 3 (.quiet 4 (.quiet 5 (.eff 6 (.quiet 7 (.quiet 8 (.quiet 9 (.quiet 10 .fin)))) .fin)))))))) (.seq (.seq .leaf (.cond (.seq .leaf (.seq (.treeB 7 (.quiet 0 (.quiet 1 (.quiet 2 (.quiet 3 (.quiet 4 (.quiet 5 (.quiet 6 .fin)))))))) (.treeB 25 (.quiet 0 (.quiet 1 (.quiet 2 (.quiet 3 (.quiet 4 (.quiet 5 (.quiet 6 (.quiet 7 (.quiet 8 (.quiet 9 (.quiet 10 (.quiet 11 (.quiet 12 (.quiet 13 (.quiet 14 (.quiet 15 (.quiet 16 (.quiet 17 (.quiet 18 (.quiet 19 (.quiet 20 (.eff 21 (.quiet 22 (.quiet 23 (.eff 24 .fin .fin))) .fin))))))))))))))))))))))))) .leaf)) (.seq .leaf .leaf)))))
def F106 (c : Option Addr) (w0 : Bool) (w1 : Int) (g : G) (R : Value → G → Prop) : Prop :=
  ifB (!w0)
  (∀ g1 : G, Ex g g1 →
  R (.agg ⟨[(.bool w0), (.int .i64 w1)]⟩) g1)
  (∀ g2 : G, Ex g g2 →
  ∃ MR1 : Nat → Prop, (∀ b, MR1 b → ¬ g2.X b) ∧ derefP c fun ad => ¬ MR1 (Addr.block (Addr.add ad 6)) ∧ ∃ x : Option Nat, g2.w.cell? (Addr.add ad 6) = some (.map x) ∧ ∃ x0 : Int, ∃ x1 : Bool, ∃ wo1 : World, Sem.run Try.prog (Instr.lookup 115 (.map x) (.int .i64 w1) true) g2.w = .ok (.tuple ⟨[(.int .i64 x0), (.bool x1)]⟩) wo1 ∧ ∃ g3 : G, g3.w = wo1 ∧ Stp g.w.heap.size nobody g2 g3 ∧ SameBut MR1 g2 g3 ∧ ifB (!x1)
  (derefP c fun ad_1 => ∃ xa : Option Addr, ∃ xl : Nat, ∃ xc : Nat, g3.w.cell? (Addr.add ad_1 3) = some (.slice xa xl xc) ∧ ∀ g4 : G, Ex g3 g4 →
  ∃ MR2 : Nat → Prop, (∀ b, MR2 b → ¬ g4.X b) ∧ derefP c fun ad_2 => ¬ MR2 (Addr.block (Addr.add ad_2 6)) ∧ ∃ x_1 : Option Nat, g4.w.cell? (Addr.add ad_2 6) = some (.map x_1) ∧ ∃ wo2 : World, Sem.run Try.prog (Instr.mapUpdate 115 (.map x_1) (.int .i64 w1) (.int .i64 ((xl : Nat) : Int))) g4.w = .ok () wo2 ∧ ∃ g5 : G, g5.w = wo2 ∧ Stp g.w.heap.size nobody g4 g5 ∧ ∀ g6 : G, Ex g5 g6 →
  ∃ MR3 : Nat → Prop, (∀ b, MR3 b → ¬ g6.X b) ∧ derefP c fun ad_3 => ¬ MR3 (Addr.block (Addr.add ad_3 3)) ∧ ∃ xa_1 : Option Addr, ∃ xl_1 : Nat, ∃ xc_1 : Nat, g6.w.cell? (Addr.add ad_3 3) = some (.slice xa_1 xl_1 xc_1) ∧ derefP c fun ad_4 => ¬ MR3 (Addr.block ad_4) ∧ ∃ xa_2 : Option Addr, ∃ xl_2 : Nat, ∃ xc_2 : Nat, g6.w.cell? ad_4 = some (.slice xa_2 xl_2 xc_2) ∧ derefP c fun ad_5 => ¬ MR3 (Addr.block ad_5) ∧ ∃ x0a : Option Addr, ∃ x0l : Nat, ∃ x0c : Nat, ∃ x1_1 : Int, ∃ x2 : Int, g6.w.cell? ad_5 = some (.slice x0a x0l x0c) ∧ g6.w.cell? (Addr.add ad_5 1) = some (.int .i64 x1_1) ∧ g6.w.cell? (Addr.add ad_5 2) = some (.int .i64 x2) ∧ (CallsP Try.prog 90 #[(.agg ⟨[(.slice x0a x0l x0c), (.int .i64 x1_1), (.int .i64 x2)]⟩), (.int .i64 w1)] g6 fun v g7 =>
  ∃ x_2 : Int, v = (.int .i64 x_2) ∧ InI64 (w1 + x_2) ∧ (0 ≤ (w1 + x_2) ∧ (w1 + x_2) ≤ ((xc_2 : Nat) : Int)) ∧ (0 ≤ w1 ∧ w1 ≤ (((Int.toNat (w1 + x_2)) : Nat) : Int)) ∧ ∃ xa_3 : Option Addr, ∃ xl_3 : Nat, ∃ xc_3 : Nat, ∃ wo3 : World, Sem.run Try.prog (Builtin.append_ #[22, 22] 22 #[(.slice xa_1 xl_1 xc_1), (.slice (slAddr xa_2 xc_2 (Int.toNat w1) 2) ((Int.toNat (w1 + x_2)) - (Int.toNat w1)) (xc_2 - (Int.toNat w1)))]) g7.w = .ok (.slice xa_3 xl_3 xc_3) wo3 ∧ ∃ g8 : G, g8.w = wo3 ∧ Stp g.w.heap.size nobody g7 g8 ∧ SameBut MR3 g6 g8 ∧ derefP c fun ad_6 => stOk g8.w (Addr.add ad_6 3) 1 ∧ ¬ g8.X (Addr.block (Addr.add ad_6 3)) ∧ mutAt g8 (Addr.add ad_6 3) 1 ∧ ((Addr.block (Addr.add ad_6 3)) < g.w.heap.size → nobody (Addr.block (Addr.add ad_6 3))) ∧ ∀ g9 : G, StG false g8 (Addr.add ad_6 3) [(.slice xa_3 xl_3 xc_3)] g9 →
  ∀ g10 : G, Ex g9 g10 →
  R (.agg ⟨[(.bool true), (.int .i64 ((xl : Nat) : Int))]⟩) g10))
  (∀ g11 : G, Ex g3 g11 →
  R (.agg ⟨[(.bool true), (.int .i64 x0)]⟩) g11))
theorem F106_eq (c : Option Addr) (w0 : Bool) (w1 : Int) (g : G) (R : Value → G → Prop) : fnG cfg106 66 [.cell 4 41] c106 an106 [(.pointer c), (.agg ⟨[(.bool w0), (.int .i64 w1)]⟩)] g nobody R = F106 c w0 w1 g R := by kernel_rfl
theorem call106 (c : Option Addr) (w0 : Bool) (w1 : Int) (g : G) (R : Value → G → Prop) (hF : F106 c w0 w1 g R) : CallsG Try.prog 106 #[(.pointer c), (.agg ⟨[(.bool w0), (.int .i64 w1)]⟩)] g nobody R :=
  fn_soundG (c := cfg106) TTok FNSok mixed Try.func106 (show Try.f106.body = some c106 by kernel_rfl) (show Try.f106.ntmps = 66 by kernel_rfl) (show Try.f106.results.toList = [.cell 4 41] by kernel_rfl) rfl ((F106_eq c w0 w1 g R).mpr hF)

/- 107 pilaster/pilasterref50.found -/
noncomputable def c107 : Code := match Try.f107.body with
  | some c => c
  | none => .skip
noncomputable def cfg107 : Cfg := ⟨Try.prog, TT, FNS, [], [], [], TCH, false, false⟩
def an107 : AnnG := (.seq .leaf (.seq (.seq .leaf (.blk (.loop ⟨[(0, .sl), (5, .int .i64)], [], []⟩ (.seq (.seq .leaf (.cond .leaf .leaf)) (.seq (.blk (.join ⟨[(26, .bool)], [], []⟩ .leaf (.cond .leaf .leaf))) .leaf))))) (.seq .leaf .leaf)))
def F107 (la : Option Addr) (ll : Nat) (lc : Nat) (wordsa : Option Addr) (wordsl : Nat) (wordsc : Nat) (g : G) (R : Value → G → Prop) : Prop :=
  ∃ Inv : Nat → Option Addr → Nat → Nat → Int → G → Prop, ((∃ m0 : Nat, Inv m0 la ll lc (0 : Int) g)) ∧
  ∀ m : Nat, ∀ la_1 : Option Addr, ∀ ll_1 : Nat, ∀ lc_1 : Nat, ∀ i : Int, ∀ g1 : G, Le g g1 → Inv m la_1 ll_1 lc_1 i g1 →
  ifB (ltI i ((wordsl : Nat) : Int))
  (∀ J : Bool → G → Prop,
  (∀ v_1 : Bool, ∀ g2 : G, (ifB v_1
  ((0 ≤ i ∧ i < ((wordsl : Nat) : Int)) ∧ derefP wordsa fun ad => ∃ x : Int, g2.w.cell? (Addr.add (Addr.add ad (Int.toNat i * 2)) 1) = some (.int .i64 x) ∧ ∀ g3 : G, NewL g2 g3 3 [(.int .i64 x)] →
  ∃ la_2 : Option Addr, ∃ ll_2 : Nat, ∃ lc_2 : Nat, ∃ wo1 : World, Sem.run Try.prog (Builtin.append_ #[55, 55] 55 #[(.slice la_1 ll_1 lc_1), (.slice (some ⟨g2.w.heap.size, 0, none⟩) 1 1)]) g3.w = .ok (.slice la_2 ll_2 lc_2) wo1 ∧ ∃ g4 : G, g4.w = wo1 ∧ Stp g.w.heap.size nobody g3 g4 ∧ InI64 (i + (1 : Int)) ∧ (∃ m_1 : Nat, m_1 < m ∧ Inv m_1 la_2 ll_2 lc_2 (i + (1 : Int)) g4))
  (InI64 (i + (1 : Int)) ∧ (∃ m_1 : Nat, m_1 < m ∧ Inv m_1 la_1 ll_1 lc_1 (i + (1 : Int)) g2))) → J v_1 g2) →
  (0 ≤ i ∧ i < ((wordsl : Nat) : Int)) ∧ derefP wordsa fun ad_1 => ∃ x_1 : Bool, g1.w.cell? (Addr.add ad_1 (Int.toNat i * 2)) = some (.bool x_1) ∧ ifB x_1
  ((0 ≤ i ∧ i < ((wordsl : Nat) : Int)) ∧ derefP wordsa fun ad_2 => ∃ x_2 : Int, g1.w.cell? (Addr.add (Addr.add ad_2 (Int.toNat i * 2)) 1) = some (.int .i64 x_2) ∧ (CallsP Try.prog 93 #[(.slice la_1 ll_1 lc_1), (.int .i64 x_2)] g1 fun v g5 =>
  ∃ x_3 : Int, v = (.int .i64 x_3) ∧ J (ltI x_3 (0 : Int)) g5))
  (J false g1))
  (∀ g6 : G, Ex g1 g6 →
  R (.slice la_1 ll_1 lc_1) g6)
theorem F107_eq (la : Option Addr) (ll : Nat) (lc : Nat) (wordsa : Option Addr) (wordsl : Nat) (wordsc : Nat) (g : G) (R : Value → G → Prop) : fnG cfg107 36 [.tmp 4] c107 an107 [(.slice la ll lc), (.slice wordsa wordsl wordsc)] g nobody R = F107 la ll lc wordsa wordsl wordsc g R := by kernel_rfl
theorem call107 (la : Option Addr) (ll : Nat) (lc : Nat) (wordsa : Option Addr) (wordsl : Nat) (wordsc : Nat) (g : G) (R : Value → G → Prop) (hF : F107 la ll lc wordsa wordsl wordsc g R) : CallsG Try.prog 107 #[(.slice la ll lc), (.slice wordsa wordsl wordsc)] g nobody R :=
  fn_soundG (c := cfg107) TTok FNSok mixed Try.func107 (show Try.f107.body = some c107 by kernel_rfl) (show Try.f107.ntmps = 36 by kernel_rfl) (show Try.f107.results.toList = [.tmp 4] by kernel_rfl) rfl ((F107_eq la ll lc wordsa wordsl wordsc g R).mpr hF)

/- 108 slices.pdqsortOrdered[int] -/
noncomputable def c108 : Code := match Try.f108.body with
  | some c => c
  | none => .skip
noncomputable def cfg108 : Cfg := ⟨Try.prog, TT, FNS, [], [], [], TCH, false, false⟩
def an108 : AnnG := (.seq .leaf (.seq .leaf (.blk (.loop ⟨[(1, .int .i64), (2, .int .i64), (3, .int .i64), (8, .bool), (9, .bool)], [], []⟩ (.blk (.seq .leaf (.seq (.seq .leaf (.cond (.seq .leaf .leaf) .leaf)) (.seq (.seq .leaf (.cond (.seq .leaf .leaf) .leaf)) (.join ⟨[(3, .int .i64)], [], []⟩ (.seq .leaf (.cond (.seq .leaf .leaf) .leaf)) (.seq .leaf (.join ⟨[(11, .int .i64), (12, .int .i64)], [], []⟩ (.seq .leaf (.cond (.seq .leaf (.seq .leaf .leaf)) .leaf)) (.join ⟨[], [], []⟩ (.join ⟨[(68, .bool)], [], []⟩ .leaf (.cond (.seq .leaf (.cond .leaf .leaf)) .leaf)) (.seq (.join ⟨[(87, .bool)], [], []⟩ (.tree 12 (.quiet 0 (.quiet 1 (.quiet 2 (.quiet 3 (.quiet 4 (.quiet 5 (.quiet 6 (.quiet 7 (.quiet 8 (.quiet 9 (.quiet 10 (.quiet 11 .fin))))))))))))) (.cond (.seq .leaf (.seq .leaf .leaf)) .leaf)) (.seq .leaf (.seq .leaf (.seq .leaf (.seq .leaf (.seq .leaf (.cond (.seq .leaf (.seq .leaf .leaf)) (.seq .leaf (.seq .leaf .leaf)))))))))))))))))))))
def F108 (dataa : Option Addr) (datal : Nat) (datac : Nat) (a : Int) (b : Int) (limit : Int) (g : G) (R : Value → G → Prop) : Prop :=
  ∃ Inv : Nat → Int → Int → Int → Bool → Bool → G → Prop, ((∃ m0 : Nat, Inv m0 a b limit true true g)) ∧
  ∀ m : Nat, ∀ a_1 : Int, ∀ b_1 : Int, ∀ limit_1 : Int, ∀ wasBalanced : Bool, ∀ wasPartitioned : Bool, ∀ g1 : G, Le g g1 → Inv m a_1 b_1 limit_1 wasBalanced wasPartitioned g1 →
  InI64 (b_1 - a_1) ∧ ifB (leI (b_1 - a_1) (12 : Int))
  ((CallsP Try.prog 115 #[(.slice dataa datal datac), (.int .i64 a_1), (.int .i64 b_1)] g1 fun v g2 =>
  v = (.tuple ⟨[]⟩) ∧ ∀ g3 : G, Ex g2 g3 →
  R (.tuple ⟨[]⟩) g3))
  (ifB (eqI limit_1 (0 : Int))
  ((CallsP Try.prog 116 #[(.slice dataa datal datac), (.int .i64 a_1), (.int .i64 b_1)] g1 fun v g4 =>
  v = (.tuple ⟨[]⟩) ∧ ∀ g5 : G, Ex g4 g5 →
  R (.tuple ⟨[]⟩) g5))
  (∀ J : Int → G → Prop,
  (∀ limit_2 : Int, ∀ g6 : G, ((CallsP Try.prog 118 #[(.slice dataa datal datac), (.int .i64 a_1), (.int .i64 b_1)] g6 fun v g7 =>
  ∃ x0 : Int, ∃ x1 : Int, v = (.tuple ⟨[(.int .i64 x0), (.int .i64 x1)]⟩) ∧ ∀ J_1 : Int → Int → G → Prop,
  (∀ pivot : Int, ∀ hint : Int, ∀ g8 : G, (∀ J_2 : G → Prop,
  (∀ g9 : G, (∀ J_3 : Bool → G → Prop,
  (∀ v_1 : Bool, ∀ g10 : G, (ifB v_1
  ((CallsP Try.prog 121 #[(.slice dataa datal datac), (.int .i64 a_1), (.int .i64 b_1), (.int .i64 pivot)] g10 fun v g11 =>
  ∃ mid : Int, v = (.int .i64 mid) ∧ (∃ m_1 : Nat, m_1 < m ∧ Inv m_1 mid b_1 limit_2 wasBalanced wasPartitioned g11)))
  ((CallsP Try.prog 122 #[(.slice dataa datal datac), (.int .i64 a_1), (.int .i64 b_1), (.int .i64 pivot)] g10 fun v g12 =>
  ∃ x0_1 : Int, ∃ x1_1 : Bool, v = (.tuple ⟨[(.int .i64 x0_1), (.bool x1_1)]⟩) ∧ InI64 (x0_1 - a_1) ∧ InI64 (b_1 - x0_1) ∧ (8 : Int) ≠ 0 ∧ InI64 (Int.tdiv (b_1 - a_1) (8 : Int)) ∧ ifB (ltI (x0_1 - a_1) (b_1 - x0_1))
  ((CallsP Try.prog 108 #[(.slice dataa datal datac), (.int .i64 a_1), (.int .i64 x0_1), (.int .i64 limit_2)] g12 fun v g13 =>
  v = (.tuple ⟨[]⟩) ∧ InI64 (x0_1 + (1 : Int)) ∧ (∃ m_1 : Nat, m_1 < m ∧ Inv m_1 (x0_1 + (1 : Int)) b_1 limit_2 (leI (Int.tdiv (b_1 - a_1) (8 : Int)) (x0_1 - a_1)) x1_1 g13)))
  (InI64 (x0_1 + (1 : Int)) ∧ (CallsP Try.prog 108 #[(.slice dataa datal datac), (.int .i64 (x0_1 + (1 : Int))), (.int .i64 b_1), (.int .i64 limit_2)] g12 fun v g14 =>
  v = (.tuple ⟨[]⟩) ∧ (∃ m_1 : Nat, m_1 < m ∧ Inv m_1 a_1 x0_1 limit_2 (leI (Int.tdiv (b_1 - a_1) (8 : Int)) (b_1 - x0_1)) x1_1 g14)))))) → J_3 v_1 g10) →
  ∀ g15 : G, Ex g9 g15 →
  ifB (ltI (0 : Int) a_1)
  (InI64 (a_1 - (1 : Int)) ∧ (0 ≤ (a_1 - (1 : Int)) ∧ (a_1 - (1 : Int)) < ((datal : Nat) : Int)) ∧ derefP dataa fun ad => ∃ x : Int, g15.w.cell? (Addr.add ad (Int.toNat (a_1 - (1 : Int)) * 1)) = some (.int .i64 x) ∧ (0 ≤ pivot ∧ pivot < ((datal : Nat) : Int)) ∧ derefP dataa fun ad_1 => ∃ x_1 : Int, g15.w.cell? (Addr.add ad_1 (Int.toNat pivot * 1)) = some (.int .i64 x_1) ∧ (CallsP Try.prog 113 #[(.int .i64 x), (.int .i64 x_1)] g15 fun v g16 =>
  ∃ x_2 : Bool, v = (.bool x_2) ∧ J_3 (!x_2) g16))
  (J_3 false g15)) → J_2 g9) →
  ∀ J_4 : Bool → G → Prop,
  (∀ v_2 : Bool, ∀ g17 : G, (ifB v_2
  ((CallsP Try.prog 120 #[(.slice dataa datal datac), (.int .i64 a_1), (.int .i64 b_1)] g17 fun v g18 =>
  ∃ x_3 : Bool, v = (.bool x_3) ∧ ifB x_3
  (∀ g19 : G, Ex g18 g19 →
  R (.tuple ⟨[]⟩) g19)
  (J_2 g18)))
  (J_2 g17)) → J_4 v_2 g17) →
  ifB wasBalanced
  (ifB wasPartitioned
  (J_4 (eqI hint (1 : Int)) g8)
  (J_4 false g8))
  (J_4 false g8)) → J_1 pivot hint g8) →
  ifB (eqI x1 (2 : Int))
  ((CallsP Try.prog 119 #[(.slice dataa datal datac), (.int .i64 a_1), (.int .i64 b_1)] g7 fun v g20 =>
  v = (.tuple ⟨[]⟩) ∧ InI64 (b_1 - (1 : Int)) ∧ InI64 (x0 - a_1) ∧ InI64 ((b_1 - (1 : Int)) - (x0 - a_1)) ∧ J_1 ((b_1 - (1 : Int)) - (x0 - a_1)) (1 : Int) g20))
  (J_1 x0 x1 g7))) → J limit_2 g6) →
  ifB (!wasBalanced)
  ((CallsP Try.prog 117 #[(.slice dataa datal datac), (.int .i64 a_1), (.int .i64 b_1)] g1 fun v g21 =>
  v = (.tuple ⟨[]⟩) ∧ InI64 (limit_1 - (1 : Int)) ∧ J (limit_1 - (1 : Int)) g21))
  (J limit_1 g1)))
theorem F108_eq (dataa : Option Addr) (datal : Nat) (datac : Nat) (a : Int) (b : Int) (limit : Int) (g : G) (R : Value → G → Prop) : fnG cfg108 134 [] c108 an108 [(.slice dataa datal datac), (.int .i64 a), (.int .i64 b), (.int .i64 limit)] g nobody R = F108 dataa datal datac a b limit g R := by kernel_rfl
theorem call108 (dataa : Option Addr) (datal : Nat) (datac : Nat) (a : Int) (b : Int) (limit : Int) (g : G) (R : Value → G → Prop) (hF : F108 dataa datal datac a b limit g R) : CallsG Try.prog 108 #[(.slice dataa datal datac), (.int .i64 a), (.int .i64 b), (.int .i64 limit)] g nobody R :=
  fn_soundG (c := cfg108) TTok FNSok mixed Try.func108 (show Try.f108.body = some c108 by kernel_rfl) (show Try.f108.ntmps = 134 by kernel_rfl) (show Try.f108.results.toList = [] by kernel_rfl) rfl ((F108_eq dataa datal datac a b limit g R).mpr hF)

/- 109 math/bits.Len -/
noncomputable def c109 : Code := match Try.f109.body with
  | some c => c
  | none => .skip
noncomputable def cfg109 : Cfg := ⟨Try.prog, TT, FNS, [], [], [], TCH, false, false⟩
def an109 : AnnG := (.seq .leaf (.seq (.cond (.seq .leaf .leaf) .leaf) (.seq .leaf .leaf)))
def F109 (x : Int) (g : G) (R : Value → G → Prop) : Prop :=
  (CallsP Try.prog 124 #[(.int .u64 x)] g fun v g1 =>
  ∃ x_1 : Int, v = (.int .i64 x_1) ∧ ∀ g2 : G, Ex g1 g2 →
  R (.int .i64 x_1) g2)
theorem F109_eq (x : Int) (g : G) (R : Value → G → Prop) : fnG cfg109 8 [.tmp 2] c109 an109 [(.int .u64 x)] g nobody R = F109 x g R := by kernel_rfl
theorem call109 (x : Int) (g : G) (R : Value → G → Prop) (hF : F109 x g R) : CallsG Try.prog 109 #[(.int .u64 x)] g nobody R :=
  fn_soundG (c := cfg109) TTok FNSok mixed Try.func109 (show Try.f109.body = some c109 by kernel_rfl) (show Try.f109.ntmps = 8 by kernel_rfl) (show Try.f109.results.toList = [.tmp 2] by kernel_rfl) rfl ((F109_eq x g R).mpr hF)

/- 110 pilaster/heap.blocks -/
noncomputable def c110 : Code := match Try.f110.body with
  | some c => c
  | none => .skip
noncomputable def cfg110 : Cfg := ⟨Try.prog, TT, FNS, [], [], [1], TCH, false, false⟩
def an110 : AnnG := (.seq .leaf (.seq .leaf .leaf))
def F110 (h0a : Option Addr) (h0l : Nat) (h0c : Nat) (h1 : Int) (h2 : Int) (g : G) (R : Value → G → Prop) : Prop :=
  ∀ g1 : G, NewL g g1 24 ([(.slice h0a h0l h0c), (.int .i64 h1), (.int .i64 h2)] : List Value) →
  ∀ g2 : G, Ex g1 g2 →
  R (.func (.func 125) #[] ⟨[(.pointer (some ⟨g.w.heap.size, 0, none⟩))]⟩) g2
theorem F110_eq (h0a : Option Addr) (h0l : Nat) (h0c : Nat) (h1 : Int) (h2 : Int) (g : G) (R : Value → G → Prop) : fnG cfg110 4 [.tmp 2] c110 an110 [(.agg ⟨[(.slice h0a h0l h0c), (.int .i64 h1), (.int .i64 h2)]⟩)] g nobody R = F110 h0a h0l h0c h1 h2 g R := by kernel_rfl
theorem call110 (h0a : Option Addr) (h0l : Nat) (h0c : Nat) (h1 : Int) (h2 : Int) (g : G) (R : Value → G → Prop) (hF : F110 h0a h0l h0c h1 h2 g R) : CallsG Try.prog 110 #[(.agg ⟨[(.slice h0a h0l h0c), (.int .i64 h1), (.int .i64 h2)]⟩)] g nobody R :=
  fn_soundG (c := cfg110) TTok FNSok mixed Try.func110 (show Try.f110.body = some c110 by kernel_rfl) (show Try.f110.ntmps = 4 by kernel_rfl) (show Try.f110.results.toList = [.tmp 2] by kernel_rfl) rfl ((F110_eq h0a h0l h0c h1 h2 g R).mpr hF)

/- 111 slices.Grow[[]pilaster/api.Word,pilaster/api.Word] -/
noncomputable def c111 : Code := match Try.f111.body with
  | some c => c
  | none => .skip
noncomputable def cfg111 : Cfg := ⟨Try.prog, TT, FNS, [], [], [], TCH, false, false⟩
def an111 : AnnG := (.seq .leaf (.join ⟨[], [], []⟩ (.seq .leaf (.cond .leaf .leaf)) (.seq (.seq .leaf (.seq .leaf (.cond .leaf .leaf))) (.seq .leaf .leaf))))
def F111 (sa : Option Addr) (sl : Nat) (sc : Nat) (n : Int) (g : G) (R : Value → G → Prop) : Prop :=
  ∀ J : G → Prop,
  (∀ g1 : G, (InI64 (((sc : Nat) : Int) - ((sl : Nat) : Int)) ∧ InI64 (n - (((sc : Nat) : Int) - ((sl : Nat) : Int))) ∧ ifB (ltI (0 : Int) (n - (((sc : Nat) : Int) - ((sl : Nat) : Int))))
  ((0 ≤ ((sc : Nat) : Int) ∧ ((sc : Nat) : Int) ≤ ((sc : Nat) : Int)) ∧ ∃ xa : Option Addr, ∃ xl : Nat, ∃ xc : Nat, ∃ wo1 : World, Sem.run Try.prog (Builtin.append_ #[22, 3] 22 #[(.slice (slAddr sa sc 0 2) ((Int.toNat ((sc : Nat) : Int)) - 0) (sc - 0)), (.int .i64 (n - (((sc : Nat) : Int) - ((sl : Nat) : Int))))]) g1.w = .ok (.slice xa xl xc) wo1 ∧ ∃ g2 : G, g2.w = wo1 ∧ Stp g.w.heap.size nobody g1 g2 ∧ (0 ≤ ((sl : Nat) : Int) ∧ ((sl : Nat) : Int) ≤ ((xc : Nat) : Int)) ∧ ∀ g3 : G, Ex g2 g3 →
  R (.slice (slAddr xa xc 0 2) ((Int.toNat ((sl : Nat) : Int)) - 0) (xc - 0)) g3)
  (∀ g4 : G, Ex g1 g4 →
  R (.slice sa sl sc) g4)) → J g1) →
  ifB (ltI n (0 : Int))
  (False)
  (J g)
theorem F111_eq (sa : Option Addr) (sl : Nat) (sc : Nat) (n : Int) (g : G) (R : Value → G → Prop) : fnG cfg111 27 [.tmp 4] c111 an111 [(.slice sa sl sc), (.int .i64 n)] g nobody R = F111 sa sl sc n g R := by kernel_rfl
theorem call111 (sa : Option Addr) (sl : Nat) (sc : Nat) (n : Int) (g : G) (R : Value → G → Prop) (hF : F111 sa sl sc n g R) : CallsG Try.prog 111 #[(.slice sa sl sc), (.int .i64 n)] g nobody R :=
  fn_soundG (c := cfg111) TTok FNSok mixed Try.func111 (show Try.f111.body = some c111 by kernel_rfl) (show Try.f111.ntmps = 27 by kernel_rfl) (show Try.f111.results.toList = [.tmp 4] by kernel_rfl) rfl ((F111_eq sa sl sc n g R).mpr hF)

/- 112 slices.IndexFunc[[]pilaster/api.Value,pilaster/api.Value] -/
noncomputable def c112 : Code := match Try.f112.body with
  | some c => c
  | none => .skip
noncomputable def cfg112 : Cfg := ⟨Try.prog, TT, FNS, [], [], [], TCH, false, false⟩
def an112 : AnnG := (.seq .leaf (.seq (.seq .leaf (.blk (.loop ⟨[(8, .int .i64)], [], []⟩ (.seq .leaf (.seq (.cond .leaf .leaf) (.seq (.blk (.seq .leaf (.seq .leaf (.cond (.seq .leaf .leaf) .leaf)))) .leaf)))))) (.seq .leaf .leaf)))
def F112 (sa : Option Addr) (sl : Nat) (sc : Nat) (ff : FuncId) (fc : Array Value) (g : G) (R : Value → G → Prop) : Prop :=
  ∃ Inv : Nat → Int → G → Prop, ((∃ m0 : Nat, Inv m0 (0 : Int) g)) ∧
  ∀ m : Nat, ∀ v_1 : Int, ∀ g1 : G, Le g g1 → Inv m v_1 g1 →
  ifB (ltI v_1 ((sl : Nat) : Int))
  ((0 ≤ v_1 ∧ v_1 < ((sl : Nat) : Int)) ∧ derefP sa fun ad => ∃ x0 : Int, ∃ x1 : Int, ∃ x2 : ByteArray, ∃ x3a : Option Addr, ∃ x3l : Nat, ∃ x3c : Nat, ∃ x4a : Option Addr, ∃ x4l : Nat, ∃ x4c : Nat, g1.w.cell? (Addr.add ad (Int.toNat v_1 * 5)) = some (.int .i64 x0) ∧ g1.w.cell? (Addr.add (Addr.add ad (Int.toNat v_1 * 5)) 1) = some (.int .i64 x1) ∧ g1.w.cell? (Addr.add (Addr.add ad (Int.toNat v_1 * 5)) 2) = some (.string x2) ∧ g1.w.cell? (Addr.add (Addr.add ad (Int.toNat v_1 * 5)) 3) = some (.slice x3a x3l x3c) ∧ g1.w.cell? (Addr.add (Addr.add ad (Int.toNat v_1 * 5)) 4) = some (.slice x4a x4l x4c) ∧ Enters Try.prog ff ∧ (CallsP Try.prog ff ((⟨[(.agg ⟨[(.int .i64 x0), (.int .i64 x1), (.string x2), (.slice x3a x3l x3c), (.slice x4a x4l x4c)]⟩)]⟩ : Array Value) ++ fc) g1 fun v g2 =>
  ∃ x : Bool, v = (.bool x) ∧ ifB x
  (∀ g3 : G, Ex g2 g3 →
  R (.int .i64 v_1) g3)
  (InI64 (v_1 + (1 : Int)) ∧ (∃ m_1 : Nat, m_1 < m ∧ Inv m_1 (v_1 + (1 : Int)) g2))))
  (∀ g4 : G, Ex g1 g4 →
  R (.int .i64 (-1 : Int)) g4)
theorem F112_eq (sa : Option Addr) (sl : Nat) (sc : Nat) (ff : FuncId) (fc : Array Value) (g : G) (R : Value → G → Prop) : fnG cfg112 19 [.tmp 4] c112 an112 [(.slice sa sl sc), (.func (.func ff) #[] fc)] g nobody R = F112 sa sl sc ff fc g R := by kernel_rfl
theorem call112 (sa : Option Addr) (sl : Nat) (sc : Nat) (ff : FuncId) (fc : Array Value) (g : G) (R : Value → G → Prop) (hF : F112 sa sl sc ff fc g R) : CallsG Try.prog 112 #[(.slice sa sl sc), (.func (.func ff) #[] fc)] g nobody R :=
  fn_soundG (c := cfg112) TTok FNSok mixed Try.func112 (show Try.f112.body = some c112 by kernel_rfl) (show Try.f112.ntmps = 19 by kernel_rfl) (show Try.f112.results.toList = [.tmp 4] by kernel_rfl) rfl ((F112_eq sa sl sc ff fc g R).mpr hF)

/- 113 cmp.Less[int] -/
noncomputable def c113 : Code := match Try.f113.body with
  | some c => c
  | none => .skip
noncomputable def cfg113 : Cfg := ⟨Try.prog, TT, FNS, [], [], [], TCH, false, false⟩
def an113 : AnnG := (.seq .leaf (.seq .leaf .leaf))
def F113 (x : Int) (y : Int) (g : G) (R : Value → G → Prop) : Prop :=
  (CallsP Try.prog 127 #[(.int .i64 x)] g fun v g1 =>
  ∃ x_1 : Bool, v = (.bool x_1) ∧ ifB x_1
  ((CallsP Try.prog 127 #[(.int .i64 y)] g1 fun v g2 =>
  ∃ x_2 : Bool, v = (.bool x_2) ∧ ifB (!x_2)
  (∀ g3 : G, Ex g2 g3 →
  R (.bool true) g3)
  (∀ g4 : G, Ex g2 g4 →
  R (.bool (ltI x y)) g4)))
  (∀ g5 : G, Ex g1 g5 →
  R (.bool (ltI x y)) g5))
theorem F113_eq (x : Int) (y : Int) (g : G) (R : Value → G → Prop) : fnG cfg113 17 [.tmp 4] c113 an113 [(.int .i64 x), (.int .i64 y)] g nobody R = F113 x y g R := by kernel_rfl
theorem call113 (x : Int) (y : Int) (g : G) (R : Value → G → Prop) (hF : F113 x y g R) : CallsG Try.prog 113 #[(.int .i64 x), (.int .i64 y)] g nobody R :=
  fn_soundG (c := cfg113) TTok FNSok mixed Try.func113 (show Try.f113.body = some c113 by kernel_rfl) (show Try.f113.ntmps = 17 by kernel_rfl) (show Try.f113.results.toList = [.tmp 4] by kernel_rfl) rfl ((F113_eq x y g R).mpr hF)

/- 114 slices.isNaN[int] -/
noncomputable def c114 : Code := match Try.f114.body with
  | some c => c
  | none => .skip
noncomputable def cfg114 : Cfg := ⟨Try.prog, TT, FNS, [], [], [], TCH, false, false⟩
def an114 : AnnG := (.seq .leaf (.seq .leaf .leaf))
def F114 (x : Int) (g : G) (R : Value → G → Prop) : Prop :=
  ∀ g1 : G, Ex g g1 →
  R (.bool (!eqI x x)) g1
theorem F114_eq (x : Int) (g : G) (R : Value → G → Prop) : fnG cfg114 6 [.tmp 2] c114 an114 [(.int .i64 x)] g nobody R = F114 x g R := by kernel_rfl
theorem call114 (x : Int) (g : G) (R : Value → G → Prop) (hF : F114 x g R) : CallsG Try.prog 114 #[(.int .i64 x)] g nobody R :=
  fn_soundG (c := cfg114) TTok FNSok mixed Try.func114 (show Try.f114.body = some c114 by kernel_rfl) (show Try.f114.ntmps = 6 by kernel_rfl) (show Try.f114.results.toList = [.tmp 2] by kernel_rfl) rfl ((F114_eq x g R).mpr hF)

/- 115 slices.insertionSortOrdered[int] -/
noncomputable def c115 : Code := match Try.f115.body with
  | some c => c
  | none => .skip
noncomputable def cfg115 : Cfg := ⟨Try.prog, TT, FNS, [], [], [], TCH, false, false⟩
def an115 : AnnG := (.seq .leaf (.blk (.loop ⟨[(6, .int .i64)], [], []⟩ (.seq (.seq .leaf (.cond .leaf .leaf)) (.seq (.blk (.seq .leaf (.blk (.loop ⟨[(7, .int .i64)], [], []⟩ (.join ⟨[], [], []⟩ (.seq (.tree 13 (.quiet 0 (.quiet 1 (.quiet 2 (.quiet 3 (.quiet 4 (.quiet 5 (.quiet 6 (.quiet 7 (.quiet 8 (.quiet 9 (.quiet 10 (.quiet 11 (.quiet 12 .fin)))))))))))))) (.cond .leaf .leaf)) (.seq (.blk (.tree 16 (.quiet 0 (.quiet 1 (.quiet 2 (.quiet 3 (.quiet 4 (.quiet 5 (.quiet 6 (.quiet 7 (.quiet 8 (.quiet 9 (.quiet 10 (.quiet 11 (.quiet 12 (.quiet 13 (.quiet 14 (.eff 15 .fin .fin)))))))))))))))))) .leaf)))))) .leaf)))))
def F115 (dataa : Option Addr) (datal : Nat) (datac : Nat) (a : Int) (b : Int) (g : G) (R : Value → G → Prop) : Prop :=
  InI64 (a + (1 : Int)) ∧ ∃ Inv : Nat → Int → G → Prop, ((∃ m0 : Nat, Inv m0 (a + (1 : Int)) g)) ∧
  ∀ m : Nat, ∀ i : Int, ∀ g1 : G, Le g g1 → Inv m i g1 →
  ifB (ltI i b)
  (∃ Inv_1 : Nat → Int → G → Prop, ((∃ m0 : Nat, Inv_1 m0 i g1)) ∧
  ∀ m_2 : Nat, ∀ j : Int, ∀ g2 : G, Le g1 g2 → Inv_1 m_2 j g2 →
  ∀ J : G → Prop,
  (∀ g3 : G, (∀ g4 : G, Ex g3 g4 →
  InI64 (j - (1 : Int)) ∧ InI64 (j - (1 : Int)) ∧ (0 ≤ (j - (1 : Int)) ∧ (j - (1 : Int)) < ((datal : Nat) : Int)) ∧ derefP dataa fun ad => ∃ x : Int, g4.w.cell? (Addr.add ad (Int.toNat (j - (1 : Int)) * 1)) = some (.int .i64 x) ∧ (0 ≤ j ∧ j < ((datal : Nat) : Int)) ∧ derefP dataa fun ad_1 => ∃ x_1 : Int, g4.w.cell? (Addr.add ad_1 (Int.toNat j * 1)) = some (.int .i64 x_1) ∧ (0 ≤ j ∧ j < ((datal : Nat) : Int)) ∧ derefP dataa fun ad_2 => stOk g4.w (Addr.add ad_2 (Int.toNat j * 1)) 1 ∧ ¬ g4.X (Addr.block (Addr.add ad_2 (Int.toNat j * 1))) ∧ mutAt g4 (Addr.add ad_2 (Int.toNat j * 1)) 1 ∧ ((Addr.block (Addr.add ad_2 (Int.toNat j * 1))) < g.w.heap.size → nobody (Addr.block (Addr.add ad_2 (Int.toNat j * 1)))) ∧ ∀ g5 : G, StG false g4 (Addr.add ad_2 (Int.toNat j * 1)) [(.int .i64 x)] g5 →
  SameB g4 g5 ∧ (0 ≤ (j - (1 : Int)) ∧ (j - (1 : Int)) < ((datal : Nat) : Int)) ∧ derefP dataa fun ad_3 => stOk g5.w (Addr.add ad_3 (Int.toNat (j - (1 : Int)) * 1)) 1 ∧ ¬ g5.X (Addr.block (Addr.add ad_3 (Int.toNat (j - (1 : Int)) * 1))) ∧ mutAt g5 (Addr.add ad_3 (Int.toNat (j - (1 : Int)) * 1)) 1 ∧ ((Addr.block (Addr.add ad_3 (Int.toNat (j - (1 : Int)) * 1))) < g.w.heap.size → nobody (Addr.block (Addr.add ad_3 (Int.toNat (j - (1 : Int)) * 1)))) ∧ ∀ g6 : G, StG false g5 (Addr.add ad_3 (Int.toNat (j - (1 : Int)) * 1)) [(.int .i64 x_1)] g6 →
  InI64 (j - (1 : Int)) ∧ (∃ m_3 : Nat, m_3 < m_2 ∧ Inv_1 m_3 (j - (1 : Int)) g6)) → J g3) →
  ∀ g7 : G, Ex g2 g7 →
  ifB (ltI a j)
  ((0 ≤ j ∧ j < ((datal : Nat) : Int)) ∧ derefP dataa fun ad_4 => ∃ x_2 : Int, g7.w.cell? (Addr.add ad_4 (Int.toNat j * 1)) = some (.int .i64 x_2) ∧ InI64 (j - (1 : Int)) ∧ (0 ≤ (j - (1 : Int)) ∧ (j - (1 : Int)) < ((datal : Nat) : Int)) ∧ derefP dataa fun ad_5 => ∃ x_3 : Int, g7.w.cell? (Addr.add ad_5 (Int.toNat (j - (1 : Int)) * 1)) = some (.int .i64 x_3) ∧ (CallsP Try.prog 113 #[(.int .i64 x_2), (.int .i64 x_3)] g7 fun v g8 =>
  ∃ x_4 : Bool, v = (.bool x_4) ∧ ifB x_4
  (J g8)
  (InI64 (i + (1 : Int)) ∧ (∃ m_1 : Nat, m_1 < m ∧ Inv m_1 (i + (1 : Int)) g8))))
  (InI64 (i + (1 : Int)) ∧ (∃ m_1 : Nat, m_1 < m ∧ Inv m_1 (i + (1 : Int)) g7)))
  (∀ g9 : G, Ex g1 g9 →
  R (.tuple ⟨[]⟩) g9)
theorem F115_eq (dataa : Option Addr) (datal : Nat) (datac : Nat) (a : Int) (b : Int) (g : G) (R : Value → G → Prop) : fnG cfg115 49 [] c115 an115 [(.slice dataa datal datac), (.int .i64 a), (.int .i64 b)] g nobody R = F115 dataa datal datac a b g R := by kernel_rfl
theorem call115 (dataa : Option Addr) (datal : Nat) (datac : Nat) (a : Int) (b : Int) (g : G) (R : Value → G → Prop) (hF : F115 dataa datal datac a b g R) : CallsG Try.prog 115 #[(.slice dataa datal datac), (.int .i64 a), (.int .i64 b)] g nobody R :=
  fn_soundG (c := cfg115) TTok FNSok mixed Try.func115 (show Try.f115.body = some c115 by kernel_rfl) (show Try.f115.ntmps = 49 by kernel_rfl) (show Try.f115.results.toList = [] by kernel_rfl) rfl ((F115_eq dataa datal datac a b g R).mpr hF)

/- 116 slices.heapSortOrdered[int] -/
noncomputable def c116 : Code := match Try.f116.body with
  | some c => c
  | none => .skip
noncomputable def cfg116 : Cfg := ⟨Try.prog, TT, FNS, [], [], [], TCH, false, false⟩
def an116 : AnnG := (.seq .leaf (.seq .leaf (.seq .leaf (.seq (.seq .leaf (.blk (.loop ⟨[(9, .int .i64)], [], []⟩ (.seq (.seq .leaf (.cond .leaf .leaf)) (.seq (.blk .leaf) .leaf))))) (.seq .leaf (.blk (.loop ⟨[(10, .int .i64)], [], []⟩ (.seq (.seq .leaf (.cond .leaf .leaf)) (.seq (.blk (.seq (.tree 18 (.quiet 0 (.quiet 1 (.quiet 2 (.quiet 3 (.quiet 4 (.quiet 5 (.quiet 6 (.quiet 7 (.quiet 8 (.quiet 9 (.quiet 10 (.quiet 11 (.quiet 12 (.quiet 13 (.quiet 14 (.quiet 15 (.quiet 16 (.eff 17 .fin .fin))))))))))))))))))) .leaf)) .leaf)))))))))
def F116 (dataa : Option Addr) (datal : Nat) (datac : Nat) (a : Int) (b : Int) (g : G) (R : Value → G → Prop) : Prop :=
  InI64 (b - a) ∧ InI64 ((b - a) - (1 : Int)) ∧ (2 : Int) ≠ 0 ∧ InI64 (Int.tdiv ((b - a) - (1 : Int)) (2 : Int)) ∧ ∃ Inv : Nat → Int → G → Prop, ((∃ m0 : Nat, Inv m0 (Int.tdiv ((b - a) - (1 : Int)) (2 : Int)) g)) ∧
  ∀ m : Nat, ∀ i : Int, ∀ g1 : G, Le g g1 → Inv m i g1 →
  ifB (leI (0 : Int) i)
  ((CallsP Try.prog 128 #[(.slice dataa datal datac), (.int .i64 i), (.int .i64 (b - a)), (.int .i64 a)] g1 fun v g2 =>
  v = (.tuple ⟨[]⟩) ∧ InI64 (i - (1 : Int)) ∧ (∃ m_1 : Nat, m_1 < m ∧ Inv m_1 (i - (1 : Int)) g2)))
  (InI64 ((b - a) - (1 : Int)) ∧ ∃ Inv_1 : Nat → Int → G → Prop, ((∃ m0 : Nat, Inv_1 m0 ((b - a) - (1 : Int)) g1)) ∧
  ∀ m_2 : Nat, ∀ i_1 : Int, ∀ g3 : G, Le g1 g3 → Inv_1 m_2 i_1 g3 →
  ifB (leI (0 : Int) i_1)
  (∀ g4 : G, Ex g3 g4 →
  InI64 (a + i_1) ∧ InI64 (a + i_1) ∧ (0 ≤ (a + i_1) ∧ (a + i_1) < ((datal : Nat) : Int)) ∧ derefP dataa fun ad => ∃ x : Int, g4.w.cell? (Addr.add ad (Int.toNat (a + i_1) * 1)) = some (.int .i64 x) ∧ (0 ≤ a ∧ a < ((datal : Nat) : Int)) ∧ derefP dataa fun ad_1 => ∃ x_1 : Int, g4.w.cell? (Addr.add ad_1 (Int.toNat a * 1)) = some (.int .i64 x_1) ∧ (0 ≤ a ∧ a < ((datal : Nat) : Int)) ∧ derefP dataa fun ad_2 => stOk g4.w (Addr.add ad_2 (Int.toNat a * 1)) 1 ∧ ¬ g4.X (Addr.block (Addr.add ad_2 (Int.toNat a * 1))) ∧ mutAt g4 (Addr.add ad_2 (Int.toNat a * 1)) 1 ∧ ((Addr.block (Addr.add ad_2 (Int.toNat a * 1))) < g.w.heap.size → nobody (Addr.block (Addr.add ad_2 (Int.toNat a * 1)))) ∧ ∀ g5 : G, StG false g4 (Addr.add ad_2 (Int.toNat a * 1)) [(.int .i64 x)] g5 →
  SameB g4 g5 ∧ (0 ≤ (a + i_1) ∧ (a + i_1) < ((datal : Nat) : Int)) ∧ derefP dataa fun ad_3 => stOk g5.w (Addr.add ad_3 (Int.toNat (a + i_1) * 1)) 1 ∧ ¬ g5.X (Addr.block (Addr.add ad_3 (Int.toNat (a + i_1) * 1))) ∧ mutAt g5 (Addr.add ad_3 (Int.toNat (a + i_1) * 1)) 1 ∧ ((Addr.block (Addr.add ad_3 (Int.toNat (a + i_1) * 1))) < g.w.heap.size → nobody (Addr.block (Addr.add ad_3 (Int.toNat (a + i_1) * 1)))) ∧ ∀ g6 : G, StG false g5 (Addr.add ad_3 (Int.toNat (a + i_1) * 1)) [(.int .i64 x_1)] g6 →
  (CallsP Try.prog 128 #[(.slice dataa datal datac), (.int .i64 (0 : Int)), (.int .i64 i_1), (.int .i64 a)] g6 fun v g7 =>
  v = (.tuple ⟨[]⟩) ∧ InI64 (i_1 - (1 : Int)) ∧ (∃ m_3 : Nat, m_3 < m_2 ∧ Inv_1 m_3 (i_1 - (1 : Int)) g7)))
  (∀ g8 : G, Ex g3 g8 →
  R (.tuple ⟨[]⟩) g8))
theorem F116_eq (dataa : Option Addr) (datal : Nat) (datac : Nat) (a : Int) (b : Int) (g : G) (R : Value → G → Prop) : fnG cfg116 56 [] c116 an116 [(.slice dataa datal datac), (.int .i64 a), (.int .i64 b)] g nobody R = F116 dataa datal datac a b g R := by kernel_rfl
theorem call116 (dataa : Option Addr) (datal : Nat) (datac : Nat) (a : Int) (b : Int) (g : G) (R : Value → G → Prop) (hF : F116 dataa datal datac a b g R) : CallsG Try.prog 116 #[(.slice dataa datal datac), (.int .i64 a), (.int .i64 b)] g nobody R :=
  fn_soundG (c := cfg116) TTok FNSok mixed Try.func116 (show Try.f116.body = some c116 by kernel_rfl) (show Try.f116.ntmps = 56 by kernel_rfl) (show Try.f116.results.toList = [] by kernel_rfl) rfl ((F116_eq dataa datal datac a b g R).mpr hF)

/- 117 slices.breakPatternsOrdered[int] -/
noncomputable def c117 : Code := match Try.f117.body with
  | some c => c
  | none => .skip
noncomputable def cfg117 : Cfg := ⟨Try.prog, TT, FNS, [], [], [], TCH, false, false⟩
def an117 : AnnG := (.seq .leaf (.seq .leaf (.cond (.seq .leaf (.seq .leaf (.seq .leaf (.blk (.loop ⟨[(9, .int .i64)], [], []⟩ (.seq (.seq .leaf (.cond .leaf .leaf)) (.seq (.blk (.seq .leaf (.join ⟨[(10, .int .i64)], [], []⟩ (.seq .leaf (.cond .leaf .leaf)) (.tree 18 (.quiet 0 (.quiet 1 (.quiet 2 (.quiet 3 (.quiet 4 (.quiet 5 (.quiet 6 (.quiet 7 (.quiet 8 (.quiet 9 (.quiet 10 (.quiet 11 (.quiet 12 (.quiet 13 (.quiet 14 (.quiet 15 (.quiet 16 (.eff 17 .fin .fin)))))))))))))))))))))) .leaf))))))) .leaf)))
def F117 (dataa : Option Addr) (datal : Nat) (datac : Nat) (a : Int) (b : Int) (g : G) (R : Value → G → Prop) : Prop :=
  InI64 (b - a) ∧ ifB (leI (8 : Int) (b - a))
  (∀ g1 : G, NewD g g1 156 [(.int .u64 (0 : Int))] →
  stOk g1.w ⟨g.w.heap.size, 0, none⟩ 1 ∧ ¬ g1.X (Addr.block ⟨g.w.heap.size, 0, none⟩) ∧ mutAt g1 ⟨g.w.heap.size, 0, none⟩ 1 ∧ ((Addr.block ⟨g.w.heap.size, 0, none⟩) < g.w.heap.size → nobody (Addr.block ⟨g.w.heap.size, 0, none⟩)) ∧ ∀ g2 : G, StG false g1 ⟨g.w.heap.size, 0, none⟩ [(.int .u64 (IntKind.u64.wrap (b - a)))] g2 →
  (CallsP Try.prog 129 #[(.int .i64 (b - a))] g2 fun v g3 =>
  ∃ modulus : Int, v = (.int .u64 modulus) ∧ (4 : Int) ≠ 0 ∧ InI64 (Int.tdiv (b - a) (4 : Int)) ∧ InI64 ((Int.tdiv (b - a) (4 : Int)) * (2 : Int)) ∧ InI64 (a + ((Int.tdiv (b - a) (4 : Int)) * (2 : Int))) ∧ InI64 ((a + ((Int.tdiv (b - a) (4 : Int)) * (2 : Int))) - (1 : Int)) ∧ ∃ Inv : Nat → Int → G → Prop, ((∃ m0 : Nat, Inv m0 ((a + ((Int.tdiv (b - a) (4 : Int)) * (2 : Int))) - (1 : Int)) g3)) ∧
  ∀ m : Nat, ∀ idx : Int, ∀ g4 : G, Le g3 g4 → Inv m idx g4 →
  (4 : Int) ≠ 0 ∧ InI64 (Int.tdiv (b - a) (4 : Int)) ∧ InI64 ((Int.tdiv (b - a) (4 : Int)) * (2 : Int)) ∧ InI64 (a + ((Int.tdiv (b - a) (4 : Int)) * (2 : Int))) ∧ InI64 ((a + ((Int.tdiv (b - a) (4 : Int)) * (2 : Int))) + (1 : Int)) ∧ ifB (leI idx ((a + ((Int.tdiv (b - a) (4 : Int)) * (2 : Int))) + (1 : Int)))
  ((CallsP Try.prog 130 #[(.pointer (some ⟨g.w.heap.size, 0, none⟩))] g4 fun v g5 =>
  ∃ x : Int, v = (.int .u64 x) ∧ InI64 (bits BinOp.and IntKind.u64 x (IntKind.u64.wrap (modulus - (1 : Int)))) ∧ ∀ J : Int → G → Prop,
  (∀ other : Int, ∀ g6 : G, (∀ g7 : G, Ex g6 g7 →
  InI64 (a + other) ∧ InI64 (a + other) ∧ (0 ≤ (a + other) ∧ (a + other) < ((datal : Nat) : Int)) ∧ derefP dataa fun ad => ∃ x_1 : Int, g7.w.cell? (Addr.add ad (Int.toNat (a + other) * 1)) = some (.int .i64 x_1) ∧ (0 ≤ idx ∧ idx < ((datal : Nat) : Int)) ∧ derefP dataa fun ad_1 => ∃ x_2 : Int, g7.w.cell? (Addr.add ad_1 (Int.toNat idx * 1)) = some (.int .i64 x_2) ∧ (0 ≤ idx ∧ idx < ((datal : Nat) : Int)) ∧ derefP dataa fun ad_2 => stOk g7.w (Addr.add ad_2 (Int.toNat idx * 1)) 1 ∧ ¬ g7.X (Addr.block (Addr.add ad_2 (Int.toNat idx * 1))) ∧ mutAt g7 (Addr.add ad_2 (Int.toNat idx * 1)) 1 ∧ ((Addr.block (Addr.add ad_2 (Int.toNat idx * 1))) < g.w.heap.size → nobody (Addr.block (Addr.add ad_2 (Int.toNat idx * 1)))) ∧ ∀ g8 : G, StG false g7 (Addr.add ad_2 (Int.toNat idx * 1)) [(.int .i64 x_1)] g8 →
  SameB g7 g8 ∧ (0 ≤ (a + other) ∧ (a + other) < ((datal : Nat) : Int)) ∧ derefP dataa fun ad_3 => stOk g8.w (Addr.add ad_3 (Int.toNat (a + other) * 1)) 1 ∧ ¬ g8.X (Addr.block (Addr.add ad_3 (Int.toNat (a + other) * 1))) ∧ mutAt g8 (Addr.add ad_3 (Int.toNat (a + other) * 1)) 1 ∧ ((Addr.block (Addr.add ad_3 (Int.toNat (a + other) * 1))) < g.w.heap.size → nobody (Addr.block (Addr.add ad_3 (Int.toNat (a + other) * 1)))) ∧ ∀ g9 : G, StG false g8 (Addr.add ad_3 (Int.toNat (a + other) * 1)) [(.int .i64 x_2)] g9 →
  InI64 (idx + (1 : Int)) ∧ (∃ m_1 : Nat, m_1 < m ∧ Inv m_1 (idx + (1 : Int)) g9)) → J other g6) →
  ifB (leI (b - a) (bits BinOp.and IntKind.u64 x (IntKind.u64.wrap (modulus - (1 : Int)))))
  (InI64 ((bits BinOp.and IntKind.u64 x (IntKind.u64.wrap (modulus - (1 : Int)))) - (b - a)) ∧ J ((bits BinOp.and IntKind.u64 x (IntKind.u64.wrap (modulus - (1 : Int)))) - (b - a)) g5)
  (J (bits BinOp.and IntKind.u64 x (IntKind.u64.wrap (modulus - (1 : Int)))) g5)))
  (∀ g10 : G, Ex g4 g10 →
  R (.tuple ⟨[]⟩) g10)))
  (∀ g11 : G, Ex g g11 →
  R (.tuple ⟨[]⟩) g11)
theorem F117_eq (dataa : Option Addr) (datal : Nat) (datac : Nat) (a : Int) (b : Int) (g : G) (R : Value → G → Prop) : fnG cfg117 65 [] c117 an117 [(.slice dataa datal datac), (.int .i64 a), (.int .i64 b)] g nobody R = F117 dataa datal datac a b g R := by kernel_rfl
theorem call117 (dataa : Option Addr) (datal : Nat) (datac : Nat) (a : Int) (b : Int) (g : G) (R : Value → G → Prop) (hF : F117 dataa datal datac a b g R) : CallsG Try.prog 117 #[(.slice dataa datal datac), (.int .i64 a), (.int .i64 b)] g nobody R :=
  fn_soundG (c := cfg117) TTok FNSok mixed Try.func117 (show Try.f117.body = some c117 by kernel_rfl) (show Try.f117.ntmps = 65 by kernel_rfl) (show Try.f117.results.toList = [] by kernel_rfl) rfl ((F117_eq dataa datal datac a b g R).mpr hF)

/- 118 slices.choosePivotOrdered[int] -/
noncomputable def c118 : Code := match Try.f118.body with
  | some c => c
  | none => .skip
noncomputable def cfg118 : Cfg := ⟨Try.prog, TT, FNS, [], [], [], TCH, false, false⟩
def an118 : AnnG := (.seq .leaf (.seq .leaf (.seq .leaf (.seq .leaf (.seq .leaf (.seq .leaf (.join ⟨[(11, .int .i64)], [], []⟩ (.seq .leaf (.cond (.seq (.seq .leaf (.cond (.seq .leaf (.seq .leaf .leaf)) .leaf)) .leaf) .leaf)) (.seq .leaf (.blk (.seq .leaf (.cond (.seq .leaf .leaf) (.seq .leaf (.cond (.seq .leaf .leaf) (.seq .leaf .leaf))))))))))))))
def F118 (dataa : Option Addr) (datal : Nat) (datac : Nat) (a : Int) (b : Int) (g : G) (R : Value → G → Prop) : Prop :=
  InI64 (b - a) ∧ ∀ g1 : G, NewD g g1 3 [(.int .i64 (0 : Int))] →
  (4 : Int) ≠ 0 ∧ InI64 (Int.tdiv (b - a) (4 : Int)) ∧ InI64 ((Int.tdiv (b - a) (4 : Int)) * (1 : Int)) ∧ InI64 (a + ((Int.tdiv (b - a) (4 : Int)) * (1 : Int))) ∧ (4 : Int) ≠ 0 ∧ InI64 (Int.tdiv (b - a) (4 : Int)) ∧ InI64 ((Int.tdiv (b - a) (4 : Int)) * (2 : Int)) ∧ InI64 (a + ((Int.tdiv (b - a) (4 : Int)) * (2 : Int))) ∧ (4 : Int) ≠ 0 ∧ InI64 (Int.tdiv (b - a) (4 : Int)) ∧ InI64 ((Int.tdiv (b - a) (4 : Int)) * (3 : Int)) ∧ InI64 (a + ((Int.tdiv (b - a) (4 : Int)) * (3 : Int))) ∧ ∀ J : Int → G → Prop,
  (∀ j : Int, ∀ g2 : G, (∃ swaps : Int, g2.w.cell? ⟨g.w.heap.size, 0, none⟩ = some (.int .i64 swaps) ∧ ifB (eqI swaps (0 : Int))
  (∀ g3 : G, Ex g2 g3 →
  R (.tuple ⟨[(.int .i64 j), (.int .i64 (1 : Int))]⟩) g3)
  (ifB (eqI swaps (12 : Int))
  (∀ g4 : G, Ex g2 g4 →
  R (.tuple ⟨[(.int .i64 j), (.int .i64 (2 : Int))]⟩) g4)
  (∀ g5 : G, Ex g2 g5 →
  R (.tuple ⟨[(.int .i64 j), (.int .i64 (0 : Int))]⟩) g5))) → J j g2) →
  ifB (leI (8 : Int) (b - a))
  (ifB (leI (50 : Int) (b - a))
  ((CallsP Try.prog 131 #[(.slice dataa datal datac), (.int .i64 (a + ((Int.tdiv (b - a) (4 : Int)) * (1 : Int)))), (.pointer (some ⟨g.w.heap.size, 0, none⟩))] g1 fun v g6 =>
  ∃ i : Int, v = (.int .i64 i) ∧ (CallsP Try.prog 131 #[(.slice dataa datal datac), (.int .i64 (a + ((Int.tdiv (b - a) (4 : Int)) * (2 : Int)))), (.pointer (some ⟨g.w.heap.size, 0, none⟩))] g6 fun v g7 =>
  ∃ j_1 : Int, v = (.int .i64 j_1) ∧ (CallsP Try.prog 131 #[(.slice dataa datal datac), (.int .i64 (a + ((Int.tdiv (b - a) (4 : Int)) * (3 : Int)))), (.pointer (some ⟨g.w.heap.size, 0, none⟩))] g7 fun v g8 =>
  ∃ k : Int, v = (.int .i64 k) ∧ (CallsP Try.prog 132 #[(.slice dataa datal datac), (.int .i64 i), (.int .i64 j_1), (.int .i64 k), (.pointer (some ⟨g.w.heap.size, 0, none⟩))] g8 fun v g9 =>
  ∃ j_2 : Int, v = (.int .i64 j_2) ∧ J j_2 g9)))))
  ((CallsP Try.prog 132 #[(.slice dataa datal datac), (.int .i64 (a + ((Int.tdiv (b - a) (4 : Int)) * (1 : Int)))), (.int .i64 (a + ((Int.tdiv (b - a) (4 : Int)) * (2 : Int)))), (.int .i64 (a + ((Int.tdiv (b - a) (4 : Int)) * (3 : Int)))), (.pointer (some ⟨g.w.heap.size, 0, none⟩))] g1 fun v g10 =>
  ∃ j_3 : Int, v = (.int .i64 j_3) ∧ J j_3 g10)))
  (J (a + ((Int.tdiv (b - a) (4 : Int)) * (2 : Int))) g1)
theorem F118_eq (dataa : Option Addr) (datal : Nat) (datac : Nat) (a : Int) (b : Int) (g : G) (R : Value → G → Prop) : fnG cfg118 57 [.tmp 6, .tmp 7] c118 an118 [(.slice dataa datal datac), (.int .i64 a), (.int .i64 b)] g nobody R = F118 dataa datal datac a b g R := by kernel_rfl
theorem call118 (dataa : Option Addr) (datal : Nat) (datac : Nat) (a : Int) (b : Int) (g : G) (R : Value → G → Prop) (hF : F118 dataa datal datac a b g R) : CallsG Try.prog 118 #[(.slice dataa datal datac), (.int .i64 a), (.int .i64 b)] g nobody R :=
  fn_soundG (c := cfg118) TTok FNSok mixed Try.func118 (show Try.f118.body = some c118 by kernel_rfl) (show Try.f118.ntmps = 57 by kernel_rfl) (show Try.f118.results.toList = [.tmp 6, .tmp 7] by kernel_rfl) rfl ((F118_eq dataa datal datac a b g R).mpr hF)

/- 119 slices.reverseRangeOrdered[int] -/
noncomputable def c119 : Code := match Try.f119.body with
  | some c => c
  | none => .skip
noncomputable def cfg119 : Cfg := ⟨Try.prog, TT, FNS, [], [], [], TCH, false, false⟩
def an119 : AnnG := (.seq .leaf (.seq .leaf (.blk (.loop ⟨[(6, .int .i64), (7, .int .i64)], [], []⟩ (.seq (.seq .leaf (.cond .leaf .leaf)) (.blk (.seq (.tree 14 (.quiet 0 (.quiet 1 (.quiet 2 (.quiet 3 (.quiet 4 (.quiet 5 (.quiet 6 (.quiet 7 (.quiet 8 (.quiet 9 (.quiet 10 (.quiet 11 (.quiet 12 (.eff 13 .fin .fin))))))))))))))) (.seq .leaf .leaf))))))))
def F119 (dataa : Option Addr) (datal : Nat) (datac : Nat) (a : Int) (b : Int) (g : G) (R : Value → G → Prop) : Prop :=
  InI64 (b - (1 : Int)) ∧ ∃ Inv : Nat → Int → Int → G → Prop, ((∃ m0 : Nat, Inv m0 a (b - (1 : Int)) g)) ∧
  ∀ m : Nat, ∀ i : Int, ∀ j : Int, ∀ g1 : G, Le g g1 → Inv m i j g1 →
  ifB (ltI i j)
  (∀ g2 : G, Ex g1 g2 →
  (0 ≤ j ∧ j < ((datal : Nat) : Int)) ∧ derefP dataa fun ad => ∃ x : Int, g2.w.cell? (Addr.add ad (Int.toNat j * 1)) = some (.int .i64 x) ∧ (0 ≤ i ∧ i < ((datal : Nat) : Int)) ∧ derefP dataa fun ad_1 => ∃ x_1 : Int, g2.w.cell? (Addr.add ad_1 (Int.toNat i * 1)) = some (.int .i64 x_1) ∧ (0 ≤ i ∧ i < ((datal : Nat) : Int)) ∧ derefP dataa fun ad_2 => stOk g2.w (Addr.add ad_2 (Int.toNat i * 1)) 1 ∧ ¬ g2.X (Addr.block (Addr.add ad_2 (Int.toNat i * 1))) ∧ mutAt g2 (Addr.add ad_2 (Int.toNat i * 1)) 1 ∧ ((Addr.block (Addr.add ad_2 (Int.toNat i * 1))) < g.w.heap.size → nobody (Addr.block (Addr.add ad_2 (Int.toNat i * 1)))) ∧ ∀ g3 : G, StG false g2 (Addr.add ad_2 (Int.toNat i * 1)) [(.int .i64 x)] g3 →
  SameB g2 g3 ∧ (0 ≤ j ∧ j < ((datal : Nat) : Int)) ∧ derefP dataa fun ad_3 => stOk g3.w (Addr.add ad_3 (Int.toNat j * 1)) 1 ∧ ¬ g3.X (Addr.block (Addr.add ad_3 (Int.toNat j * 1))) ∧ mutAt g3 (Addr.add ad_3 (Int.toNat j * 1)) 1 ∧ ((Addr.block (Addr.add ad_3 (Int.toNat j * 1))) < g.w.heap.size → nobody (Addr.block (Addr.add ad_3 (Int.toNat j * 1)))) ∧ ∀ g4 : G, StG false g3 (Addr.add ad_3 (Int.toNat j * 1)) [(.int .i64 x_1)] g4 →
  InI64 (i + (1 : Int)) ∧ InI64 (j - (1 : Int)) ∧ (∃ m_1 : Nat, m_1 < m ∧ Inv m_1 (i + (1 : Int)) (j - (1 : Int)) g4))
  (∀ g5 : G, Ex g1 g5 →
  R (.tuple ⟨[]⟩) g5)
theorem F119_eq (dataa : Option Addr) (datal : Nat) (datac : Nat) (a : Int) (b : Int) (g : G) (R : Value → G → Prop) : fnG cfg119 32 [] c119 an119 [(.slice dataa datal datac), (.int .i64 a), (.int .i64 b)] g nobody R = F119 dataa datal datac a b g R := by kernel_rfl
theorem call119 (dataa : Option Addr) (datal : Nat) (datac : Nat) (a : Int) (b : Int) (g : G) (R : Value → G → Prop) (hF : F119 dataa datal datac a b g R) : CallsG Try.prog 119 #[(.slice dataa datal datac), (.int .i64 a), (.int .i64 b)] g nobody R :=
  fn_soundG (c := cfg119) TTok FNSok mixed Try.func119 (show Try.f119.body = some c119 by kernel_rfl) (show Try.f119.ntmps = 32 by kernel_rfl) (show Try.f119.results.toList = [] by kernel_rfl) rfl ((F119_eq dataa datal datac a b g R).mpr hF)

/- 120 slices.partialInsertionSortOrdered[int] -/
noncomputable def c120 : Code := match Try.f120.body with
  | some c => c
  | none => .skip
noncomputable def cfg120 : Cfg := ⟨Try.prog, TT, FNS, [], [], [], TCH, false, false⟩
def an120 : AnnG := (.seq .leaf (.seq .leaf (.seq (.seq .leaf (.blk (.loop ⟨[(7, .int .i64), (8, .int .i64)], [], []⟩ (.seq (.seq .leaf (.cond .leaf .leaf)) (.seq (.blk (.join ⟨[(7, .int .i64)], [], []⟩ (.blk (.loop ⟨[(7, .int .i64)], [], []⟩ (.seq (.seq (.tree 13 (.quiet 0 (.quiet 1 (.quiet 2 (.quiet 3 (.quiet 4 (.quiet 5 (.quiet 6 (.quiet 7 (.quiet 8 (.quiet 9 (.quiet 10 (.quiet 11 (.quiet 12 .fin)))))))))))))) (.cond .leaf .leaf)) (.blk .leaf)))) (.seq (.seq .leaf (.cond (.seq .leaf .leaf) .leaf)) (.seq (.seq .leaf (.cond (.seq .leaf .leaf) .leaf)) (.seq (.tree 16 (.quiet 0 (.quiet 1 (.quiet 2 (.quiet 3 (.quiet 4 (.quiet 5 (.quiet 6 (.quiet 7 (.quiet 8 (.quiet 9 (.quiet 10 (.quiet 11 (.quiet 12 (.quiet 13 (.quiet 14 (.eff 15 .fin .fin))))))))))))))))) (.join ⟨[], [], []⟩ (.seq .leaf (.cond (.seq .leaf (.blk (.loop ⟨[(9, .int .i64)], [], []⟩ (.seq (.seq .leaf (.cond .leaf .leaf)) (.seq (.blk (.seq (.seq (.tree 9 (.quiet 0 (.quiet 1 (.quiet 2 (.quiet 3 (.quiet 4 (.quiet 5 (.quiet 6 (.quiet 7 (.quiet 8 .fin)))))))))) (.cond .leaf .leaf)) (.tree 16 (.quiet 0 (.quiet 1 (.quiet 2 (.quiet 3 (.quiet 4 (.quiet 5 (.quiet 6 (.quiet 7 (.quiet 8 (.quiet 9 (.quiet 10 (.quiet 11 (.quiet 12 (.quiet 13 (.quiet 14 (.eff 15 .fin .fin))))))))))))))))))) .leaf))))) .leaf)) (.seq .leaf (.cond (.seq .leaf (.blk (.loop ⟨[(10, .int .i64)], [], []⟩ (.seq (.seq .leaf (.cond .leaf .leaf)) (.seq (.blk (.seq (.seq (.tree 9 (.quiet 0 (.quiet 1 (.quiet 2 (.quiet 3 (.quiet 4 (.quiet 5 (.quiet 6 (.quiet 7 (.quiet 8 .fin)))))))))) (.cond .leaf .leaf)) (.tree 16 (.quiet 0 (.quiet 1 (.quiet 2 (.quiet 3 (.quiet 4 (.quiet 5 (.quiet 6 (.quiet 7 (.quiet 8 (.quiet 9 (.quiet 10 (.quiet 11 (.quiet 12 (.quiet 13 (.quiet 14 (.eff 15 .fin .fin))))))))))))))))))) .leaf))))) .leaf)))))))) .leaf))))) (.seq .leaf .leaf))))
def F120 (dataa : Option Addr) (datal : Nat) (datac : Nat) (a : Int) (b : Int) (g : G) (R : Value → G → Prop) : Prop :=
  InI64 (a + (1 : Int)) ∧ ∃ Inv : Nat → Int → Int → G → Prop, ((∃ m0 : Nat, Inv m0 (a + (1 : Int)) (0 : Int) g)) ∧
  ∀ m : Nat, ∀ i : Int, ∀ j : Int, ∀ g1 : G, Le g g1 → Inv m i j g1 →
  ifB (ltI j (5 : Int))
  (∀ J : Int → G → Prop,
  (∀ i_1 : Int, ∀ g2 : G, (ifB (eqI i_1 b)
  (∀ g3 : G, Ex g2 g3 →
  R (.bool true) g3)
  (InI64 (b - a) ∧ ifB (ltI (b - a) (50 : Int))
  (∀ g4 : G, Ex g2 g4 →
  R (.bool false) g4)
  (∀ g5 : G, Ex g2 g5 →
  InI64 (i_1 - (1 : Int)) ∧ InI64 (i_1 - (1 : Int)) ∧ (0 ≤ (i_1 - (1 : Int)) ∧ (i_1 - (1 : Int)) < ((datal : Nat) : Int)) ∧ derefP dataa fun ad => ∃ x : Int, g5.w.cell? (Addr.add ad (Int.toNat (i_1 - (1 : Int)) * 1)) = some (.int .i64 x) ∧ (0 ≤ i_1 ∧ i_1 < ((datal : Nat) : Int)) ∧ derefP dataa fun ad_1 => ∃ x_1 : Int, g5.w.cell? (Addr.add ad_1 (Int.toNat i_1 * 1)) = some (.int .i64 x_1) ∧ (0 ≤ i_1 ∧ i_1 < ((datal : Nat) : Int)) ∧ derefP dataa fun ad_2 => stOk g5.w (Addr.add ad_2 (Int.toNat i_1 * 1)) 1 ∧ ¬ g5.X (Addr.block (Addr.add ad_2 (Int.toNat i_1 * 1))) ∧ mutAt g5 (Addr.add ad_2 (Int.toNat i_1 * 1)) 1 ∧ ((Addr.block (Addr.add ad_2 (Int.toNat i_1 * 1))) < g.w.heap.size → nobody (Addr.block (Addr.add ad_2 (Int.toNat i_1 * 1)))) ∧ ∀ g6 : G, StG false g5 (Addr.add ad_2 (Int.toNat i_1 * 1)) [(.int .i64 x)] g6 →
  SameB g5 g6 ∧ (0 ≤ (i_1 - (1 : Int)) ∧ (i_1 - (1 : Int)) < ((datal : Nat) : Int)) ∧ derefP dataa fun ad_3 => stOk g6.w (Addr.add ad_3 (Int.toNat (i_1 - (1 : Int)) * 1)) 1 ∧ ¬ g6.X (Addr.block (Addr.add ad_3 (Int.toNat (i_1 - (1 : Int)) * 1))) ∧ mutAt g6 (Addr.add ad_3 (Int.toNat (i_1 - (1 : Int)) * 1)) 1 ∧ ((Addr.block (Addr.add ad_3 (Int.toNat (i_1 - (1 : Int)) * 1))) < g.w.heap.size → nobody (Addr.block (Addr.add ad_3 (Int.toNat (i_1 - (1 : Int)) * 1)))) ∧ ∀ g7 : G, StG false g6 (Addr.add ad_3 (Int.toNat (i_1 - (1 : Int)) * 1)) [(.int .i64 x_1)] g7 →
  ∀ J_1 : G → Prop,
  (∀ g8 : G, (InI64 (b - i_1) ∧ ifB (leI (2 : Int) (b - i_1))
  (InI64 (i_1 + (1 : Int)) ∧ ∃ Inv_1 : Nat → Int → G → Prop, ((∃ m0 : Nat, Inv_1 m0 (i_1 + (1 : Int)) g8)) ∧
  ∀ m_2 : Nat, ∀ j_1 : Int, ∀ g9 : G, Le g8 g9 → Inv_1 m_2 j_1 g9 →
  ifB (ltI j_1 b)
  (∀ g10 : G, Ex g9 g10 →
  (0 ≤ j_1 ∧ j_1 < ((datal : Nat) : Int)) ∧ derefP dataa fun ad_4 => ∃ x_2 : Int, g10.w.cell? (Addr.add ad_4 (Int.toNat j_1 * 1)) = some (.int .i64 x_2) ∧ InI64 (j_1 - (1 : Int)) ∧ (0 ≤ (j_1 - (1 : Int)) ∧ (j_1 - (1 : Int)) < ((datal : Nat) : Int)) ∧ derefP dataa fun ad_5 => ∃ x_3 : Int, g10.w.cell? (Addr.add ad_5 (Int.toNat (j_1 - (1 : Int)) * 1)) = some (.int .i64 x_3) ∧ (CallsP Try.prog 113 #[(.int .i64 x_2), (.int .i64 x_3)] g10 fun v g11 =>
  ∃ x_4 : Bool, v = (.bool x_4) ∧ ifB (!x_4)
  (InI64 (j + (1 : Int)) ∧ (∃ m_1 : Nat, m_1 < m ∧ Inv m_1 i_1 (j + (1 : Int)) g11))
  (∀ g12 : G, Ex g11 g12 →
  InI64 (j_1 - (1 : Int)) ∧ InI64 (j_1 - (1 : Int)) ∧ (0 ≤ (j_1 - (1 : Int)) ∧ (j_1 - (1 : Int)) < ((datal : Nat) : Int)) ∧ derefP dataa fun ad_6 => ∃ x_5 : Int, g12.w.cell? (Addr.add ad_6 (Int.toNat (j_1 - (1 : Int)) * 1)) = some (.int .i64 x_5) ∧ (0 ≤ j_1 ∧ j_1 < ((datal : Nat) : Int)) ∧ derefP dataa fun ad_7 => ∃ x_6 : Int, g12.w.cell? (Addr.add ad_7 (Int.toNat j_1 * 1)) = some (.int .i64 x_6) ∧ (0 ≤ j_1 ∧ j_1 < ((datal : Nat) : Int)) ∧ derefP dataa fun ad_8 => stOk g12.w (Addr.add ad_8 (Int.toNat j_1 * 1)) 1 ∧ ¬ g12.X (Addr.block (Addr.add ad_8 (Int.toNat j_1 * 1))) ∧ mutAt g12 (Addr.add ad_8 (Int.toNat j_1 * 1)) 1 ∧ ((Addr.block (Addr.add ad_8 (Int.toNat j_1 * 1))) < g.w.heap.size → nobody (Addr.block (Addr.add ad_8 (Int.toNat j_1 * 1)))) ∧ ∀ g13 : G, StG false g12 (Addr.add ad_8 (Int.toNat j_1 * 1)) [(.int .i64 x_5)] g13 →
  SameB g12 g13 ∧ (0 ≤ (j_1 - (1 : Int)) ∧ (j_1 - (1 : Int)) < ((datal : Nat) : Int)) ∧ derefP dataa fun ad_9 => stOk g13.w (Addr.add ad_9 (Int.toNat (j_1 - (1 : Int)) * 1)) 1 ∧ ¬ g13.X (Addr.block (Addr.add ad_9 (Int.toNat (j_1 - (1 : Int)) * 1))) ∧ mutAt g13 (Addr.add ad_9 (Int.toNat (j_1 - (1 : Int)) * 1)) 1 ∧ ((Addr.block (Addr.add ad_9 (Int.toNat (j_1 - (1 : Int)) * 1))) < g.w.heap.size → nobody (Addr.block (Addr.add ad_9 (Int.toNat (j_1 - (1 : Int)) * 1)))) ∧ ∀ g14 : G, StG false g13 (Addr.add ad_9 (Int.toNat (j_1 - (1 : Int)) * 1)) [(.int .i64 x_6)] g14 →
  InI64 (j_1 + (1 : Int)) ∧ (∃ m_3 : Nat, m_3 < m_2 ∧ Inv_1 m_3 (j_1 + (1 : Int)) g14))))
  (InI64 (j + (1 : Int)) ∧ (∃ m_1 : Nat, m_1 < m ∧ Inv m_1 i_1 (j + (1 : Int)) g9)))
  (InI64 (j + (1 : Int)) ∧ (∃ m_1 : Nat, m_1 < m ∧ Inv m_1 i_1 (j + (1 : Int)) g8))) → J_1 g8) →
  InI64 (i_1 - a) ∧ ifB (leI (2 : Int) (i_1 - a))
  (InI64 (i_1 - (1 : Int)) ∧ ∃ Inv_2 : Nat → Int → G → Prop, ((∃ m0 : Nat, Inv_2 m0 (i_1 - (1 : Int)) g7)) ∧
  ∀ m_4 : Nat, ∀ j_2 : Int, ∀ g15 : G, Le g7 g15 → Inv_2 m_4 j_2 g15 →
  ifB (leI (1 : Int) j_2)
  (∀ g16 : G, Ex g15 g16 →
  (0 ≤ j_2 ∧ j_2 < ((datal : Nat) : Int)) ∧ derefP dataa fun ad_10 => ∃ x_7 : Int, g16.w.cell? (Addr.add ad_10 (Int.toNat j_2 * 1)) = some (.int .i64 x_7) ∧ InI64 (j_2 - (1 : Int)) ∧ (0 ≤ (j_2 - (1 : Int)) ∧ (j_2 - (1 : Int)) < ((datal : Nat) : Int)) ∧ derefP dataa fun ad_11 => ∃ x_8 : Int, g16.w.cell? (Addr.add ad_11 (Int.toNat (j_2 - (1 : Int)) * 1)) = some (.int .i64 x_8) ∧ (CallsP Try.prog 113 #[(.int .i64 x_7), (.int .i64 x_8)] g16 fun v g17 =>
  ∃ x_9 : Bool, v = (.bool x_9) ∧ ifB (!x_9)
  (J_1 g17)
  (∀ g18 : G, Ex g17 g18 →
  InI64 (j_2 - (1 : Int)) ∧ InI64 (j_2 - (1 : Int)) ∧ (0 ≤ (j_2 - (1 : Int)) ∧ (j_2 - (1 : Int)) < ((datal : Nat) : Int)) ∧ derefP dataa fun ad_12 => ∃ x_10 : Int, g18.w.cell? (Addr.add ad_12 (Int.toNat (j_2 - (1 : Int)) * 1)) = some (.int .i64 x_10) ∧ (0 ≤ j_2 ∧ j_2 < ((datal : Nat) : Int)) ∧ derefP dataa fun ad_13 => ∃ x_11 : Int, g18.w.cell? (Addr.add ad_13 (Int.toNat j_2 * 1)) = some (.int .i64 x_11) ∧ (0 ≤ j_2 ∧ j_2 < ((datal : Nat) : Int)) ∧ derefP dataa fun ad_14 => stOk g18.w (Addr.add ad_14 (Int.toNat j_2 * 1)) 1 ∧ ¬ g18.X (Addr.block (Addr.add ad_14 (Int.toNat j_2 * 1))) ∧ mutAt g18 (Addr.add ad_14 (Int.toNat j_2 * 1)) 1 ∧ ((Addr.block (Addr.add ad_14 (Int.toNat j_2 * 1))) < g.w.heap.size → nobody (Addr.block (Addr.add ad_14 (Int.toNat j_2 * 1)))) ∧ ∀ g19 : G, StG false g18 (Addr.add ad_14 (Int.toNat j_2 * 1)) [(.int .i64 x_10)] g19 →
  SameB g18 g19 ∧ (0 ≤ (j_2 - (1 : Int)) ∧ (j_2 - (1 : Int)) < ((datal : Nat) : Int)) ∧ derefP dataa fun ad_15 => stOk g19.w (Addr.add ad_15 (Int.toNat (j_2 - (1 : Int)) * 1)) 1 ∧ ¬ g19.X (Addr.block (Addr.add ad_15 (Int.toNat (j_2 - (1 : Int)) * 1))) ∧ mutAt g19 (Addr.add ad_15 (Int.toNat (j_2 - (1 : Int)) * 1)) 1 ∧ ((Addr.block (Addr.add ad_15 (Int.toNat (j_2 - (1 : Int)) * 1))) < g.w.heap.size → nobody (Addr.block (Addr.add ad_15 (Int.toNat (j_2 - (1 : Int)) * 1)))) ∧ ∀ g20 : G, StG false g19 (Addr.add ad_15 (Int.toNat (j_2 - (1 : Int)) * 1)) [(.int .i64 x_11)] g20 →
  InI64 (j_2 - (1 : Int)) ∧ (∃ m_5 : Nat, m_5 < m_4 ∧ Inv_2 m_5 (j_2 - (1 : Int)) g20))))
  (J_1 g15))
  (J_1 g7)))) → J i_1 g2) →
  ∃ Inv_3 : Nat → Int → G → Prop, ((∃ m0 : Nat, Inv_3 m0 i g1)) ∧
  ∀ m_6 : Nat, ∀ i_2 : Int, ∀ g21 : G, Le g1 g21 → Inv_3 m_6 i_2 g21 →
  ∀ g22 : G, Ex g21 g22 →
  ifB (ltI i_2 b)
  ((0 ≤ i_2 ∧ i_2 < ((datal : Nat) : Int)) ∧ derefP dataa fun ad_16 => ∃ x_12 : Int, g22.w.cell? (Addr.add ad_16 (Int.toNat i_2 * 1)) = some (.int .i64 x_12) ∧ InI64 (i_2 - (1 : Int)) ∧ (0 ≤ (i_2 - (1 : Int)) ∧ (i_2 - (1 : Int)) < ((datal : Nat) : Int)) ∧ derefP dataa fun ad_17 => ∃ x_13 : Int, g22.w.cell? (Addr.add ad_17 (Int.toNat (i_2 - (1 : Int)) * 1)) = some (.int .i64 x_13) ∧ (CallsP Try.prog 113 #[(.int .i64 x_12), (.int .i64 x_13)] g22 fun v g23 =>
  ∃ x_14 : Bool, v = (.bool x_14) ∧ ifB (!x_14)
  (InI64 (i_2 + (1 : Int)) ∧ (∃ m_7 : Nat, m_7 < m_6 ∧ Inv_3 m_7 (i_2 + (1 : Int)) g23))
  (J i_2 g23)))
  (J i_2 g22))
  (∀ g24 : G, Ex g1 g24 →
  R (.bool false) g24)
theorem F120_eq (dataa : Option Addr) (datal : Nat) (datac : Nat) (a : Int) (b : Int) (g : G) (R : Value → G → Prop) : fnG cfg120 133 [.tmp 6] c120 an120 [(.slice dataa datal datac), (.int .i64 a), (.int .i64 b)] g nobody R = F120 dataa datal datac a b g R := by kernel_rfl
theorem call120 (dataa : Option Addr) (datal : Nat) (datac : Nat) (a : Int) (b : Int) (g : G) (R : Value → G → Prop) (hF : F120 dataa datal datac a b g R) : CallsG Try.prog 120 #[(.slice dataa datal datac), (.int .i64 a), (.int .i64 b)] g nobody R :=
  fn_soundG (c := cfg120) TTok FNSok mixed Try.func120 (show Try.f120.body = some c120 by kernel_rfl) (show Try.f120.ntmps = 133 by kernel_rfl) (show Try.f120.results.toList = [.tmp 6] by kernel_rfl) rfl ((F120_eq dataa datal datac a b g R).mpr hF)

/- 121 slices.partitionEqualOrdered[int] -/
noncomputable def c121 : Code := match Try.f121.body with
  | some c => c
  | none => .skip
noncomputable def cfg121 : Cfg := ⟨Try.prog, TT, FNS, [], [], [], TCH, false, false⟩
def an121 : AnnG := (.seq .leaf (.seq (.tree 14 (.quiet 0 (.quiet 1 (.quiet 2 (.quiet 3 (.quiet 4 (.quiet 5 (.quiet 6 (.quiet 7 (.quiet 8 (.quiet 9 (.quiet 10 (.quiet 11 (.quiet 12 (.eff 13 .fin .fin))))))))))))))) (.seq .leaf (.seq (.blk (.loop ⟨[(9, .int .i64), (10, .int .i64)], [], []⟩ (.blk (.join ⟨[(9, .int .i64)], [], []⟩ (.blk (.loop ⟨[(9, .int .i64)], [], []⟩ (.seq (.seq (.tree 12 (.quiet 0 (.quiet 1 (.quiet 2 (.quiet 3 (.quiet 4 (.quiet 5 (.quiet 6 (.quiet 7 (.quiet 8 (.quiet 9 (.quiet 10 (.quiet 11 .fin))))))))))))) (.cond .leaf .leaf)) (.blk .leaf)))) (.join ⟨[(10, .int .i64)], [], []⟩ (.blk (.loop ⟨[(10, .int .i64)], [], []⟩ (.seq (.seq (.tree 12 (.quiet 0 (.quiet 1 (.quiet 2 (.quiet 3 (.quiet 4 (.quiet 5 (.quiet 6 (.quiet 7 (.quiet 8 (.quiet 9 (.quiet 10 (.quiet 11 .fin))))))))))))) (.cond .leaf .leaf)) (.blk .leaf)))) (.seq (.seq .leaf (.cond .leaf .leaf)) (.seq (.tree 14 (.quiet 0 (.quiet 1 (.quiet 2 (.quiet 3 (.quiet 4 (.quiet 5 (.quiet 6 (.quiet 7 (.quiet 8 (.quiet 9 (.quiet 10 (.quiet 11 (.quiet 12 (.eff 13 .fin .fin))))))))))))))) (.seq .leaf .leaf)))))))) (.seq .leaf .leaf)))))
def F121 (dataa : Option Addr) (datal : Nat) (datac : Nat) (a : Int) (b : Int) (pivot : Int) (g : G) (R : Value → G → Prop) : Prop :=
  ∀ g1 : G, Ex g g1 →
  (0 ≤ pivot ∧ pivot < ((datal : Nat) : Int)) ∧ derefP dataa fun ad => ∃ x : Int, g1.w.cell? (Addr.add ad (Int.toNat pivot * 1)) = some (.int .i64 x) ∧ (0 ≤ a ∧ a < ((datal : Nat) : Int)) ∧ derefP dataa fun ad_1 => ∃ x_1 : Int, g1.w.cell? (Addr.add ad_1 (Int.toNat a * 1)) = some (.int .i64 x_1) ∧ (0 ≤ a ∧ a < ((datal : Nat) : Int)) ∧ derefP dataa fun ad_2 => stOk g1.w (Addr.add ad_2 (Int.toNat a * 1)) 1 ∧ ¬ g1.X (Addr.block (Addr.add ad_2 (Int.toNat a * 1))) ∧ mutAt g1 (Addr.add ad_2 (Int.toNat a * 1)) 1 ∧ ((Addr.block (Addr.add ad_2 (Int.toNat a * 1))) < g.w.heap.size → nobody (Addr.block (Addr.add ad_2 (Int.toNat a * 1)))) ∧ ∀ g2 : G, StG false g1 (Addr.add ad_2 (Int.toNat a * 1)) [(.int .i64 x)] g2 →
  SameB g1 g2 ∧ (0 ≤ pivot ∧ pivot < ((datal : Nat) : Int)) ∧ derefP dataa fun ad_3 => stOk g2.w (Addr.add ad_3 (Int.toNat pivot * 1)) 1 ∧ ¬ g2.X (Addr.block (Addr.add ad_3 (Int.toNat pivot * 1))) ∧ mutAt g2 (Addr.add ad_3 (Int.toNat pivot * 1)) 1 ∧ ((Addr.block (Addr.add ad_3 (Int.toNat pivot * 1))) < g.w.heap.size → nobody (Addr.block (Addr.add ad_3 (Int.toNat pivot * 1)))) ∧ ∀ g3 : G, StG false g2 (Addr.add ad_3 (Int.toNat pivot * 1)) [(.int .i64 x_1)] g3 →
  InI64 (a + (1 : Int)) ∧ InI64 (b - (1 : Int)) ∧ ∃ Inv : Nat → Int → Int → G → Prop, ((∃ m0 : Nat, Inv m0 (a + (1 : Int)) (b - (1 : Int)) g3)) ∧
  ∀ m : Nat, ∀ i : Int, ∀ j : Int, ∀ g4 : G, Le g3 g4 → Inv m i j g4 →
  ∀ J : Int → G → Prop,
  (∀ i_1 : Int, ∀ g5 : G, (∀ J_1 : Int → G → Prop,
  (∀ j_1 : Int, ∀ g6 : G, (ifB (ltI j_1 i_1)
  (∀ g7 : G, Ex g6 g7 →
  R (.int .i64 i_1) g7)
  (∀ g8 : G, Ex g6 g8 →
  (0 ≤ j_1 ∧ j_1 < ((datal : Nat) : Int)) ∧ derefP dataa fun ad_4 => ∃ x_2 : Int, g8.w.cell? (Addr.add ad_4 (Int.toNat j_1 * 1)) = some (.int .i64 x_2) ∧ (0 ≤ i_1 ∧ i_1 < ((datal : Nat) : Int)) ∧ derefP dataa fun ad_5 => ∃ x_3 : Int, g8.w.cell? (Addr.add ad_5 (Int.toNat i_1 * 1)) = some (.int .i64 x_3) ∧ (0 ≤ i_1 ∧ i_1 < ((datal : Nat) : Int)) ∧ derefP dataa fun ad_6 => stOk g8.w (Addr.add ad_6 (Int.toNat i_1 * 1)) 1 ∧ ¬ g8.X (Addr.block (Addr.add ad_6 (Int.toNat i_1 * 1))) ∧ mutAt g8 (Addr.add ad_6 (Int.toNat i_1 * 1)) 1 ∧ ((Addr.block (Addr.add ad_6 (Int.toNat i_1 * 1))) < g.w.heap.size → nobody (Addr.block (Addr.add ad_6 (Int.toNat i_1 * 1)))) ∧ ∀ g9 : G, StG false g8 (Addr.add ad_6 (Int.toNat i_1 * 1)) [(.int .i64 x_2)] g9 →
  SameB g8 g9 ∧ (0 ≤ j_1 ∧ j_1 < ((datal : Nat) : Int)) ∧ derefP dataa fun ad_7 => stOk g9.w (Addr.add ad_7 (Int.toNat j_1 * 1)) 1 ∧ ¬ g9.X (Addr.block (Addr.add ad_7 (Int.toNat j_1 * 1))) ∧ mutAt g9 (Addr.add ad_7 (Int.toNat j_1 * 1)) 1 ∧ ((Addr.block (Addr.add ad_7 (Int.toNat j_1 * 1))) < g.w.heap.size → nobody (Addr.block (Addr.add ad_7 (Int.toNat j_1 * 1)))) ∧ ∀ g10 : G, StG false g9 (Addr.add ad_7 (Int.toNat j_1 * 1)) [(.int .i64 x_3)] g10 →
  InI64 (i_1 + (1 : Int)) ∧ InI64 (j_1 - (1 : Int)) ∧ (∃ m_1 : Nat, m_1 < m ∧ Inv m_1 (i_1 + (1 : Int)) (j_1 - (1 : Int)) g10))) → J_1 j_1 g6) →
  ∃ Inv_1 : Nat → Int → G → Prop, ((∃ m0 : Nat, Inv_1 m0 j g5)) ∧
  ∀ m_2 : Nat, ∀ j_2 : Int, ∀ g11 : G, Le g5 g11 → Inv_1 m_2 j_2 g11 →
  ∀ g12 : G, Ex g11 g12 →
  ifB (leI i_1 j_2)
  ((0 ≤ a ∧ a < ((datal : Nat) : Int)) ∧ derefP dataa fun ad_8 => ∃ x_4 : Int, g12.w.cell? (Addr.add ad_8 (Int.toNat a * 1)) = some (.int .i64 x_4) ∧ (0 ≤ j_2 ∧ j_2 < ((datal : Nat) : Int)) ∧ derefP dataa fun ad_9 => ∃ x_5 : Int, g12.w.cell? (Addr.add ad_9 (Int.toNat j_2 * 1)) = some (.int .i64 x_5) ∧ (CallsP Try.prog 113 #[(.int .i64 x_4), (.int .i64 x_5)] g12 fun v g13 =>
  ∃ x_6 : Bool, v = (.bool x_6) ∧ ifB x_6
  (InI64 (j_2 - (1 : Int)) ∧ (∃ m_3 : Nat, m_3 < m_2 ∧ Inv_1 m_3 (j_2 - (1 : Int)) g13))
  (J_1 j_2 g13)))
  (J_1 j_2 g12)) → J i_1 g5) →
  ∃ Inv_2 : Nat → Int → G → Prop, ((∃ m0 : Nat, Inv_2 m0 i g4)) ∧
  ∀ m_4 : Nat, ∀ i_2 : Int, ∀ g14 : G, Le g4 g14 → Inv_2 m_4 i_2 g14 →
  ∀ g15 : G, Ex g14 g15 →
  ifB (leI i_2 j)
  ((0 ≤ a ∧ a < ((datal : Nat) : Int)) ∧ derefP dataa fun ad_10 => ∃ x_7 : Int, g15.w.cell? (Addr.add ad_10 (Int.toNat a * 1)) = some (.int .i64 x_7) ∧ (0 ≤ i_2 ∧ i_2 < ((datal : Nat) : Int)) ∧ derefP dataa fun ad_11 => ∃ x_8 : Int, g15.w.cell? (Addr.add ad_11 (Int.toNat i_2 * 1)) = some (.int .i64 x_8) ∧ (CallsP Try.prog 113 #[(.int .i64 x_7), (.int .i64 x_8)] g15 fun v g16 =>
  ∃ x_9 : Bool, v = (.bool x_9) ∧ ifB (!x_9)
  (InI64 (i_2 + (1 : Int)) ∧ (∃ m_5 : Nat, m_5 < m_4 ∧ Inv_2 m_5 (i_2 + (1 : Int)) g16))
  (J i_2 g16)))
  (J i_2 g15)
theorem F121_eq (dataa : Option Addr) (datal : Nat) (datac : Nat) (a : Int) (b : Int) (pivot : Int) (g : G) (R : Value → G → Prop) : fnG cfg121 84 [.tmp 8] c121 an121 [(.slice dataa datal datac), (.int .i64 a), (.int .i64 b), (.int .i64 pivot)] g nobody R = F121 dataa datal datac a b pivot g R := by kernel_rfl
theorem call121 (dataa : Option Addr) (datal : Nat) (datac : Nat) (a : Int) (b : Int) (pivot : Int) (g : G) (R : Value → G → Prop) (hF : F121 dataa datal datac a b pivot g R) : CallsG Try.prog 121 #[(.slice dataa datal datac), (.int .i64 a), (.int .i64 b), (.int .i64 pivot)] g nobody R :=
  fn_soundG (c := cfg121) TTok FNSok mixed Try.func121 (show Try.f121.body = some c121 by kernel_rfl) (show Try.f121.ntmps = 84 by kernel_rfl) (show Try.f121.results.toList = [.tmp 8] by kernel_rfl) rfl ((F121_eq dataa datal datac a b pivot g R).mpr hF)

/- 122 slices.partitionOrdered[int] -/
noncomputable def c122 : Code := match Try.f122.body with
  | some c => c
  | none => .skip
noncomputable def cfg122 : Cfg := ⟨Try.prog, TT, FNS, [], [], [], TCH, false, false⟩
def an122 : AnnG := (.seq .leaf (.seq (.tree 14 (.quiet 0 (.quiet 1 (.quiet 2 (.quiet 3 (.quiet 4 (.quiet 5 (.quiet 6 (.quiet 7 (.quiet 8 (.quiet 9 (.quiet 10 (.quiet 11 (.quiet 12 (.eff 13 .fin .fin))))))))))))))) (.seq .leaf (.join ⟨[(10, .int .i64)], [], []⟩ (.blk (.loop ⟨[(10, .int .i64)], [], []⟩ (.seq (.seq (.tree 12 (.quiet 0 (.quiet 1 (.quiet 2 (.quiet 3 (.quiet 4 (.quiet 5 (.quiet 6 (.quiet 7 (.quiet 8 (.quiet 9 (.quiet 10 (.quiet 11 .fin))))))))))))) (.cond .leaf .leaf)) (.blk .leaf)))) (.join ⟨[(11, .int .i64)], [], []⟩ (.blk (.loop ⟨[(11, .int .i64)], [], []⟩ (.seq (.seq (.tree 12 (.quiet 0 (.quiet 1 (.quiet 2 (.quiet 3 (.quiet 4 (.quiet 5 (.quiet 6 (.quiet 7 (.quiet 8 (.quiet 9 (.quiet 10 (.quiet 11 .fin))))))))))))) (.cond .leaf .leaf)) (.blk .leaf)))) (.seq (.seq .leaf (.cond (.seq (.tree 14 (.quiet 0 (.quiet 1 (.quiet 2 (.quiet 3 (.quiet 4 (.quiet 5 (.quiet 6 (.quiet 7 (.quiet 8 (.quiet 9 (.quiet 10 (.quiet 11 (.quiet 12 (.eff 13 .fin .fin))))))))))))))) (.seq .leaf .leaf)) .leaf)) (.seq (.tree 14 (.quiet 0 (.quiet 1 (.quiet 2 (.quiet 3 (.quiet 4 (.quiet 5 (.quiet 6 (.quiet 7 (.quiet 8 (.quiet 9 (.quiet 10 (.quiet 11 (.quiet 12 (.eff 13 .fin .fin))))))))))))))) (.seq .leaf (.seq .leaf (.seq (.blk (.loop ⟨[(10, .int .i64), (11, .int .i64)], [], []⟩ (.blk (.join ⟨[(10, .int .i64)], [], []⟩ (.blk (.loop ⟨[(10, .int .i64)], [], []⟩ (.seq (.seq (.tree 12 (.quiet 0 (.quiet 1 (.quiet 2 (.quiet 3 (.quiet 4 (.quiet 5 (.quiet 6 (.quiet 7 (.quiet 8 (.quiet 9 (.quiet 10 (.quiet 11 .fin))))))))))))) (.cond .leaf .leaf)) (.blk .leaf)))) (.join ⟨[(11, .int .i64)], [], []⟩ (.blk (.loop ⟨[(11, .int .i64)], [], []⟩ (.seq (.seq (.tree 12 (.quiet 0 (.quiet 1 (.quiet 2 (.quiet 3 (.quiet 4 (.quiet 5 (.quiet 6 (.quiet 7 (.quiet 8 (.quiet 9 (.quiet 10 (.quiet 11 .fin))))))))))))) (.cond .leaf .leaf)) (.blk .leaf)))) (.seq (.seq .leaf (.cond .leaf .leaf)) (.seq (.tree 14 (.quiet 0 (.quiet 1 (.quiet 2 (.quiet 3 (.quiet 4 (.quiet 5 (.quiet 6 (.quiet 7 (.quiet 8 (.quiet 9 (.quiet 10 (.quiet 11 (.quiet 12 (.eff 13 .fin .fin))))))))))))))) (.seq .leaf .leaf)))))))) (.seq (.tree 14 (.quiet 0 (.quiet 1 (.quiet 2 (.quiet 3 (.quiet 4 (.quiet 5 (.quiet 6 (.quiet 7 (.quiet 8 (.quiet 9 (.quiet 10 (.quiet 11 (.quiet 12 (.eff 13 .fin .fin))))))))))))))) (.seq .leaf .leaf))))))))))))
def F122 (dataa : Option Addr) (datal : Nat) (datac : Nat) (a : Int) (b : Int) (pivot : Int) (g : G) (R : Value → G → Prop) : Prop :=
  ∀ g1 : G, Ex g g1 →
  (0 ≤ pivot ∧ pivot < ((datal : Nat) : Int)) ∧ derefP dataa fun ad => ∃ x : Int, g1.w.cell? (Addr.add ad (Int.toNat pivot * 1)) = some (.int .i64 x) ∧ (0 ≤ a ∧ a < ((datal : Nat) : Int)) ∧ derefP dataa fun ad_1 => ∃ x_1 : Int, g1.w.cell? (Addr.add ad_1 (Int.toNat a * 1)) = some (.int .i64 x_1) ∧ (0 ≤ a ∧ a < ((datal : Nat) : Int)) ∧ derefP dataa fun ad_2 => stOk g1.w (Addr.add ad_2 (Int.toNat a * 1)) 1 ∧ ¬ g1.X (Addr.block (Addr.add ad_2 (Int.toNat a * 1))) ∧ mutAt g1 (Addr.add ad_2 (Int.toNat a * 1)) 1 ∧ ((Addr.block (Addr.add ad_2 (Int.toNat a * 1))) < g.w.heap.size → nobody (Addr.block (Addr.add ad_2 (Int.toNat a * 1)))) ∧ ∀ g2 : G, StG false g1 (Addr.add ad_2 (Int.toNat a * 1)) [(.int .i64 x)] g2 →
  SameB g1 g2 ∧ (0 ≤ pivot ∧ pivot < ((datal : Nat) : Int)) ∧ derefP dataa fun ad_3 => stOk g2.w (Addr.add ad_3 (Int.toNat pivot * 1)) 1 ∧ ¬ g2.X (Addr.block (Addr.add ad_3 (Int.toNat pivot * 1))) ∧ mutAt g2 (Addr.add ad_3 (Int.toNat pivot * 1)) 1 ∧ ((Addr.block (Addr.add ad_3 (Int.toNat pivot * 1))) < g.w.heap.size → nobody (Addr.block (Addr.add ad_3 (Int.toNat pivot * 1)))) ∧ ∀ g3 : G, StG false g2 (Addr.add ad_3 (Int.toNat pivot * 1)) [(.int .i64 x_1)] g3 →
  InI64 (a + (1 : Int)) ∧ InI64 (b - (1 : Int)) ∧ ∀ J : Int → G → Prop,
  (∀ i : Int, ∀ g4 : G, (∀ J_1 : Int → G → Prop,
  (∀ j : Int, ∀ g5 : G, (ifB (ltI j i)
  (∀ g6 : G, Ex g5 g6 →
  (0 ≤ a ∧ a < ((datal : Nat) : Int)) ∧ derefP dataa fun ad_4 => ∃ x_2 : Int, g6.w.cell? (Addr.add ad_4 (Int.toNat a * 1)) = some (.int .i64 x_2) ∧ (0 ≤ j ∧ j < ((datal : Nat) : Int)) ∧ derefP dataa fun ad_5 => ∃ x_3 : Int, g6.w.cell? (Addr.add ad_5 (Int.toNat j * 1)) = some (.int .i64 x_3) ∧ (0 ≤ j ∧ j < ((datal : Nat) : Int)) ∧ derefP dataa fun ad_6 => stOk g6.w (Addr.add ad_6 (Int.toNat j * 1)) 1 ∧ ¬ g6.X (Addr.block (Addr.add ad_6 (Int.toNat j * 1))) ∧ mutAt g6 (Addr.add ad_6 (Int.toNat j * 1)) 1 ∧ ((Addr.block (Addr.add ad_6 (Int.toNat j * 1))) < g.w.heap.size → nobody (Addr.block (Addr.add ad_6 (Int.toNat j * 1)))) ∧ ∀ g7 : G, StG false g6 (Addr.add ad_6 (Int.toNat j * 1)) [(.int .i64 x_2)] g7 →
  SameB g6 g7 ∧ (0 ≤ a ∧ a < ((datal : Nat) : Int)) ∧ derefP dataa fun ad_7 => stOk g7.w (Addr.add ad_7 (Int.toNat a * 1)) 1 ∧ ¬ g7.X (Addr.block (Addr.add ad_7 (Int.toNat a * 1))) ∧ mutAt g7 (Addr.add ad_7 (Int.toNat a * 1)) 1 ∧ ((Addr.block (Addr.add ad_7 (Int.toNat a * 1))) < g.w.heap.size → nobody (Addr.block (Addr.add ad_7 (Int.toNat a * 1)))) ∧ ∀ g8 : G, StG false g7 (Addr.add ad_7 (Int.toNat a * 1)) [(.int .i64 x_3)] g8 →
  ∀ g9 : G, Ex g8 g9 →
  R (.tuple ⟨[(.int .i64 j), (.bool true)]⟩) g9)
  (∀ g10 : G, Ex g5 g10 →
  (0 ≤ j ∧ j < ((datal : Nat) : Int)) ∧ derefP dataa fun ad_8 => ∃ x_4 : Int, g10.w.cell? (Addr.add ad_8 (Int.toNat j * 1)) = some (.int .i64 x_4) ∧ (0 ≤ i ∧ i < ((datal : Nat) : Int)) ∧ derefP dataa fun ad_9 => ∃ x_5 : Int, g10.w.cell? (Addr.add ad_9 (Int.toNat i * 1)) = some (.int .i64 x_5) ∧ (0 ≤ i ∧ i < ((datal : Nat) : Int)) ∧ derefP dataa fun ad_10 => stOk g10.w (Addr.add ad_10 (Int.toNat i * 1)) 1 ∧ ¬ g10.X (Addr.block (Addr.add ad_10 (Int.toNat i * 1))) ∧ mutAt g10 (Addr.add ad_10 (Int.toNat i * 1)) 1 ∧ ((Addr.block (Addr.add ad_10 (Int.toNat i * 1))) < g.w.heap.size → nobody (Addr.block (Addr.add ad_10 (Int.toNat i * 1)))) ∧ ∀ g11 : G, StG false g10 (Addr.add ad_10 (Int.toNat i * 1)) [(.int .i64 x_4)] g11 →
  SameB g10 g11 ∧ (0 ≤ j ∧ j < ((datal : Nat) : Int)) ∧ derefP dataa fun ad_11 => stOk g11.w (Addr.add ad_11 (Int.toNat j * 1)) 1 ∧ ¬ g11.X (Addr.block (Addr.add ad_11 (Int.toNat j * 1))) ∧ mutAt g11 (Addr.add ad_11 (Int.toNat j * 1)) 1 ∧ ((Addr.block (Addr.add ad_11 (Int.toNat j * 1))) < g.w.heap.size → nobody (Addr.block (Addr.add ad_11 (Int.toNat j * 1)))) ∧ ∀ g12 : G, StG false g11 (Addr.add ad_11 (Int.toNat j * 1)) [(.int .i64 x_5)] g12 →
  InI64 (i + (1 : Int)) ∧ InI64 (j - (1 : Int)) ∧ ∃ Inv : Nat → Int → Int → G → Prop, ((∃ m0 : Nat, Inv m0 (i + (1 : Int)) (j - (1 : Int)) g12)) ∧
  ∀ m : Nat, ∀ i_1 : Int, ∀ j_1 : Int, ∀ g13 : G, Le g12 g13 → Inv m i_1 j_1 g13 →
  ∀ J_2 : Int → G → Prop,
  (∀ i_2 : Int, ∀ g14 : G, (∀ J_3 : Int → G → Prop,
  (∀ j_2 : Int, ∀ g15 : G, (ifB (ltI j_2 i_2)
  (∀ g16 : G, Ex g15 g16 →
  (0 ≤ a ∧ a < ((datal : Nat) : Int)) ∧ derefP dataa fun ad_12 => ∃ x_6 : Int, g16.w.cell? (Addr.add ad_12 (Int.toNat a * 1)) = some (.int .i64 x_6) ∧ (0 ≤ j_2 ∧ j_2 < ((datal : Nat) : Int)) ∧ derefP dataa fun ad_13 => ∃ x_7 : Int, g16.w.cell? (Addr.add ad_13 (Int.toNat j_2 * 1)) = some (.int .i64 x_7) ∧ (0 ≤ j_2 ∧ j_2 < ((datal : Nat) : Int)) ∧ derefP dataa fun ad_14 => stOk g16.w (Addr.add ad_14 (Int.toNat j_2 * 1)) 1 ∧ ¬ g16.X (Addr.block (Addr.add ad_14 (Int.toNat j_2 * 1))) ∧ mutAt g16 (Addr.add ad_14 (Int.toNat j_2 * 1)) 1 ∧ ((Addr.block (Addr.add ad_14 (Int.toNat j_2 * 1))) < g.w.heap.size → nobody (Addr.block (Addr.add ad_14 (Int.toNat j_2 * 1)))) ∧ ∀ g17 : G, StG false g16 (Addr.add ad_14 (Int.toNat j_2 * 1)) [(.int .i64 x_6)] g17 →
  SameB g16 g17 ∧ (0 ≤ a ∧ a < ((datal : Nat) : Int)) ∧ derefP dataa fun ad_15 => stOk g17.w (Addr.add ad_15 (Int.toNat a * 1)) 1 ∧ ¬ g17.X (Addr.block (Addr.add ad_15 (Int.toNat a * 1))) ∧ mutAt g17 (Addr.add ad_15 (Int.toNat a * 1)) 1 ∧ ((Addr.block (Addr.add ad_15 (Int.toNat a * 1))) < g.w.heap.size → nobody (Addr.block (Addr.add ad_15 (Int.toNat a * 1)))) ∧ ∀ g18 : G, StG false g17 (Addr.add ad_15 (Int.toNat a * 1)) [(.int .i64 x_7)] g18 →
  ∀ g19 : G, Ex g18 g19 →
  R (.tuple ⟨[(.int .i64 j_2), (.bool false)]⟩) g19)
  (∀ g20 : G, Ex g15 g20 →
  (0 ≤ j_2 ∧ j_2 < ((datal : Nat) : Int)) ∧ derefP dataa fun ad_16 => ∃ x_8 : Int, g20.w.cell? (Addr.add ad_16 (Int.toNat j_2 * 1)) = some (.int .i64 x_8) ∧ (0 ≤ i_2 ∧ i_2 < ((datal : Nat) : Int)) ∧ derefP dataa fun ad_17 => ∃ x_9 : Int, g20.w.cell? (Addr.add ad_17 (Int.toNat i_2 * 1)) = some (.int .i64 x_9) ∧ (0 ≤ i_2 ∧ i_2 < ((datal : Nat) : Int)) ∧ derefP dataa fun ad_18 => stOk g20.w (Addr.add ad_18 (Int.toNat i_2 * 1)) 1 ∧ ¬ g20.X (Addr.block (Addr.add ad_18 (Int.toNat i_2 * 1))) ∧ mutAt g20 (Addr.add ad_18 (Int.toNat i_2 * 1)) 1 ∧ ((Addr.block (Addr.add ad_18 (Int.toNat i_2 * 1))) < g.w.heap.size → nobody (Addr.block (Addr.add ad_18 (Int.toNat i_2 * 1)))) ∧ ∀ g21 : G, StG false g20 (Addr.add ad_18 (Int.toNat i_2 * 1)) [(.int .i64 x_8)] g21 →
  SameB g20 g21 ∧ (0 ≤ j_2 ∧ j_2 < ((datal : Nat) : Int)) ∧ derefP dataa fun ad_19 => stOk g21.w (Addr.add ad_19 (Int.toNat j_2 * 1)) 1 ∧ ¬ g21.X (Addr.block (Addr.add ad_19 (Int.toNat j_2 * 1))) ∧ mutAt g21 (Addr.add ad_19 (Int.toNat j_2 * 1)) 1 ∧ ((Addr.block (Addr.add ad_19 (Int.toNat j_2 * 1))) < g.w.heap.size → nobody (Addr.block (Addr.add ad_19 (Int.toNat j_2 * 1)))) ∧ ∀ g22 : G, StG false g21 (Addr.add ad_19 (Int.toNat j_2 * 1)) [(.int .i64 x_9)] g22 →
  InI64 (i_2 + (1 : Int)) ∧ InI64 (j_2 - (1 : Int)) ∧ (∃ m_1 : Nat, m_1 < m ∧ Inv m_1 (i_2 + (1 : Int)) (j_2 - (1 : Int)) g22))) → J_3 j_2 g15) →
  ∃ Inv_1 : Nat → Int → G → Prop, ((∃ m0 : Nat, Inv_1 m0 j_1 g14)) ∧
  ∀ m_2 : Nat, ∀ j_3 : Int, ∀ g23 : G, Le g14 g23 → Inv_1 m_2 j_3 g23 →
  ∀ g24 : G, Ex g23 g24 →
  ifB (leI i_2 j_3)
  ((0 ≤ j_3 ∧ j_3 < ((datal : Nat) : Int)) ∧ derefP dataa fun ad_20 => ∃ x_10 : Int, g24.w.cell? (Addr.add ad_20 (Int.toNat j_3 * 1)) = some (.int .i64 x_10) ∧ (0 ≤ a ∧ a < ((datal : Nat) : Int)) ∧ derefP dataa fun ad_21 => ∃ x_11 : Int, g24.w.cell? (Addr.add ad_21 (Int.toNat a * 1)) = some (.int .i64 x_11) ∧ (CallsP Try.prog 113 #[(.int .i64 x_10), (.int .i64 x_11)] g24 fun v g25 =>
  ∃ x_12 : Bool, v = (.bool x_12) ∧ ifB (!x_12)
  (InI64 (j_3 - (1 : Int)) ∧ (∃ m_3 : Nat, m_3 < m_2 ∧ Inv_1 m_3 (j_3 - (1 : Int)) g25))
  (J_3 j_3 g25)))
  (J_3 j_3 g24)) → J_2 i_2 g14) →
  ∃ Inv_2 : Nat → Int → G → Prop, ((∃ m0 : Nat, Inv_2 m0 i_1 g13)) ∧
  ∀ m_4 : Nat, ∀ i_3 : Int, ∀ g26 : G, Le g13 g26 → Inv_2 m_4 i_3 g26 →
  ∀ g27 : G, Ex g26 g27 →
  ifB (leI i_3 j_1)
  ((0 ≤ i_3 ∧ i_3 < ((datal : Nat) : Int)) ∧ derefP dataa fun ad_22 => ∃ x_13 : Int, g27.w.cell? (Addr.add ad_22 (Int.toNat i_3 * 1)) = some (.int .i64 x_13) ∧ (0 ≤ a ∧ a < ((datal : Nat) : Int)) ∧ derefP dataa fun ad_23 => ∃ x_14 : Int, g27.w.cell? (Addr.add ad_23 (Int.toNat a * 1)) = some (.int .i64 x_14) ∧ (CallsP Try.prog 113 #[(.int .i64 x_13), (.int .i64 x_14)] g27 fun v g28 =>
  ∃ x_15 : Bool, v = (.bool x_15) ∧ ifB x_15
  (InI64 (i_3 + (1 : Int)) ∧ (∃ m_5 : Nat, m_5 < m_4 ∧ Inv_2 m_5 (i_3 + (1 : Int)) g28))
  (J_2 i_3 g28)))
  (J_2 i_3 g27))) → J_1 j g5) →
  ∃ Inv_3 : Nat → Int → G → Prop, ((∃ m0 : Nat, Inv_3 m0 (b - (1 : Int)) g4)) ∧
  ∀ m_6 : Nat, ∀ j_4 : Int, ∀ g29 : G, Le g4 g29 → Inv_3 m_6 j_4 g29 →
  ∀ g30 : G, Ex g29 g30 →
  ifB (leI i j_4)
  ((0 ≤ j_4 ∧ j_4 < ((datal : Nat) : Int)) ∧ derefP dataa fun ad_24 => ∃ x_16 : Int, g30.w.cell? (Addr.add ad_24 (Int.toNat j_4 * 1)) = some (.int .i64 x_16) ∧ (0 ≤ a ∧ a < ((datal : Nat) : Int)) ∧ derefP dataa fun ad_25 => ∃ x_17 : Int, g30.w.cell? (Addr.add ad_25 (Int.toNat a * 1)) = some (.int .i64 x_17) ∧ (CallsP Try.prog 113 #[(.int .i64 x_16), (.int .i64 x_17)] g30 fun v g31 =>
  ∃ x_18 : Bool, v = (.bool x_18) ∧ ifB (!x_18)
  (InI64 (j_4 - (1 : Int)) ∧ (∃ m_7 : Nat, m_7 < m_6 ∧ Inv_3 m_7 (j_4 - (1 : Int)) g31))
  (J_1 j_4 g31)))
  (J_1 j_4 g30)) → J i g4) →
  ∃ Inv_4 : Nat → Int → G → Prop, ((∃ m0 : Nat, Inv_4 m0 (a + (1 : Int)) g3)) ∧
  ∀ m_8 : Nat, ∀ i_4 : Int, ∀ g32 : G, Le g3 g32 → Inv_4 m_8 i_4 g32 →
  ∀ g33 : G, Ex g32 g33 →
  ifB (leI i_4 (b - (1 : Int)))
  ((0 ≤ i_4 ∧ i_4 < ((datal : Nat) : Int)) ∧ derefP dataa fun ad_26 => ∃ x_19 : Int, g33.w.cell? (Addr.add ad_26 (Int.toNat i_4 * 1)) = some (.int .i64 x_19) ∧ (0 ≤ a ∧ a < ((datal : Nat) : Int)) ∧ derefP dataa fun ad_27 => ∃ x_20 : Int, g33.w.cell? (Addr.add ad_27 (Int.toNat a * 1)) = some (.int .i64 x_20) ∧ (CallsP Try.prog 113 #[(.int .i64 x_19), (.int .i64 x_20)] g33 fun v g34 =>
  ∃ x_21 : Bool, v = (.bool x_21) ∧ ifB x_21
  (InI64 (i_4 + (1 : Int)) ∧ (∃ m_9 : Nat, m_9 < m_8 ∧ Inv_4 m_9 (i_4 + (1 : Int)) g34))
  (J i_4 g34)))
  (J i_4 g33)
theorem F122_eq (dataa : Option Addr) (datal : Nat) (datac : Nat) (a : Int) (b : Int) (pivot : Int) (g : G) (R : Value → G → Prop) : fnG cfg122 168 [.tmp 8, .tmp 9] c122 an122 [(.slice dataa datal datac), (.int .i64 a), (.int .i64 b), (.int .i64 pivot)] g nobody R = F122 dataa datal datac a b pivot g R := by kernel_rfl
theorem call122 (dataa : Option Addr) (datal : Nat) (datac : Nat) (a : Int) (b : Int) (pivot : Int) (g : G) (R : Value → G → Prop) (hF : F122 dataa datal datac a b pivot g R) : CallsG Try.prog 122 #[(.slice dataa datal datac), (.int .i64 a), (.int .i64 b), (.int .i64 pivot)] g nobody R :=
  fn_soundG (c := cfg122) TTok FNSok mixed Try.func122 (show Try.f122.body = some c122 by kernel_rfl) (show Try.f122.ntmps = 168 by kernel_rfl) (show Try.f122.results.toList = [.tmp 8, .tmp 9] by kernel_rfl) rfl ((F122_eq dataa datal datac a b pivot g R).mpr hF)

/- 123 math/bits.Len32 -/
noncomputable def c123 : Code := match Try.f123.body with
  | some c => c
  | none => .skip
noncomputable def cfg123 : Cfg := ⟨Try.prog, TT, FNS, [], [], [], TCH, false, false⟩
def an123 : AnnG := (.seq .leaf (.join ⟨[(0, .int .u32), (2, .int .i64)], [], []⟩ (.seq .leaf (.cond (.seq .leaf .leaf) .leaf)) (.join ⟨[(0, .int .u32), (2, .int .i64)], [], []⟩ (.seq .leaf (.cond (.seq .leaf .leaf) .leaf)) (.seq .leaf .leaf))))
def F123 (x : Int) (g : G) (R : Value → G → Prop) : Prop :=
  ∀ J : Int → Int → G → Prop,
  (∀ x_1 : Int, ∀ n : Int, ∀ g1 : G, (∀ J_1 : Int → Int → G → Prop,
  (∀ x_2 : Int, ∀ n_1 : Int, ∀ g2 : G, (∃ b : UInt8, (0 ≤ (IntKind.u8.wrap x_2) ∧ (bs [0, 1, 2, 2, 3, 3, 3, 3, 4, 4, 4, 4, 4, 4, 4, 4, 5, 5, 5, 5, 5, 5, 5, 5, 5, 5, 5, 5, 5, 5, 5, 5, 6, 6, 6, 6, 6, 6, 6, 6, 6, 6, 6, 6, 6, 6, 6, 6, 6, 6, 6, 6, 6, 6, 6, 6, 6, 6, 6, 6, 6, 6, 6, 6, 7, 7, 7, 7, 7, 7, 7, 7, 7, 7, 7, 7, 7, 7, 7, 7, 7, 7, 7, 7, 7, 7, 7, 7, 7, 7, 7, 7, 7, 7, 7, 7, 7, 7, 7, 7, 7, 7, 7, 7, 7, 7, 7, 7, 7, 7, 7, 7, 7, 7, 7, 7, 7, 7, 7, 7, 7, 7, 7, 7, 7, 7, 7, 7, 8, 8, 8, 8, 8, 8, 8, 8, 8, 8, 8, 8, 8, 8, 8, 8, 8, 8, 8, 8, 8, 8, 8, 8, 8, 8, 8, 8, 8, 8, 8, 8, 8, 8, 8, 8, 8, 8, 8, 8, 8, 8, 8, 8, 8, 8, 8, 8, 8, 8, 8, 8, 8, 8, 8, 8, 8, 8, 8, 8, 8, 8, 8, 8, 8, 8, 8, 8, 8, 8, 8, 8, 8, 8, 8, 8, 8, 8, 8, 8, 8, 8, 8, 8, 8, 8, 8, 8, 8, 8, 8, 8, 8, 8, 8, 8, 8, 8, 8, 8, 8, 8, 8, 8, 8, 8, 8, 8, 8, 8, 8, 8, 8, 8, 8, 8, 8, 8, 8, 8, 8, 8, 8, 8, 8, 8, 8, 8])[Int.toNat (IntKind.u8.wrap x_2)]? = some b) ∧ InI64 ((b.toNat : Nat) : Int) ∧ InI64 (n_1 + ((b.toNat : Nat) : Int)) ∧ ∀ g3 : G, Ex g2 g3 →
  R (.int .i64 (n_1 + ((b.toNat : Nat) : Int))) g3) → J_1 x_2 n_1 g2) →
  ifB (leI (256 : Int) x_1)
  (0 ≤ (8 : Int) ∧ InI64 (n + (8 : Int)) ∧ J_1 (shrI IntKind.u32 x_1 (8 : Int)) (n + (8 : Int)) g1)
  (J_1 x_1 n g1)) → J x_1 n g1) →
  ifB (leI (65536 : Int) x)
  (0 ≤ (16 : Int) ∧ J (shrI IntKind.u32 x (16 : Int)) (16 : Int) g)
  (J x (0 : Int) g)
theorem F123_eq (x : Int) (g : G) (R : Value → G → Prop) : fnG cfg123 19 [.tmp 2] c123 an123 [(.int .u32 x)] g nobody R = F123 x g R := by kernel_rfl
theorem call123 (x : Int) (g : G) (R : Value → G → Prop) (hF : F123 x g R) : CallsG Try.prog 123 #[(.int .u32 x)] g nobody R :=
  fn_soundG (c := cfg123) TTok FNSok mixed Try.func123 (show Try.f123.body = some c123 by kernel_rfl) (show Try.f123.ntmps = 19 by kernel_rfl) (show Try.f123.results.toList = [.tmp 2] by kernel_rfl) rfl ((F123_eq x g R).mpr hF)

/- 124 math/bits.Len64 -/
noncomputable def c124 : Code := match Try.f124.body with
  | some c => c
  | none => .skip
noncomputable def cfg124 : Cfg := ⟨Try.prog, TT, FNS, [], [], [], TCH, false, false⟩
def an124 : AnnG := (.seq .leaf (.join ⟨[(0, .int .u64), (2, .int .i64)], [], []⟩ (.seq .leaf (.cond (.seq .leaf .leaf) .leaf)) (.join ⟨[(0, .int .u64), (2, .int .i64)], [], []⟩ (.seq .leaf (.cond (.seq .leaf .leaf) .leaf)) (.join ⟨[(0, .int .u64), (2, .int .i64)], [], []⟩ (.seq .leaf (.cond (.seq .leaf .leaf) .leaf)) (.seq .leaf .leaf)))))
def F124 (x : Int) (g : G) (R : Value → G → Prop) : Prop :=
  ∀ J : Int → Int → G → Prop,
  (∀ x_1 : Int, ∀ n : Int, ∀ g1 : G, (∀ J_1 : Int → Int → G → Prop,
  (∀ x_2 : Int, ∀ n_1 : Int, ∀ g2 : G, (∀ J_2 : Int → Int → G → Prop,
  (∀ x_3 : Int, ∀ n_2 : Int, ∀ g3 : G, (∃ b : UInt8, (0 ≤ (IntKind.u8.wrap x_3) ∧ (bs [0, 1, 2, 2, 3, 3, 3, 3, 4, 4, 4, 4, 4, 4, 4, 4, 5, 5, 5, 5, 5, 5, 5, 5, 5, 5, 5, 5, 5, 5, 5, 5, 6, 6, 6, 6, 6, 6, 6, 6, 6, 6, 6, 6, 6, 6, 6, 6, 6, 6, 6, 6, 6, 6, 6, 6, 6, 6, 6, 6, 6, 6, 6, 6, 7, 7, 7, 7, 7, 7, 7, 7, 7, 7, 7, 7, 7, 7, 7, 7, 7, 7, 7, 7, 7, 7, 7, 7, 7, 7, 7, 7, 7, 7, 7, 7, 7, 7, 7, 7, 7, 7, 7, 7, 7, 7, 7, 7, 7, 7, 7, 7, 7, 7, 7, 7, 7, 7, 7, 7, 7, 7, 7, 7, 7, 7, 7, 7, 8, 8, 8, 8, 8, 8, 8, 8, 8, 8, 8, 8, 8, 8, 8, 8, 8, 8, 8, 8, 8, 8, 8, 8, 8, 8, 8, 8, 8, 8, 8, 8, 8, 8, 8, 8, 8, 8, 8, 8, 8, 8, 8, 8, 8, 8, 8, 8, 8, 8, 8, 8, 8, 8, 8, 8, 8, 8, 8, 8, 8, 8, 8, 8, 8, 8, 8, 8, 8, 8, 8, 8, 8, 8, 8, 8, 8, 8, 8, 8, 8, 8, 8, 8, 8, 8, 8, 8, 8, 8, 8, 8, 8, 8, 8, 8, 8, 8, 8, 8, 8, 8, 8, 8, 8, 8, 8, 8, 8, 8, 8, 8, 8, 8, 8, 8, 8, 8, 8, 8, 8, 8, 8, 8, 8, 8, 8, 8])[Int.toNat (IntKind.u8.wrap x_3)]? = some b) ∧ InI64 ((b.toNat : Nat) : Int) ∧ InI64 (n_2 + ((b.toNat : Nat) : Int)) ∧ ∀ g4 : G, Ex g3 g4 →
  R (.int .i64 (n_2 + ((b.toNat : Nat) : Int))) g4) → J_2 x_3 n_2 g3) →
  ifB (leI (256 : Int) x_2)
  (0 ≤ (8 : Int) ∧ InI64 (n_1 + (8 : Int)) ∧ J_2 (shrI IntKind.u64 x_2 (8 : Int)) (n_1 + (8 : Int)) g2)
  (J_2 x_2 n_1 g2)) → J_1 x_2 n_1 g2) →
  ifB (leI (65536 : Int) x_1)
  (0 ≤ (16 : Int) ∧ InI64 (n + (16 : Int)) ∧ J_1 (shrI IntKind.u64 x_1 (16 : Int)) (n + (16 : Int)) g1)
  (J_1 x_1 n g1)) → J x_1 n g1) →
  ifB (leI (4294967296 : Int) x)
  (0 ≤ (32 : Int) ∧ J (shrI IntKind.u64 x (32 : Int)) (32 : Int) g)
  (J x (0 : Int) g)
theorem F124_eq (x : Int) (g : G) (R : Value → G → Prop) : fnG cfg124 25 [.tmp 2] c124 an124 [(.int .u64 x)] g nobody R = F124 x g R := by kernel_rfl
theorem call124 (x : Int) (g : G) (R : Value → G → Prop) (hF : F124 x g R) : CallsG Try.prog 124 #[(.int .u64 x)] g nobody R :=
  fn_soundG (c := cfg124) TTok FNSok mixed Try.func124 (show Try.f124.body = some c124 by kernel_rfl) (show Try.f124.ntmps = 25 by kernel_rfl) (show Try.f124.results.toList = [.tmp 2] by kernel_rfl) rfl ((F124_eq x g R).mpr hF)

/- 125 pilaster/heap.blocks$1 -/
noncomputable def c125 : Code := match Try.f125.body with
  | some c => c
  | none => .skip
noncomputable def cfg125 : Cfg := ⟨Try.prog, TT, FNS, [], [], [], TCH, false, false⟩
def an125 : AnnG := (.seq .leaf (.blk (.loop ⟨[(3, .int .i64)], [], []⟩ (.seq (.seq .leaf (.cond .leaf .leaf)) (.blk (.join ⟨[], [], []⟩ (.seq .leaf (.cond (.seq .leaf .leaf) .leaf)) (.seq .leaf (.join ⟨[], [], []⟩ (.seq .leaf (.cond (.seq .leaf .leaf) .leaf)) (.seq (.seq .leaf (.cond .leaf .leaf)) .leaf)))))))))
def F125 (yieldf : FuncId) (yieldc : Array Value) (c0 : Option Addr) (g : G) (R : Value → G → Prop) : Prop :=
  ∃ Inv : Nat → Int → G → Prop, ((∃ m0 : Nat, Inv m0 (0 : Int) g)) ∧
  ∀ m : Nat, ∀ at0 : Int, ∀ g1 : G, Le g g1 → Inv m at0 g1 →
  derefP c0 fun ad => ∃ xa : Option Addr, ∃ xl : Nat, ∃ xc : Nat, g1.w.cell? ad = some (.slice xa xl xc) ∧ ifB (ltI at0 ((xl : Nat) : Int))
  (∀ J : G → Prop,
  (∀ g2 : G, (derefP c0 fun ad_1 => ∃ xa_1 : Option Addr, ∃ xl_1 : Nat, ∃ xc_1 : Nat, g2.w.cell? ad_1 = some (.slice xa_1 xl_1 xc_1) ∧ InI64 (at0 + (2 : Int)) ∧ (0 ≤ (at0 + (2 : Int)) ∧ (at0 + (2 : Int)) < ((xl_1 : Nat) : Int)) ∧ derefP xa_1 fun ad_2 => ∃ n : Int, g2.w.cell? (Addr.add (Addr.add ad_2 (Int.toNat (at0 + (2 : Int)) * 2)) 1) = some (.int .i64 n) ∧ ∀ J_1 : G → Prop,
  (∀ g3 : G, (Enters Try.prog yieldf ∧ (CallsP Try.prog yieldf ((⟨[(.int .i64 at0), (.int .i64 n)]⟩ : Array Value) ++ yieldc) g3 fun v g4 =>
  ∃ x : Bool, v = (.bool x) ∧ ifB (!x)
  (∀ g5 : G, Ex g4 g5 →
  R (.tuple ⟨[]⟩) g5)
  (InI64 (n + (3 : Int)) ∧ InI64 (at0 + (n + (3 : Int))) ∧ (∃ m_1 : Nat, m_1 < m ∧ Inv m_1 (at0 + (n + (3 : Int))) g4)))) → J_1 g3) →
  ifB (ltI n (0 : Int))
  (Enters Try.prog yieldf ∧ (CallsP Try.prog yieldf ((⟨[(.int .i64 at0), (.int .i64 (-1 : Int))]⟩ : Array Value) ++ yieldc) g2 fun v g6 =>
  ∃ x_1 : Bool, v = (.bool x_1) ∧ ∀ g7 : G, Ex g6 g7 →
  R (.tuple ⟨[]⟩) g7))
  (derefP c0 fun ad_3 => ∃ xa_2 : Option Addr, ∃ xl_2 : Nat, ∃ xc_2 : Nat, g2.w.cell? ad_3 = some (.slice xa_2 xl_2 xc_2) ∧ InI64 (((xl_2 : Nat) : Int) - at0) ∧ InI64 ((((xl_2 : Nat) : Int) - at0) - (3 : Int)) ∧ ifB (ltI ((((xl_2 : Nat) : Int) - at0) - (3 : Int)) n)
  (Enters Try.prog yieldf ∧ (CallsP Try.prog yieldf ((⟨[(.int .i64 at0), (.int .i64 (-1 : Int))]⟩ : Array Value) ++ yieldc) g2 fun v g8 =>
  ∃ x_2 : Bool, v = (.bool x_2) ∧ ∀ g9 : G, Ex g8 g9 →
  R (.tuple ⟨[]⟩) g9))
  (J_1 g2))) → J g2) →
  derefP c0 fun ad_4 => ∃ xa_3 : Option Addr, ∃ xl_3 : Nat, ∃ xc_3 : Nat, g1.w.cell? ad_4 = some (.slice xa_3 xl_3 xc_3) ∧ InI64 (((xl_3 : Nat) : Int) - at0) ∧ ifB (ltI (((xl_3 : Nat) : Int) - at0) (3 : Int))
  (Enters Try.prog yieldf ∧ (CallsP Try.prog yieldf ((⟨[(.int .i64 at0), (.int .i64 (-1 : Int))]⟩ : Array Value) ++ yieldc) g1 fun v g10 =>
  ∃ x_3 : Bool, v = (.bool x_3) ∧ ∀ g11 : G, Ex g10 g11 →
  R (.tuple ⟨[]⟩) g11))
  (derefP c0 fun ad_5 => ∃ xa_4 : Option Addr, ∃ xl_4 : Nat, ∃ xc_4 : Nat, g1.w.cell? ad_5 = some (.slice xa_4 xl_4 xc_4) ∧ InI64 (at0 + (3 : Int)) ∧ (0 ≤ (at0 + (3 : Int)) ∧ (at0 + (3 : Int)) ≤ ((xc_4 : Nat) : Int)) ∧ (0 ≤ at0 ∧ at0 ≤ (((Int.toNat (at0 + (3 : Int))) : Nat) : Int)) ∧ (CallsP Try.prog 76 #[(.slice (slAddr xa_4 xc_4 (Int.toNat at0) 2) ((Int.toNat (at0 + (3 : Int))) - (Int.toNat at0)) (xc_4 - (Int.toNat at0))), (.func (.func 126) #[] #[])] g1 fun v g12 =>
  ∃ x_4 : Bool, v = (.bool x_4) ∧ ifB x_4
  (Enters Try.prog yieldf ∧ (CallsP Try.prog yieldf ((⟨[(.int .i64 at0), (.int .i64 (-1 : Int))]⟩ : Array Value) ++ yieldc) g12 fun v g13 =>
  ∃ x_5 : Bool, v = (.bool x_5) ∧ ∀ g14 : G, Ex g13 g14 →
  R (.tuple ⟨[]⟩) g14))
  (J g12))))
  (∀ g15 : G, Ex g1 g15 →
  R (.tuple ⟨[]⟩) g15)
theorem F125_eq (yieldf : FuncId) (yieldc : Array Value) (c0 : Option Addr) (g : G) (R : Value → G → Prop) : fnG cfg125 59 [] c125 an125 [(.func (.func yieldf) #[] yieldc), (.pointer c0)] g nobody R = F125 yieldf yieldc c0 g R := by kernel_rfl
theorem call125 (yieldf : FuncId) (yieldc : Array Value) (c0 : Option Addr) (g : G) (R : Value → G → Prop) (hF : F125 yieldf yieldc c0 g R) : CallsG Try.prog 125 #[(.func (.func yieldf) #[] yieldc), (.pointer c0)] g nobody R :=
  fn_soundG (c := cfg125) TTok FNSok mixed Try.func125 (show Try.f125.body = some c125 by kernel_rfl) (show Try.f125.ntmps = 59 by kernel_rfl) (show Try.f125.results.toList = [] by kernel_rfl) rfl ((F125_eq yieldf yieldc c0 g R).mpr hF)

/- 126 pilaster/heap.blocks$1$1 -/
noncomputable def c126 : Code := match Try.f126.body with
  | some c => c
  | none => .skip
noncomputable def cfg126 : Cfg := ⟨Try.prog, TT, FNS, [1], [(1, 1), (3, 1)], [], TCH, false, false⟩
def an126 : AnnG := (.seq .leaf (.seq .leaf .leaf))
def F126 (w0 : Bool) (w1 : Int) (g : G) (R : Value → G → Prop) : Prop :=
  ∀ g1 : G, Ex g g1 →
  R (.bool w0) g1
theorem F126_eq (w0 : Bool) (w1 : Int) (g : G) (R : Value → G → Prop) : fnG cfg126 5 [.tmp 2] c126 an126 [(.agg ⟨[(.bool w0), (.int .i64 w1)]⟩)] g nobody R = F126 w0 w1 g R := by kernel_rfl
theorem call126 (w0 : Bool) (w1 : Int) (g : G) (R : Value → G → Prop) (hF : F126 w0 w1 g R) : CallsG Try.prog 126 #[(.agg ⟨[(.bool w0), (.int .i64 w1)]⟩)] g nobody R :=
  fn_soundG (c := cfg126) TTok FNSok mixed Try.func126 (show Try.f126.body = some c126 by kernel_rfl) (show Try.f126.ntmps = 5 by kernel_rfl) (show Try.f126.results.toList = [.tmp 2] by kernel_rfl) rfl ((F126_eq w0 w1 g R).mpr hF)

/- 127 cmp.isNaN[int] -/
noncomputable def c127 : Code := match Try.f127.body with
  | some c => c
  | none => .skip
noncomputable def cfg127 : Cfg := ⟨Try.prog, TT, FNS, [], [], [], TCH, false, false⟩
def an127 : AnnG := (.seq .leaf (.seq .leaf .leaf))
def F127 (x : Int) (g : G) (R : Value → G → Prop) : Prop :=
  ∀ g1 : G, Ex g g1 →
  R (.bool (!eqI x x)) g1
theorem F127_eq (x : Int) (g : G) (R : Value → G → Prop) : fnG cfg127 6 [.tmp 2] c127 an127 [(.int .i64 x)] g nobody R = F127 x g R := by kernel_rfl
theorem call127 (x : Int) (g : G) (R : Value → G → Prop) (hF : F127 x g R) : CallsG Try.prog 127 #[(.int .i64 x)] g nobody R :=
  fn_soundG (c := cfg127) TTok FNSok mixed Try.func127 (show Try.f127.body = some c127 by kernel_rfl) (show Try.f127.ntmps = 6 by kernel_rfl) (show Try.f127.results.toList = [.tmp 2] by kernel_rfl) rfl ((F127_eq x g R).mpr hF)

/- 128 slices.siftDownOrdered[int] -/
noncomputable def c128 : Code := match Try.f128.body with
  | some c => c
  | none => .skip
noncomputable def cfg128 : Cfg := ⟨Try.prog, TT, FNS, [], [], [], TCH, false, false⟩
def an128 : AnnG := (.seq .leaf (.blk (.loop ⟨[(8, .int .i64)], [], []⟩ (.blk (.seq .leaf (.seq (.seq .leaf (.cond .leaf .leaf)) (.join ⟨[(9, .int .i64)], [], []⟩ (.seq (.tree 18 (.quiet 0 (.quiet 1 (.quiet 2 (.quiet 3 (.quiet 4 (.quiet 5 (.quiet 6 (.quiet 7 (.quiet 8 (.quiet 9 (.quiet 10 (.quiet 11 (.quiet 12 (.quiet 13 (.quiet 14 (.quiet 15 (.quiet 16 (.quiet 17 .fin))))))))))))))))))) (.cond .leaf .leaf)) (.seq (.seq (.tree 12 (.quiet 0 (.quiet 1 (.quiet 2 (.quiet 3 (.quiet 4 (.quiet 5 (.quiet 6 (.quiet 7 (.quiet 8 (.quiet 9 (.quiet 10 (.quiet 11 .fin))))))))))))) (.cond .leaf .leaf)) (.seq (.tree 22 (.quiet 0 (.quiet 1 (.quiet 2 (.quiet 3 (.quiet 4 (.quiet 5 (.quiet 6 (.quiet 7 (.quiet 8 (.quiet 9 (.quiet 10 (.quiet 11 (.quiet 12 (.quiet 13 (.quiet 14 (.quiet 15 (.quiet 16 (.quiet 17 (.quiet 18 (.quiet 19 (.quiet 20 (.eff 21 .fin .fin))))))))))))))))))))))) .leaf)))))))))
def F128 (dataa : Option Addr) (datal : Nat) (datac : Nat) (lo : Int) (hi : Int) (first : Int) (g : G) (R : Value → G → Prop) : Prop :=
  ∃ Inv : Nat → Int → G → Prop, ((∃ m0 : Nat, Inv m0 lo g)) ∧
  ∀ m : Nat, ∀ root : Int, ∀ g1 : G, Le g g1 → Inv m root g1 →
  InI64 ((2 : Int) * root) ∧ InI64 (((2 : Int) * root) + (1 : Int)) ∧ ifB (leI hi (((2 : Int) * root) + (1 : Int)))
  (∀ g2 : G, Ex g1 g2 →
  R (.tuple ⟨[]⟩) g2)
  (∀ J : Int → G → Prop,
  (∀ child : Int, ∀ g3 : G, (∀ g4 : G, Ex g3 g4 →
  InI64 (first + root) ∧ (0 ≤ (first + root) ∧ (first + root) < ((datal : Nat) : Int)) ∧ derefP dataa fun ad => ∃ x : Int, g4.w.cell? (Addr.add ad (Int.toNat (first + root) * 1)) = some (.int .i64 x) ∧ InI64 (first + child) ∧ (0 ≤ (first + child) ∧ (first + child) < ((datal : Nat) : Int)) ∧ derefP dataa fun ad_1 => ∃ x_1 : Int, g4.w.cell? (Addr.add ad_1 (Int.toNat (first + child) * 1)) = some (.int .i64 x_1) ∧ (CallsP Try.prog 113 #[(.int .i64 x), (.int .i64 x_1)] g4 fun v g5 =>
  ∃ x_2 : Bool, v = (.bool x_2) ∧ ifB (!x_2)
  (∀ g6 : G, Ex g5 g6 →
  R (.tuple ⟨[]⟩) g6)
  (∀ g7 : G, Ex g5 g7 →
  InI64 (first + root) ∧ InI64 (first + child) ∧ InI64 (first + child) ∧ (0 ≤ (first + child) ∧ (first + child) < ((datal : Nat) : Int)) ∧ derefP dataa fun ad_2 => ∃ x_3 : Int, g7.w.cell? (Addr.add ad_2 (Int.toNat (first + child) * 1)) = some (.int .i64 x_3) ∧ InI64 (first + root) ∧ (0 ≤ (first + root) ∧ (first + root) < ((datal : Nat) : Int)) ∧ derefP dataa fun ad_3 => ∃ x_4 : Int, g7.w.cell? (Addr.add ad_3 (Int.toNat (first + root) * 1)) = some (.int .i64 x_4) ∧ (0 ≤ (first + root) ∧ (first + root) < ((datal : Nat) : Int)) ∧ derefP dataa fun ad_4 => stOk g7.w (Addr.add ad_4 (Int.toNat (first + root) * 1)) 1 ∧ ¬ g7.X (Addr.block (Addr.add ad_4 (Int.toNat (first + root) * 1))) ∧ mutAt g7 (Addr.add ad_4 (Int.toNat (first + root) * 1)) 1 ∧ ((Addr.block (Addr.add ad_4 (Int.toNat (first + root) * 1))) < g.w.heap.size → nobody (Addr.block (Addr.add ad_4 (Int.toNat (first + root) * 1)))) ∧ ∀ g8 : G, StG false g7 (Addr.add ad_4 (Int.toNat (first + root) * 1)) [(.int .i64 x_3)] g8 →
  SameB g7 g8 ∧ (0 ≤ (first + child) ∧ (first + child) < ((datal : Nat) : Int)) ∧ derefP dataa fun ad_5 => stOk g8.w (Addr.add ad_5 (Int.toNat (first + child) * 1)) 1 ∧ ¬ g8.X (Addr.block (Addr.add ad_5 (Int.toNat (first + child) * 1))) ∧ mutAt g8 (Addr.add ad_5 (Int.toNat (first + child) * 1)) 1 ∧ ((Addr.block (Addr.add ad_5 (Int.toNat (first + child) * 1))) < g.w.heap.size → nobody (Addr.block (Addr.add ad_5 (Int.toNat (first + child) * 1)))) ∧ ∀ g9 : G, StG false g8 (Addr.add ad_5 (Int.toNat (first + child) * 1)) [(.int .i64 x_4)] g9 →
  (∃ m_1 : Nat, m_1 < m ∧ Inv m_1 child g9)))) → J child g3) →
  ∀ g10 : G, Ex g1 g10 →
  InI64 ((((2 : Int) * root) + (1 : Int)) + (1 : Int)) ∧ ifB (ltI ((((2 : Int) * root) + (1 : Int)) + (1 : Int)) hi)
  (InI64 (first + (((2 : Int) * root) + (1 : Int))) ∧ (0 ≤ (first + (((2 : Int) * root) + (1 : Int))) ∧ (first + (((2 : Int) * root) + (1 : Int))) < ((datal : Nat) : Int)) ∧ derefP dataa fun ad_6 => ∃ x_5 : Int, g10.w.cell? (Addr.add ad_6 (Int.toNat (first + (((2 : Int) * root) + (1 : Int))) * 1)) = some (.int .i64 x_5) ∧ InI64 (first + (((2 : Int) * root) + (1 : Int))) ∧ InI64 ((first + (((2 : Int) * root) + (1 : Int))) + (1 : Int)) ∧ (0 ≤ ((first + (((2 : Int) * root) + (1 : Int))) + (1 : Int)) ∧ ((first + (((2 : Int) * root) + (1 : Int))) + (1 : Int)) < ((datal : Nat) : Int)) ∧ derefP dataa fun ad_7 => ∃ x_6 : Int, g10.w.cell? (Addr.add ad_7 (Int.toNat ((first + (((2 : Int) * root) + (1 : Int))) + (1 : Int)) * 1)) = some (.int .i64 x_6) ∧ (CallsP Try.prog 113 #[(.int .i64 x_5), (.int .i64 x_6)] g10 fun v g11 =>
  ∃ x_7 : Bool, v = (.bool x_7) ∧ ifB x_7
  (InI64 ((((2 : Int) * root) + (1 : Int)) + (1 : Int)) ∧ J ((((2 : Int) * root) + (1 : Int)) + (1 : Int)) g11)
  (J (((2 : Int) * root) + (1 : Int)) g11)))
  (J (((2 : Int) * root) + (1 : Int)) g10))
theorem F128_eq (dataa : Option Addr) (datal : Nat) (datac : Nat) (lo : Int) (hi : Int) (first : Int) (g : G) (R : Value → G → Prop) : fnG cfg128 76 [] c128 an128 [(.slice dataa datal datac), (.int .i64 lo), (.int .i64 hi), (.int .i64 first)] g nobody R = F128 dataa datal datac lo hi first g R := by kernel_rfl
theorem call128 (dataa : Option Addr) (datal : Nat) (datac : Nat) (lo : Int) (hi : Int) (first : Int) (g : G) (R : Value → G → Prop) (hF : F128 dataa datal datac lo hi first g R) : CallsG Try.prog 128 #[(.slice dataa datal datac), (.int .i64 lo), (.int .i64 hi), (.int .i64 first)] g nobody R :=
  fn_soundG (c := cfg128) TTok FNSok mixed Try.func128 (show Try.f128.body = some c128 by kernel_rfl) (show Try.f128.ntmps = 76 by kernel_rfl) (show Try.f128.results.toList = [] by kernel_rfl) rfl ((F128_eq dataa datal datac lo hi first g R).mpr hF)

/- 129 slices.nextPowerOfTwo -/
noncomputable def c129 : Code := match Try.f129.body with
  | some c => c
  | none => .skip
noncomputable def cfg129 : Cfg := ⟨Try.prog, TT, FNS, [], [], [], TCH, false, false⟩
def an129 : AnnG := (.seq .leaf (.seq .leaf .leaf))
def F129 (length : Int) (g : G) (R : Value → G → Prop) : Prop :=
  (CallsP Try.prog 109 #[(.int .u64 (IntKind.u64.wrap length))] g fun v g1 =>
  ∃ x : Int, v = (.int .i64 x) ∧ 0 ≤ x ∧ ∀ g2 : G, Ex g1 g2 →
  R (.int .u64 (shlI IntKind.u64 (1 : Int) x)) g2)
theorem F129_eq (length : Int) (g : G) (R : Value → G → Prop) : fnG cfg129 7 [.tmp 2] c129 an129 [(.int .i64 length)] g nobody R = F129 length g R := by kernel_rfl
theorem call129 (length : Int) (g : G) (R : Value → G → Prop) (hF : F129 length g R) : CallsG Try.prog 129 #[(.int .i64 length)] g nobody R :=
  fn_soundG (c := cfg129) TTok FNSok mixed Try.func129 (show Try.f129.body = some c129 by kernel_rfl) (show Try.f129.ntmps = 7 by kernel_rfl) (show Try.f129.results.toList = [.tmp 2] by kernel_rfl) rfl ((F129_eq length g R).mpr hF)

/- 130 (*slices.xorshift).Next -/
noncomputable def c130 : Code := match Try.f130.body with
  | some c => c
  | none => .skip
noncomputable def cfg130 : Cfg := ⟨Try.prog, TT, FNS, [], [], [], TCH, false, false⟩
def an130 : AnnG := (.seq .leaf (.seq (.tree 7 (.quiet 0 (.quiet 1 (.quiet 2 (.quiet 3 (.quiet 4 (.quiet 5 (.quiet 6 .fin)))))))) (.seq (.tree 7 (.quiet 0 (.quiet 1 (.quiet 2 (.quiet 3 (.quiet 4 (.quiet 5 (.quiet 6 .fin)))))))) (.seq (.tree 7 (.quiet 0 (.quiet 1 (.quiet 2 (.quiet 3 (.quiet 4 (.quiet 5 (.quiet 6 .fin)))))))) (.seq .leaf .leaf)))))
def F130 (r : Option Addr) (g : G) (R : Value → G → Prop) : Prop :=
  ∀ g1 : G, Ex g g1 →
  derefP r fun ad => ∃ x : Int, g1.w.cell? ad = some (.int .u64 x) ∧ derefP r fun ad_1 => ∃ x_1 : Int, g1.w.cell? ad_1 = some (.int .u64 x_1) ∧ 0 ≤ (13 : Int) ∧ derefP r fun ad_2 => stOk g1.w ad_2 1 ∧ ¬ g1.X (Addr.block ad_2) ∧ mutAt g1 ad_2 1 ∧ ((Addr.block ad_2) < g.w.heap.size → nobody (Addr.block ad_2)) ∧ ∀ g2 : G, StG false g1 ad_2 [(.int .u64 (bits BinOp.xor IntKind.u64 x (shlI IntKind.u64 x_1 (13 : Int))))] g2 →
  ∀ g3 : G, Ex g2 g3 →
  derefP r fun ad_3 => ∃ x_2 : Int, g3.w.cell? ad_3 = some (.int .u64 x_2) ∧ derefP r fun ad_4 => ∃ x_3 : Int, g3.w.cell? ad_4 = some (.int .u64 x_3) ∧ 0 ≤ (7 : Int) ∧ derefP r fun ad_5 => stOk g3.w ad_5 1 ∧ ¬ g3.X (Addr.block ad_5) ∧ mutAt g3 ad_5 1 ∧ ((Addr.block ad_5) < g.w.heap.size → nobody (Addr.block ad_5)) ∧ ∀ g4 : G, StG false g3 ad_5 [(.int .u64 (bits BinOp.xor IntKind.u64 x_2 (shrI IntKind.u64 x_3 (7 : Int))))] g4 →
  ∀ g5 : G, Ex g4 g5 →
  derefP r fun ad_6 => ∃ x_4 : Int, g5.w.cell? ad_6 = some (.int .u64 x_4) ∧ derefP r fun ad_7 => ∃ x_5 : Int, g5.w.cell? ad_7 = some (.int .u64 x_5) ∧ 0 ≤ (17 : Int) ∧ derefP r fun ad_8 => stOk g5.w ad_8 1 ∧ ¬ g5.X (Addr.block ad_8) ∧ mutAt g5 ad_8 1 ∧ ((Addr.block ad_8) < g.w.heap.size → nobody (Addr.block ad_8)) ∧ ∀ g6 : G, StG false g5 ad_8 [(.int .u64 (bits BinOp.xor IntKind.u64 x_4 (shlI IntKind.u64 x_5 (17 : Int))))] g6 →
  derefP r fun ad_9 => ∃ x_6 : Int, g6.w.cell? ad_9 = some (.int .u64 x_6) ∧ ∀ g7 : G, Ex g6 g7 →
  R (.int .u64 x_6) g7
theorem F130_eq (r : Option Addr) (g : G) (R : Value → G → Prop) : fnG cfg130 33 [.tmp 2] c130 an130 [(.pointer r)] g nobody R = F130 r g R := by kernel_rfl
theorem call130 (r : Option Addr) (g : G) (R : Value → G → Prop) (hF : F130 r g R) : CallsG Try.prog 130 #[(.pointer r)] g nobody R :=
  fn_soundG (c := cfg130) TTok FNSok mixed Try.func130 (show Try.f130.body = some c130 by kernel_rfl) (show Try.f130.ntmps = 33 by kernel_rfl) (show Try.f130.results.toList = [.tmp 2] by kernel_rfl) rfl ((F130_eq r g R).mpr hF)

/- 131 slices.medianAdjacentOrdered[int] -/
noncomputable def c131 : Code := match Try.f131.body with
  | some c => c
  | none => .skip
noncomputable def cfg131 : Cfg := ⟨Try.prog, TT, FNS, [], [], [], TCH, false, false⟩
def an131 : AnnG := (.seq .leaf (.seq .leaf .leaf))
def F131 (dataa : Option Addr) (datal : Nat) (datac : Nat) (a : Int) (swaps : Option Addr) (g : G) (R : Value → G → Prop) : Prop :=
  InI64 (a - (1 : Int)) ∧ InI64 (a + (1 : Int)) ∧ (CallsP Try.prog 132 #[(.slice dataa datal datac), (.int .i64 (a - (1 : Int))), (.int .i64 a), (.int .i64 (a + (1 : Int))), (.pointer swaps)] g fun v g1 =>
  ∃ x : Int, v = (.int .i64 x) ∧ ∀ g2 : G, Ex g1 g2 →
  R (.int .i64 x) g2)
theorem F131_eq (dataa : Option Addr) (datal : Nat) (datac : Nat) (a : Int) (swaps : Option Addr) (g : G) (R : Value → G → Prop) : fnG cfg131 15 [.tmp 6] c131 an131 [(.slice dataa datal datac), (.int .i64 a), (.pointer swaps)] g nobody R = F131 dataa datal datac a swaps g R := by kernel_rfl
theorem call131 (dataa : Option Addr) (datal : Nat) (datac : Nat) (a : Int) (swaps : Option Addr) (g : G) (R : Value → G → Prop) (hF : F131 dataa datal datac a swaps g R) : CallsG Try.prog 131 #[(.slice dataa datal datac), (.int .i64 a), (.pointer swaps)] g nobody R :=
  fn_soundG (c := cfg131) TTok FNSok mixed Try.func131 (show Try.f131.body = some c131 by kernel_rfl) (show Try.f131.ntmps = 15 by kernel_rfl) (show Try.f131.results.toList = [.tmp 6] by kernel_rfl) rfl ((F131_eq dataa datal datac a swaps g R).mpr hF)

/- 132 slices.medianOrdered[int] -/
noncomputable def c132 : Code := match Try.f132.body with
  | some c => c
  | none => .skip
noncomputable def cfg132 : Cfg := ⟨Try.prog, TT, FNS, [], [], [], TCH, false, false⟩
def an132 : AnnG := (.seq .leaf (.seq .leaf (.seq .leaf (.seq .leaf (.seq .leaf .leaf)))))
def F132 (dataa : Option Addr) (datal : Nat) (datac : Nat) (a : Int) (b : Int) (c : Int) (swaps : Option Addr) (g : G) (R : Value → G → Prop) : Prop :=
  (CallsP Try.prog 133 #[(.slice dataa datal datac), (.int .i64 a), (.int .i64 b), (.pointer swaps)] g fun v g1 =>
  ∃ x0 : Int, ∃ x1 : Int, v = (.tuple ⟨[(.int .i64 x0), (.int .i64 x1)]⟩) ∧ (CallsP Try.prog 133 #[(.slice dataa datal datac), (.int .i64 x1), (.int .i64 c), (.pointer swaps)] g1 fun v g2 =>
  ∃ x0_1 : Int, ∃ x1_1 : Int, v = (.tuple ⟨[(.int .i64 x0_1), (.int .i64 x1_1)]⟩) ∧ (CallsP Try.prog 133 #[(.slice dataa datal datac), (.int .i64 x0), (.int .i64 x0_1), (.pointer swaps)] g2 fun v g3 =>
  ∃ x0_2 : Int, ∃ x1_2 : Int, v = (.tuple ⟨[(.int .i64 x0_2), (.int .i64 x1_2)]⟩) ∧ ∀ g4 : G, Ex g3 g4 →
  R (.int .i64 x1_2) g4)))
theorem F132_eq (dataa : Option Addr) (datal : Nat) (datac : Nat) (a : Int) (b : Int) (c : Int) (swaps : Option Addr) (g : G) (R : Value → G → Prop) : fnG cfg132 36 [.tmp 10] c132 an132 [(.slice dataa datal datac), (.int .i64 a), (.int .i64 b), (.int .i64 c), (.pointer swaps)] g nobody R = F132 dataa datal datac a b c swaps g R := by kernel_rfl
theorem call132 (dataa : Option Addr) (datal : Nat) (datac : Nat) (a : Int) (b : Int) (c : Int) (swaps : Option Addr) (g : G) (R : Value → G → Prop) (hF : F132 dataa datal datac a b c swaps g R) : CallsG Try.prog 132 #[(.slice dataa datal datac), (.int .i64 a), (.int .i64 b), (.int .i64 c), (.pointer swaps)] g nobody R :=
  fn_soundG (c := cfg132) TTok FNSok mixed Try.func132 (show Try.f132.body = some c132 by kernel_rfl) (show Try.f132.ntmps = 36 by kernel_rfl) (show Try.f132.results.toList = [.tmp 10] by kernel_rfl) rfl ((F132_eq dataa datal datac a b c swaps g R).mpr hF)

/- 133 slices.order2Ordered[int] -/
noncomputable def c133 : Code := match Try.f133.body with
  | some c => c
  | none => .skip
noncomputable def cfg133 : Cfg := ⟨Try.prog, TT, FNS, [], [], [], TCH, false, false⟩
def an133 : AnnG := (.seq .leaf (.seq (.seq (.tree 8 (.quiet 0 (.quiet 1 (.quiet 2 (.quiet 3 (.quiet 4 (.quiet 5 (.quiet 6 (.quiet 7 .fin))))))))) (.cond (.seq .leaf (.seq .leaf .leaf)) .leaf)) (.seq .leaf .leaf)))
def F133 (dataa : Option Addr) (datal : Nat) (datac : Nat) (a : Int) (b : Int) (swaps : Option Addr) (g : G) (R : Value → G → Prop) : Prop :=
  ∀ g1 : G, Ex g g1 →
  (0 ≤ b ∧ b < ((datal : Nat) : Int)) ∧ derefP dataa fun ad => ∃ x : Int, g1.w.cell? (Addr.add ad (Int.toNat b * 1)) = some (.int .i64 x) ∧ (0 ≤ a ∧ a < ((datal : Nat) : Int)) ∧ derefP dataa fun ad_1 => ∃ x_1 : Int, g1.w.cell? (Addr.add ad_1 (Int.toNat a * 1)) = some (.int .i64 x_1) ∧ (CallsP Try.prog 113 #[(.int .i64 x), (.int .i64 x_1)] g1 fun v g2 =>
  ∃ x_2 : Bool, v = (.bool x_2) ∧ ifB x_2
  (derefP swaps fun ad_2 => ∃ x_3 : Int, g2.w.cell? ad_2 = some (.int .i64 x_3) ∧ InI64 (x_3 + (1 : Int)) ∧ derefP swaps fun ad_3 => stOk g2.w ad_3 1 ∧ ¬ g2.X (Addr.block ad_3) ∧ mutAt g2 ad_3 1 ∧ ((Addr.block ad_3) < g.w.heap.size → nobody (Addr.block ad_3)) ∧ ∀ g3 : G, StG false g2 ad_3 [(.int .i64 (x_3 + (1 : Int)))] g3 →
  ∀ g4 : G, Ex g3 g4 →
  R (.tuple ⟨[(.int .i64 b), (.int .i64 a)]⟩) g4)
  (∀ g5 : G, Ex g2 g5 →
  R (.tuple ⟨[(.int .i64 a), (.int .i64 b)]⟩) g5))
theorem F133_eq (dataa : Option Addr) (datal : Nat) (datac : Nat) (a : Int) (b : Int) (swaps : Option Addr) (g : G) (R : Value → G → Prop) : fnG cfg133 28 [.tmp 8, .tmp 9] c133 an133 [(.slice dataa datal datac), (.int .i64 a), (.int .i64 b), (.pointer swaps)] g nobody R = F133 dataa datal datac a b swaps g R := by kernel_rfl
theorem call133 (dataa : Option Addr) (datal : Nat) (datac : Nat) (a : Int) (b : Int) (swaps : Option Addr) (g : G) (R : Value → G → Prop) (hF : F133 dataa datal datac a b swaps g R) : CallsG Try.prog 133 #[(.slice dataa datal datac), (.int .i64 a), (.int .i64 b), (.pointer swaps)] g nobody R :=
  fn_soundG (c := cfg133) TTok FNSok mixed Try.func133 (show Try.f133.body = some c133 by kernel_rfl) (show Try.f133.ntmps = 28 by kernel_rfl) (show Try.f133.results.toList = [.tmp 8, .tmp 9] by kernel_rfl) rfl ((F133_eq dataa datal datac a b swaps g R).mpr hF)
end Go.Proofs.Ytcpclpkcanikiaa
