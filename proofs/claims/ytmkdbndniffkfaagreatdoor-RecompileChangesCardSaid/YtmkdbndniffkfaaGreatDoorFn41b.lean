/- Printed by a program (wip/tools/gen2.py): more functions. -/
import Derived.Test.YtmkdbndniffkfaaGreatDoorFn41
namespace Go.Proofs.YtmkdbndniffkfaaGreatDoor
open Go Go.Vc Go.RowKit
set_option maxRecDepth 100000
set_option linter.unusedVariables false

/- 118 pilaster/ident.of -/
noncomputable def c118 : Code := match Tryz.f118.body with
  | some c => c
  | none => .skip
noncomputable def cfg118 : Cfg := ⟨Tryz.prog, TT, FNS, [], [], [], TCH, false, false, none, PNF, false⟩
def an118 : AnnG := (.seq .leaf (.seq (.blk (.join ⟨[(3, .bool)], [], []⟩ .leaf (.cond (.seq .leaf .leaf) (.join ⟨[(10, .bool)], [], []⟩ .leaf (.cond (.seq .leaf .leaf) (.join ⟨[(17, .bool)], [], []⟩ .leaf (.cond (.seq .leaf .leaf) (.seq .leaf (.cond (.seq .leaf .leaf) (.seq .leaf (.cond (.seq .leaf .leaf) .leaf))))))))))) (.seq .leaf .leaf)))
def F118 (c : Int) (g : G) (R : Value → G → Prop) : Prop :=
  ∀ J : Bool → G → Prop,
  (∀ v_1 : Bool, ∀ g1 : G, (ifB v_1
  (∀ g2 : G, Ex g1 g2 →
  R (.int .i64 (1 : Int)) g2)
  (∀ J_1 : Bool → G → Prop,
  (∀ v_2 : Bool, ∀ g3 : G, (ifB v_2
  (∀ g4 : G, Ex g3 g4 →
  R (.int .i64 (2 : Int)) g4)
  (∀ J_2 : Bool → G → Prop,
  (∀ v_3 : Bool, ∀ g5 : G, (ifB v_3
  (∀ g6 : G, Ex g5 g6 →
  R (.int .i64 (3 : Int)) g6)
  (ifB (eqI c (95 : Int))
  (∀ g7 : G, Ex g5 g7 →
  R (.int .i64 (4 : Int)) g7)
  (ifB (eqI c (46 : Int))
  (∀ g8 : G, Ex g5 g8 →
  R (.int .i64 (5 : Int)) g8)
  (∀ g9 : G, Ex g5 g9 →
  R (.int .i64 (0 : Int)) g9)))) → J_2 v_3 g5) →
  ifB (leI (48 : Int) c)
  (J_2 (leI c (57 : Int)) g3)
  (J_2 false g3))) → J_1 v_2 g3) →
  ifB (leI (65 : Int) c)
  (J_1 (leI c (90 : Int)) g1)
  (J_1 false g1))) → J v_1 g1) →
  ifB (leI (97 : Int) c)
  (J (leI c (122 : Int)) g)
  (J false g)
theorem F118_eq (c : Int) (g : G) (R : Value → G → Prop) : fnG cfg118 30 [.tmp 2] c118 an118 [(.int .u8 c)] g nobody R = F118 c g R := by kernel_rfl
theorem call118 (c : Int) (g : G) (R : Value → G → Prop) (hF : F118 c g R) : CallsG Tryz.prog 118 #[(.int .u8 c)] g nobody R :=
  fn_soundG (c := cfg118) TTok FNSok mixed Tryz.func118 (show Tryz.f118.body = some c118 by kernel_rfl) (show Tryz.f118.ntmps = 30 by kernel_rfl) (show Tryz.f118.results.toList = [.tmp 2] by kernel_rfl) rfl ((F118_eq c g R ).mpr hF)

/- 119 pilaster/pilasterref01.inner -/
/- 120 pilaster/syntax.Valid -/
noncomputable def c120 : Code := match Tryz.f120.body with
  | some c => c
  | none => .skip
noncomputable def cfg120 : Cfg := ⟨Tryz.prog, TT, FNS, [3], [(3, 3)], [], TCH, false, false, none, PNF, false⟩
def an120 : AnnG := (.seq .leaf (.seq .leaf .leaf))
def F120 (cat : Int) (t0 : Int) (t1 : Int) (t2 : ByteArray) (t3a : Option Addr) (t3l : Nat) (t3c : Nat) (t4a : Option Addr) (t4l : Nat) (t4c : Nat) (g : G) (R : Value → G → Prop) : Prop :=
  ∀ g1 : G, Ex g g1 →
  (CallsP Tryz.prog 132 #[(.int .i64 cat), (.agg ⟨[(.int .i64 t0), (.int .i64 t1), (.string t2), (.slice t3a t3l t3c), (.slice t4a t4l t4c)]⟩)] g1 fun v g2 =>
  ∃ x : Bool, v = (.bool x) ∧ ifB x
  ((CallsP Tryz.prog 133 #[(.agg ⟨[(.int .i64 t0), (.int .i64 t1), (.string t2), (.slice t3a t3l t3c), (.slice t4a t4l t4c)]⟩)] g2 fun v g3 =>
  ∃ x_1 : Bool, v = (.bool x_1) ∧ ∀ g4 : G, Ex g3 g4 →
  R (.bool x_1) g4))
  (∀ g5 : G, Ex g2 g5 →
  R (.bool false) g5))
theorem F120_eq (cat : Int) (t0 : Int) (t1 : Int) (t2 : ByteArray) (t3a : Option Addr) (t3l : Nat) (t3c : Nat) (t4a : Option Addr) (t4l : Nat) (t4c : Nat) (g : G) (R : Value → G → Prop) : fnG cfg120 12 [.tmp 4] c120 an120 [(.int .i64 cat), (.agg ⟨[(.int .i64 t0), (.int .i64 t1), (.string t2), (.slice t3a t3l t3c), (.slice t4a t4l t4c)]⟩)] g nobody R = F120 cat t0 t1 t2 t3a t3l t3c t4a t4l t4c g R := by kernel_rfl
theorem call120 (cat : Int) (t0 : Int) (t1 : Int) (t2 : ByteArray) (t3a : Option Addr) (t3l : Nat) (t3c : Nat) (t4a : Option Addr) (t4l : Nat) (t4c : Nat) (g : G) (R : Value → G → Prop) (hF : F120 cat t0 t1 t2 t3a t3l t3c t4a t4l t4c g R) : CallsG Tryz.prog 120 #[(.int .i64 cat), (.agg ⟨[(.int .i64 t0), (.int .i64 t1), (.string t2), (.slice t3a t3l t3c), (.slice t4a t4l t4c)]⟩)] g nobody R :=
  fn_soundG (c := cfg120) TTok FNSok mixed Tryz.func120 (show Tryz.f120.body = some c120 by kernel_rfl) (show Tryz.f120.ntmps = 12 by kernel_rfl) (show Tryz.f120.results.toList = [.tmp 4] by kernel_rfl) rfl ((F120_eq cat t0 t1 t2 t3a t3l t3c t4a t4l t4c g R ).mpr hF)

/- 121 slices.Collect[string] -/
/- 122 maps.Keys[map[string][]string,string,[]string]$1 -/
/- 129 pilaster/pilasterref03.belongs -/
/- 130 pilaster/pilasterref03.Formed -/
/- 131 pilaster/pilasterref01.Inner -/
/- 132 pilaster/syntax.belongs -/
noncomputable def c132 : Code := match Tryz.f132.body with
  | some c => c
  | none => .skip
noncomputable def cfg132 : Cfg := ⟨Tryz.prog, TT, FNS, [3], [(3, 3), (8, 3), (12, 3), (20, 3)], [], TCH, false, false, none, PNF, false⟩
def an132 : AnnG := (.seq .leaf (.join ⟨[], [], []⟩ (.seq .leaf (.cond (.seq .leaf .leaf) .leaf)) (.seq .leaf .leaf)))
def F132 (cat : Int) (t0 : Int) (t1 : Int) (t2 : ByteArray) (t3a : Option Addr) (t3l : Nat) (t3c : Nat) (t4a : Option Addr) (t4l : Nat) (t4c : Nat) (g : G) (R : Value → G → Prop) : Prop :=
  ∀ J : G → Prop,
  (∀ g1 : G, (ifB (!eqI cat (0 : Int))
  ((CallsP Tryz.prog 142 #[(.int .i64 t0)] g1 fun v g2 =>
  ∃ x : Int, v = (.int .i64 x) ∧ ∀ g3 : G, Ex g2 g3 →
  R (.bool (eqI x cat)) g3))
  (∀ g4 : G, Ex g1 g4 →
  R (.bool false) g4)) → J g1) →
  ifB (eqI cat (5 : Int))
  (ifB (eqI t0 (43 : Int))
  (∀ g5 : G, Ex g g5 →
  R (.bool true) g5)
  (ifB (eqI t0 (44 : Int))
  (∀ g6 : G, Ex g g6 →
  R (.bool true) g6)
  (∀ g7 : G, Ex g g7 →
  J g7)))
  (∀ g8 : G, Ex g g8 →
  J g8)
theorem F132_eq (cat : Int) (t0 : Int) (t1 : Int) (t2 : ByteArray) (t3a : Option Addr) (t3l : Nat) (t3c : Nat) (t4a : Option Addr) (t4l : Nat) (t4c : Nat) (g : G) (R : Value → G → Prop) : fnG cfg132 26 [.tmp 4] c132 an132 [(.int .i64 cat), (.agg ⟨[(.int .i64 t0), (.int .i64 t1), (.string t2), (.slice t3a t3l t3c), (.slice t4a t4l t4c)]⟩)] g nobody R = F132 cat t0 t1 t2 t3a t3l t3c t4a t4l t4c g R := by kernel_rfl
theorem call132 (cat : Int) (t0 : Int) (t1 : Int) (t2 : ByteArray) (t3a : Option Addr) (t3l : Nat) (t3c : Nat) (t4a : Option Addr) (t4l : Nat) (t4c : Nat) (g : G) (R : Value → G → Prop) (hF : F132 cat t0 t1 t2 t3a t3l t3c t4a t4l t4c g R) : CallsG Tryz.prog 132 #[(.int .i64 cat), (.agg ⟨[(.int .i64 t0), (.int .i64 t1), (.string t2), (.slice t3a t3l t3c), (.slice t4a t4l t4c)]⟩)] g nobody R :=
  fn_soundG (c := cfg132) TTok FNSok mixed Tryz.func132 (show Tryz.f132.body = some c132 by kernel_rfl) (show Tryz.f132.ntmps = 26 by kernel_rfl) (show Tryz.f132.results.toList = [.tmp 4] by kernel_rfl) rfl ((F132_eq cat t0 t1 t2 t3a t3l t3c t4a t4l t4c g R ).mpr hF)

/- 133 pilaster/syntax.formed -/
noncomputable def c133 : Code := match Tryz.f133.body with
  | some c => c
  | none => .skip
noncomputable def cfg133 : Cfg := ⟨Tryz.prog, TT, FNS, [1], [(1, 1)], [4], TCH, true, false, none, PNF, false⟩
def an133 : AnnG := (.seq .leaf (.seq .leaf (.seq .leaf (.seq .leaf (.seq .leaf .leaf)))))
def F133 (t0 : Int) (t1 : Int) (t2 : ByteArray) (t3a : Option Addr) (t3l : Nat) (t3c : Nat) (t4a : Option Addr) (t4l : Nat) (t4c : Nat) (g : G) (R : Value → G → Prop) : Prop :=
  ∀ g1 : G, Ex g g1 →
  ∀ g2 : G, NewD g1 g2 3 [(.int .i64 (0 : Int))] →
  stOk g2.w ⟨g1.w.heap.size, 0, none⟩ 1 ∧ ¬ g2.X (Addr.block ⟨g1.w.heap.size, 0, none⟩) ∧ mutAt g2 ⟨g1.w.heap.size, 0, none⟩ 1 ∧ ((Addr.block ⟨g1.w.heap.size, 0, none⟩) < g.w.heap.size → nobody (Addr.block ⟨g1.w.heap.size, 0, none⟩)) ∧ ∀ g3 : G, StG false g2 ⟨g1.w.heap.size, 0, none⟩ [(.int .i64 (0 : Int))] g3 →
  ∀ g4 : G, NewD g3 g4 171 [.nilFunc] →
  stOk g4.w ⟨g3.w.heap.size, 0, none⟩ 1 ∧ ¬ g4.X (Addr.block ⟨g3.w.heap.size, 0, none⟩) ∧ mutAt g4 ⟨g3.w.heap.size, 0, none⟩ 1 ∧ ((Addr.block ⟨g3.w.heap.size, 0, none⟩) < g.w.heap.size → nobody (Addr.block ⟨g3.w.heap.size, 0, none⟩)) ∧ ∀ g5 : G, StG true g4 ⟨g3.w.heap.size, 0, none⟩ [(.func (.func 143) #[] ⟨[(.pointer (some ⟨g1.w.heap.size, 0, none⟩)), (.pointer (some ⟨g3.w.heap.size, 0, none⟩))]⟩)] g5 →
  ∃ walkf : FuncId, ∃ walkc : Array Value, g5.w.cell? ⟨g3.w.heap.size, 0, none⟩ = some (.func (.func walkf) #[] walkc) ∧ Enters Tryz.prog walkf ∧ ∃ M1 : Nat → Prop, (∀ b, b < g.w.heap.size → M1 b → nobody b) ∧ (CallsG Tryz.prog walkf ((⟨[(.agg ⟨[(.int .i64 t0), (.int .i64 t1), (.string t2), (.slice t3a t3l t3c), (.slice t4a t4l t4c)]⟩), (.int .i64 (1 : Int)), (.bool false)]⟩ : Array Value) ++ walkc) g5 M1 fun v g6 =>
  ∃ x : Bool, v = (.bool x) ∧ ∀ g7 : G, Ex g6 g7 →
  R (.bool x) g7)
theorem F133_eq (t0 : Int) (t1 : Int) (t2 : ByteArray) (t3a : Option Addr) (t3l : Nat) (t3c : Nat) (t4a : Option Addr) (t4l : Nat) (t4c : Nat) (g : G) (R : Value → G → Prop) : fnG cfg133 9 [.tmp 2] c133 an133 [(.agg ⟨[(.int .i64 t0), (.int .i64 t1), (.string t2), (.slice t3a t3l t3c), (.slice t4a t4l t4c)]⟩)] g nobody R = F133 t0 t1 t2 t3a t3l t3c t4a t4l t4c g R := by kernel_rfl
theorem call133 (t0 : Int) (t1 : Int) (t2 : ByteArray) (t3a : Option Addr) (t3l : Nat) (t3c : Nat) (t4a : Option Addr) (t4l : Nat) (t4c : Nat) (g : G) (R : Value → G → Prop) (hF : F133 t0 t1 t2 t3a t3l t3c t4a t4l t4c g R) : CallsG Tryz.prog 133 #[(.agg ⟨[(.int .i64 t0), (.int .i64 t1), (.string t2), (.slice t3a t3l t3c), (.slice t4a t4l t4c)]⟩)] g nobody R :=
  fn_soundG (c := cfg133) TTok FNSok mixed Tryz.func133 (show Tryz.f133.body = some c133 by kernel_rfl) (show Tryz.f133.ntmps = 9 by kernel_rfl) (show Tryz.f133.results.toList = [.tmp 2] by kernel_rfl) rfl ((F133_eq t0 t1 t2 t3a t3l t3c t4a t4l t4c g R ).mpr hF)

/- 135 slices.order2Ordered[string] -/
/- 136 pilaster/pilasterref03.Category -/
/- 137 pilaster/pilasterref03.Size -/
/- 138 pilaster/pilasterref03.Depth -/
/- 139 pilaster/pilasterref03.nodes -/
/- 140 pilaster/pilasterref01.Small -/
/- 141 pilaster/pilasterref01.Digit -/
/- 142 pilaster/syntax.Category -/
noncomputable def c142 : Code := match Tryz.f142.body with
  | some c => c
  | none => .skip
noncomputable def cfg142 : Cfg := ⟨Tryz.prog, TT, FNS, [], [], [], TCH, false, false, none, PNF, false⟩
def an142 : AnnG := (.seq .leaf (.seq (.seq .leaf (.blk (.join ⟨[(4, .bool)], [], []⟩ (.seq .leaf (.cond .leaf (.seq .leaf (.cond .leaf (.seq .leaf (.cond .leaf (.seq .leaf (.cond .leaf .leaf)))))))) (.cond (.seq .leaf .leaf) (.join ⟨[(10, .bool)], [], []⟩ (.seq .leaf (.cond .leaf (.seq .leaf (.cond .leaf (.seq .leaf (.cond .leaf (.seq .leaf (.cond .leaf .leaf)))))))) (.cond (.seq .leaf .leaf) (.join ⟨[(16, .bool)], [], []⟩ (.seq .leaf (.cond .leaf (.seq .leaf (.cond .leaf (.seq .leaf (.cond .leaf (.seq .leaf (.cond .leaf (.seq .leaf (.cond .leaf (.seq .leaf (.cond .leaf (.seq .leaf (.cond .leaf (.seq .leaf (.cond .leaf (.seq .leaf (.cond .leaf (.seq .leaf (.cond .leaf (.seq .leaf (.cond .leaf (.seq .leaf (.cond .leaf .leaf)))))))))))))))))))))))) (.cond (.seq .leaf .leaf) (.join ⟨[(30, .bool)], [], []⟩ (.seq .leaf (.cond .leaf (.seq .leaf (.cond .leaf (.seq .leaf (.cond .leaf (.seq .leaf (.cond .leaf (.seq .leaf (.cond .leaf (.seq .leaf (.cond .leaf (.seq .leaf (.cond .leaf (.seq .leaf (.cond .leaf .leaf)))))))))))))))) (.cond (.seq .leaf .leaf) (.join ⟨[(40, .bool)], [], []⟩ (.seq .leaf (.cond .leaf (.seq .leaf (.cond .leaf (.seq .leaf (.cond .leaf (.seq .leaf (.cond .leaf (.seq .leaf (.cond .leaf .leaf)))))))))) (.cond (.seq .leaf .leaf) (.join ⟨[(47, .bool)], [], []⟩ (.seq .leaf (.cond .leaf (.seq .leaf (.cond .leaf (.seq .leaf (.cond .leaf .leaf)))))) (.cond (.seq .leaf .leaf) (.join ⟨[(52, .bool)], [], []⟩ (.seq .leaf (.cond .leaf (.seq .leaf (.cond .leaf (.seq .leaf (.cond .leaf (.seq .leaf (.cond .leaf (.seq .leaf (.cond .leaf (.seq .leaf (.cond .leaf (.seq .leaf (.cond .leaf .leaf)))))))))))))) (.cond (.seq .leaf .leaf) .leaf)))))))))))))))) (.seq .leaf .leaf)))
def F142 (op : Int) (g : G) (R : Value → G → Prop) : Prop :=
  ∀ J : Bool → G → Prop,
  (∀ v_1 : Bool, ∀ g1 : G, (ifB v_1
  (∀ g2 : G, Ex g1 g2 →
  R (.int .i64 (1 : Int)) g2)
  (∀ J_1 : Bool → G → Prop,
  (∀ v_2 : Bool, ∀ g3 : G, (ifB v_2
  (∀ g4 : G, Ex g3 g4 →
  R (.int .i64 (2 : Int)) g4)
  (∀ J_2 : Bool → G → Prop,
  (∀ v_3 : Bool, ∀ g5 : G, (ifB v_3
  (∀ g6 : G, Ex g5 g6 →
  R (.int .i64 (3 : Int)) g6)
  (∀ J_3 : Bool → G → Prop,
  (∀ v_4 : Bool, ∀ g7 : G, (ifB v_4
  (∀ g8 : G, Ex g7 g8 →
  R (.int .i64 (4 : Int)) g8)
  (∀ J_4 : Bool → G → Prop,
  (∀ v_5 : Bool, ∀ g9 : G, (ifB v_5
  (∀ g10 : G, Ex g9 g10 →
  R (.int .i64 (5 : Int)) g10)
  (∀ J_5 : Bool → G → Prop,
  (∀ v_6 : Bool, ∀ g11 : G, (ifB v_6
  (∀ g12 : G, Ex g11 g12 →
  R (.int .i64 (6 : Int)) g12)
  (∀ J_6 : Bool → G → Prop,
  (∀ v_7 : Bool, ∀ g13 : G, (ifB v_7
  (∀ g14 : G, Ex g13 g14 →
  R (.int .i64 (7 : Int)) g14)
  (∀ g15 : G, Ex g13 g15 →
  R (.int .i64 (0 : Int)) g15)) → J_6 v_7 g13) →
  ifB (eqI op (81 : Int))
  (J_6 true g11)
  (ifB (eqI op (82 : Int))
  (J_6 true g11)
  (ifB (eqI op (83 : Int))
  (J_6 true g11)
  (ifB (eqI op (84 : Int))
  (J_6 true g11)
  (ifB (eqI op (85 : Int))
  (J_6 true g11)
  (ifB (eqI op (86 : Int))
  (J_6 true g11)
  (ifB (eqI op (87 : Int))
  (J_6 true g11)
  (J_6 (eqI op (88 : Int)) g11))))))))) → J_5 v_6 g11) →
  ifB (eqI op (71 : Int))
  (J_5 true g9)
  (ifB (eqI op (72 : Int))
  (J_5 true g9)
  (ifB (eqI op (73 : Int))
  (J_5 true g9)
  (J_5 (eqI op (74 : Int)) g9))))) → J_4 v_5 g9) →
  ifB (eqI op (61 : Int))
  (J_4 true g7)
  (ifB (eqI op (62 : Int))
  (J_4 true g7)
  (ifB (eqI op (63 : Int))
  (J_4 true g7)
  (ifB (eqI op (64 : Int))
  (J_4 true g7)
  (ifB (eqI op (65 : Int))
  (J_4 true g7)
  (J_4 (eqI op (66 : Int)) g7))))))) → J_3 v_4 g7) →
  ifB (eqI op (41 : Int))
  (J_3 true g5)
  (ifB (eqI op (42 : Int))
  (J_3 true g5)
  (ifB (eqI op (43 : Int))
  (J_3 true g5)
  (ifB (eqI op (44 : Int))
  (J_3 true g5)
  (ifB (eqI op (46 : Int))
  (J_3 true g5)
  (ifB (eqI op (47 : Int))
  (J_3 true g5)
  (ifB (eqI op (48 : Int))
  (J_3 true g5)
  (ifB (eqI op (49 : Int))
  (J_3 true g5)
  (J_3 (eqI op (50 : Int)) g5)))))))))) → J_2 v_3 g5) →
  ifB (eqI op (21 : Int))
  (J_2 true g3)
  (ifB (eqI op (22 : Int))
  (J_2 true g3)
  (ifB (eqI op (23 : Int))
  (J_2 true g3)
  (ifB (eqI op (24 : Int))
  (J_2 true g3)
  (ifB (eqI op (25 : Int))
  (J_2 true g3)
  (ifB (eqI op (26 : Int))
  (J_2 true g3)
  (ifB (eqI op (27 : Int))
  (J_2 true g3)
  (ifB (eqI op (28 : Int))
  (J_2 true g3)
  (ifB (eqI op (29 : Int))
  (J_2 true g3)
  (ifB (eqI op (31 : Int))
  (J_2 true g3)
  (ifB (eqI op (32 : Int))
  (J_2 true g3)
  (ifB (eqI op (33 : Int))
  (J_2 true g3)
  (J_2 (eqI op (34 : Int)) g3)))))))))))))) → J_1 v_2 g3) →
  ifB (eqI op (11 : Int))
  (J_1 true g1)
  (ifB (eqI op (12 : Int))
  (J_1 true g1)
  (ifB (eqI op (13 : Int))
  (J_1 true g1)
  (ifB (eqI op (14 : Int))
  (J_1 true g1)
  (J_1 (eqI op (15 : Int)) g1)))))) → J v_1 g1) →
  ifB (eqI op (1 : Int))
  (J true g)
  (ifB (eqI op (2 : Int))
  (J true g)
  (ifB (eqI op (3 : Int))
  (J true g)
  (ifB (eqI op (4 : Int))
  (J true g)
  (J (eqI op (5 : Int)) g))))
theorem F142_eq (op : Int) (g : G) (R : Value → G → Prop) : fnG cfg142 61 [.tmp 2] c142 an142 [(.int .i64 op)] g nobody R = F142 op g R := by kernel_rfl
theorem call142 (op : Int) (g : G) (R : Value → G → Prop) (hF : F142 op g R) : CallsG Tryz.prog 142 #[(.int .i64 op)] g nobody R :=
  fn_soundG (c := cfg142) TTok FNSok mixed Tryz.func142 (show Tryz.f142.body = some c142 by kernel_rfl) (show Tryz.f142.ntmps = 61 by kernel_rfl) (show Tryz.f142.results.toList = [.tmp 2] by kernel_rfl) rfl ((F142_eq op g R ).mpr hF)

/- 143 pilaster/syntax.formed$1 -/
noncomputable def c143 : Code := match Tryz.f143.body with
  | some c => c
  | none => .skip
noncomputable def cfg143 : Cfg := ⟨Tryz.prog, TT, FNS, [], [], [5, 6], TCH, false, false, none, PNF, false⟩
def an143 : AnnG := (.seq .leaf (.seq .leaf (.join ⟨[], [], []⟩ (.seq .leaf (.cond (.seq .leaf .leaf) .leaf)) (.seq .leaf .leaf))))
def F143 (t0 : Int) (t1 : Int) (t2 : ByteArray) (t3a : Option Addr) (t3l : Nat) (t3c : Nat) (t4a : Option Addr) (t4l : Nat) (t4c : Nat) (depth : Int) (inWith : Bool) (c0 : Option Addr) (c1 : Value) (g : G) (M : Nat → Prop) (R : Value → G → Prop) : Prop :=
  ∀ g1 : G, NewL g g1 74 ([(.int .i64 t0), (.int .i64 t1), (.string t2), (.slice t3a t3l t3c), (.slice t4a t4l t4c)] : List Value) →
  ∀ g2 : G, NewL g1 g2 3 ([(.int .i64 depth)] : List Value) →
  derefP c0 fun ad => ∃ x : Int, g2.w.cell? ad = some (.int .i64 x) ∧ InI64 (x + (1 : Int)) ∧ derefP c0 fun ad_1 => stOk g2.w ad_1 1 ∧ ¬ g2.X (Addr.block ad_1) ∧ mutAt g2 ad_1 1 ∧ ((Addr.block ad_1) < g.w.heap.size → M (Addr.block ad_1)) ∧ ∀ g3 : G, StG false g2 ad_1 [(.int .i64 (x + (1 : Int)))] g3 →
  ∀ J : G → Prop,
  (∀ g4 : G, (∃ xa : Option Addr, ∃ xl : Nat, ∃ xc : Nat, g4.w.cell? (Addr.add ⟨g.w.heap.size, 0, none⟩ 4) = some (.slice xa xl xc) ∧ ∃ M1 : Nat → Prop, (∀ b, b < g.w.heap.size → M1 b → M b) ∧ (CallsG Tryz.prog 37 #[(.slice xa xl xc), (.func (.func 146) #[] ⟨[c1, (.pointer (some ⟨g1.w.heap.size, 0, none⟩)), (.pointer (some ⟨g.w.heap.size, 0, none⟩))]⟩)] g4 M1 fun v g5 =>
  ∃ x_1 : Bool, v = (.bool x_1) ∧ ∀ g6 : G, Ex g5 g6 →
  R (.bool (!x_1)) g6)) → J g4) →
  derefP c0 fun ad_2 => ∃ x_2 : Int, g3.w.cell? ad_2 = some (.int .i64 x_2) ∧ ifB (ltI (20000 : Int) x_2)
  (∀ g7 : G, Ex g3 g7 →
  R (.bool false) g7)
  (∃ depth_1 : Int, g3.w.cell? ⟨g1.w.heap.size, 0, none⟩ = some (.int .i64 depth_1) ∧ ifB (ltI (400 : Int) depth_1)
  (∀ g8 : G, Ex g3 g8 →
  R (.bool false) g8)
  (∃ t0_1 : Int, ∃ t1_1 : Int, ∃ t2_1 : ByteArray, ∃ t3a_1 : Option Addr, ∃ t3l_1 : Nat, ∃ t3c_1 : Nat, ∃ t4a_1 : Option Addr, ∃ t4l_1 : Nat, ∃ t4c_1 : Nat, g3.w.cell? ⟨g.w.heap.size, 0, none⟩ = some (.int .i64 t0_1) ∧ g3.w.cell? (Addr.add ⟨g.w.heap.size, 0, none⟩ 1) = some (.int .i64 t1_1) ∧ g3.w.cell? (Addr.add ⟨g.w.heap.size, 0, none⟩ 2) = some (.string t2_1) ∧ g3.w.cell? (Addr.add ⟨g.w.heap.size, 0, none⟩ 3) = some (.slice t3a_1 t3l_1 t3c_1) ∧ g3.w.cell? (Addr.add ⟨g.w.heap.size, 0, none⟩ 4) = some (.slice t4a_1 t4l_1 t4c_1) ∧ (CallsP Tryz.prog 144 #[(.agg ⟨[(.int .i64 t0_1), (.int .i64 t1_1), (.string t2_1), (.slice t3a_1 t3l_1 t3c_1), (.slice t4a_1 t4l_1 t4c_1)]⟩), (.bool inWith)] g3 fun v g9 =>
  ∃ x_3 : Bool, v = (.bool x_3) ∧ ifB (!x_3)
  (∀ g10 : G, Ex g9 g10 →
  R (.bool false) g10)
  (∃ t0_2 : Int, ∃ t1_2 : Int, ∃ t2_2 : ByteArray, ∃ t3a_2 : Option Addr, ∃ t3l_2 : Nat, ∃ t3c_2 : Nat, ∃ t4a_2 : Option Addr, ∃ t4l_2 : Nat, ∃ t4c_2 : Nat, g9.w.cell? ⟨g.w.heap.size, 0, none⟩ = some (.int .i64 t0_2) ∧ g9.w.cell? (Addr.add ⟨g.w.heap.size, 0, none⟩ 1) = some (.int .i64 t1_2) ∧ g9.w.cell? (Addr.add ⟨g.w.heap.size, 0, none⟩ 2) = some (.string t2_2) ∧ g9.w.cell? (Addr.add ⟨g.w.heap.size, 0, none⟩ 3) = some (.slice t3a_2 t3l_2 t3c_2) ∧ g9.w.cell? (Addr.add ⟨g.w.heap.size, 0, none⟩ 4) = some (.slice t4a_2 t4l_2 t4c_2) ∧ (CallsP Tryz.prog 145 #[(.agg ⟨[(.int .i64 t0_2), (.int .i64 t1_2), (.string t2_2), (.slice t3a_2 t3l_2 t3c_2), (.slice t4a_2 t4l_2 t4c_2)]⟩)] g9 fun v g11 =>
  ∃ x_4 : Bool, v = (.bool x_4) ∧ ifB (!x_4)
  (∀ g12 : G, Ex g11 g12 →
  R (.bool false) g12)
  (J g11))))))
theorem F143_eq (t0 : Int) (t1 : Int) (t2 : ByteArray) (t3a : Option Addr) (t3l : Nat) (t3c : Nat) (t4a : Option Addr) (t4l : Nat) (t4c : Nat) (depth : Int) (inWith : Bool) (c0 : Option Addr) (c1 : Value) (g : G) (M : Nat → Prop) (R : Value → G → Prop) : fnG cfg143 33 [.tmp 8] c143 an143 [(.agg ⟨[(.int .i64 t0), (.int .i64 t1), (.string t2), (.slice t3a t3l t3c), (.slice t4a t4l t4c)]⟩), (.int .i64 depth), (.bool inWith), (.pointer c0), c1] g M R = F143 t0 t1 t2 t3a t3l t3c t4a t4l t4c depth inWith c0 c1 g M R := by kernel_rfl
theorem call143 (t0 : Int) (t1 : Int) (t2 : ByteArray) (t3a : Option Addr) (t3l : Nat) (t3c : Nat) (t4a : Option Addr) (t4l : Nat) (t4c : Nat) (depth : Int) (inWith : Bool) (c0 : Option Addr) (c1 : Value) (g : G) (M : Nat → Prop) (R : Value → G → Prop) (hF : F143 t0 t1 t2 t3a t3l t3c t4a t4l t4c depth inWith c0 c1 g M R) : CallsG Tryz.prog 143 #[(.agg ⟨[(.int .i64 t0), (.int .i64 t1), (.string t2), (.slice t3a t3l t3c), (.slice t4a t4l t4c)]⟩), (.int .i64 depth), (.bool inWith), (.pointer c0), c1] g M R :=
  fn_soundG (c := cfg143) TTok FNSok mixed Tryz.func143 (show Tryz.f143.body = some c143 by kernel_rfl) (show Tryz.f143.ntmps = 33 by kernel_rfl) (show Tryz.f143.results.toList = [.tmp 8] by kernel_rfl) rfl ((F143_eq t0 t1 t2 t3a t3l t3c t4a t4l t4c depth inWith c0 c1 g M R ).mpr hF)

/- 144 pilaster/syntax.own -/
noncomputable def c144 : Code := match Tryz.f144.body with
  | some c => c
  | none => .skip
noncomputable def cfg144 : Cfg := ⟨Tryz.prog, TT, FNS, [2, 5], [(2, 2), (5, 5), (6, 2), (9, 5), (13, 2), (18, 5), (22, 2), (28, 5), (32, 2), (38, 2), (42, 2), (50, 2), (62, 2), (69, 2), (74, 2), (78, 2), (84, 2), (88, 2), (94, 2), (99, 2), (103, 2), (109, 2), (113, 2), (119, 2), (123, 2), (129, 2), (135, 2), (144, 2), (152, 2), (158, 2), (165, 2), (169, 2), (180, 2), (186, 2), (190, 2), (194, 2)], [], TCH, false, false, none, PNF, false⟩
def an144 : AnnG := (.seq .leaf (.seq .leaf (.join ⟨[], [], []⟩ (.seq .leaf (.cond (.seq .leaf .leaf) .leaf)) (.seq (.seq .leaf (.blk (.seq .leaf (.cond (.seq .leaf .leaf) (.join ⟨[(45, .bool)], [], []⟩ (.seq .leaf (.cond .leaf (.seq .leaf (.cond .leaf (.seq .leaf (.cond .leaf .leaf)))))) (.cond (.seq .leaf .leaf) (.join ⟨[(53, .bool)], [], []⟩ (.seq .leaf (.cond .leaf (.seq .leaf (.cond .leaf (.seq .leaf (.cond .leaf (.seq .leaf (.cond .leaf (.seq .leaf (.cond .leaf (.seq .leaf (.cond .leaf (.seq .leaf (.cond .leaf .leaf)))))))))))))) (.cond (.seq .leaf .leaf) (.join ⟨[(65, .bool)], [], []⟩ (.seq .leaf (.cond .leaf (.seq .leaf (.cond .leaf .leaf)))) (.cond (.seq .leaf .leaf) (.seq .leaf (.cond (.seq .leaf .leaf) (.seq .leaf (.cond (.seq .leaf .leaf) (.seq .leaf (.cond (.seq .leaf .leaf) (.seq .leaf (.cond (.seq .leaf .leaf) (.seq .leaf (.cond (.seq .leaf .leaf) (.seq .leaf (.cond (.seq .leaf .leaf) (.seq .leaf (.cond (.seq .leaf .leaf) (.join ⟨[(162, .bool)], [], []⟩ (.seq .leaf (.cond .leaf .leaf)) (.cond (.seq .leaf .leaf) (.join ⟨[(173, .bool)], [], []⟩ (.seq .leaf (.cond .leaf (.seq .leaf (.cond .leaf (.seq .leaf (.cond .leaf (.seq .leaf (.cond .leaf (.seq .leaf (.cond .leaf .leaf)))))))))) (.cond (.seq .leaf .leaf) (.join ⟨[(183, .bool)], [], []⟩ (.seq .leaf (.cond .leaf .leaf)) (.cond (.seq .leaf .leaf) .leaf)))))))))))))))))))))))))))))) (.seq .leaf .leaf)))))
def F144 (t0 : Int) (t1 : Int) (t2 : ByteArray) (t3a : Option Addr) (t3l : Nat) (t3c : Nat) (t4a : Option Addr) (t4l : Nat) (t4c : Nat) (inWith : Bool) (g : G) (R : Value → G → Prop) : Prop :=
  ∀ g1 : G, Ex g g1 →
  (CallsP Tryz.prog 148 #[(.int .i64 t0)] g1 fun v g2 =>
  ∃ x0 : Bool, ∃ x1 : Bool, ∃ x2 : Bool, v = (.agg ⟨[(.bool x0), (.bool x1), (.bool x2)]⟩) ∧ ∀ J : G → Prop,
  (∀ g3 : G, (ifB (eqI t0 (1 : Int))
  ((CallsP Tryz.prog 149 #[(.string t2)] g3 fun v g4 =>
  ∃ x : Bool, v = (.bool x) ∧ ∀ g5 : G, Ex g4 g5 →
  R (.bool x) g5))
  (∀ J_1 : Bool → G → Prop,
  (∀ v_1 : Bool, ∀ g6 : G, (ifB v_1
  ((CallsP Tryz.prog 150 #[(.slice t3a t3l t3c), (.bool true)] g6 fun v g7 =>
  ∃ x_1 : Bool, v = (.bool x_1) ∧ ∀ g8 : G, Ex g7 g8 →
  R (.bool x_1) g8))
  (∀ J_2 : Bool → G → Prop,
  (∀ v_2 : Bool, ∀ g9 : G, (ifB v_2
  ((CallsP Tryz.prog 150 #[(.slice t3a t3l t3c), (.bool false)] g9 fun v g10 =>
  ∃ x_2 : Bool, v = (.bool x_2) ∧ ∀ g11 : G, Ex g10 g11 →
  R (.bool x_2) g11))
  (∀ J_3 : Bool → G → Prop,
  (∀ v_3 : Bool, ∀ g12 : G, (ifB v_3
  ((CallsP Tryz.prog 151 #[(.string t2)] g12 fun v g13 =>
  ∃ x_3 : Bool, v = (.bool x_3) ∧ ∀ g14 : G, Ex g13 g14 →
  R (.bool x_3) g14))
  (ifB (eqI t0 (13 : Int))
  (ifB (leI (-4503599627370496 : Int) t1)
  (∀ g15 : G, Ex g12 g15 →
  R (.bool (leI t1 (4503599627370496 : Int))) g15)
  (∀ g16 : G, Ex g12 g16 →
  R (.bool false) g16))
  (ifB (eqI t0 (21 : Int))
  (ifB (leI (0 : Int) t1)
  (∀ g17 : G, Ex g12 g17 →
  R (.bool (leI t1 (4503599627370496 : Int))) g17)
  (∀ g18 : G, Ex g12 g18 →
  R (.bool false) g18))
  (ifB (eqI t0 (22 : Int))
  ((CallsP Tryz.prog 152 #[(.string t2)] g12 fun v g19 =>
  ∃ x_4 : Bool, v = (.bool x_4) ∧ ∀ g20 : G, Ex g19 g20 →
  R (.bool x_4) g20))
  (ifB (eqI t0 (25 : Int))
  (ifB (strEq t2 (bs []))
  (∀ g21 : G, Ex g12 g21 →
  R (.bool true) g21)
  ((CallsP Tryz.prog 151 #[(.string t2)] g12 fun v g22 =>
  ∃ x_5 : Bool, v = (.bool x_5) ∧ ∀ g23 : G, Ex g22 g23 →
  R (.bool x_5) g23)))
  (ifB (eqI t0 (32 : Int))
  (ifB (leI (1 : Int) t1)
  (∀ g24 : G, Ex g12 g24 →
  R (.bool (leI t1 (12 : Int))) g24)
  (∀ g25 : G, Ex g12 g25 →
  R (.bool false) g25))
  (ifB (eqI t0 (42 : Int))
  ((CallsP Tryz.prog 151 #[(.string t2)] g12 fun v g26 =>
  ∃ x_6 : Bool, v = (.bool x_6) ∧ ifB x_6
  (ifB (leI (1 : Int) ((t3l : Nat) : Int))
  (ifB (leI ((t3l : Nat) : Int) (9 : Int))
  ((CallsP Tryz.prog 61 #[(.slice t3a t3l t3c), (.func (.func 153) #[] #[])] g26 fun v g27 =>
  ∃ x_7 : Bool, v = (.bool x_7) ∧ ∀ g28 : G, Ex g27 g28 →
  R (.bool (!x_7)) g28))
  (∀ g29 : G, Ex g26 g29 →
  R (.bool false) g29))
  (∀ g30 : G, Ex g26 g30 →
  R (.bool false) g30))
  (∀ g31 : G, Ex g26 g31 →
  R (.bool false) g31)))
  (ifB (eqI t0 (43 : Int))
  (ifB inWith
  (ifB (strEq t2 (bs []))
  ((CallsP Tryz.prog 154 #[(.slice t3a t3l t3c)] g12 fun v g32 =>
  ∃ x_8 : Bool, v = (.bool x_8) ∧ ∀ g33 : G, Ex g32 g33 →
  R (.bool x_8) g33))
  (ifB (!inWith)
  ((CallsP Tryz.prog 151 #[(.string t2)] g12 fun v g34 =>
  ∃ x_9 : Bool, v = (.bool x_9) ∧ ifB x_9
  ((CallsP Tryz.prog 154 #[(.slice t3a t3l t3c)] g34 fun v g35 =>
  ∃ x_10 : Bool, v = (.bool x_10) ∧ ∀ g36 : G, Ex g35 g36 →
  R (.bool x_10) g36))
  (∀ g37 : G, Ex g34 g37 →
  R (.bool false) g37)))
  (∀ g38 : G, Ex g12 g38 →
  R (.bool false) g38)))
  (ifB (!inWith)
  ((CallsP Tryz.prog 151 #[(.string t2)] g12 fun v g39 =>
  ∃ x_11 : Bool, v = (.bool x_11) ∧ ifB x_11
  ((CallsP Tryz.prog 154 #[(.slice t3a t3l t3c)] g39 fun v g40 =>
  ∃ x_12 : Bool, v = (.bool x_12) ∧ ∀ g41 : G, Ex g40 g41 →
  R (.bool x_12) g41))
  (∀ g42 : G, Ex g39 g42 →
  R (.bool false) g42)))
  (∀ g43 : G, Ex g12 g43 →
  R (.bool false) g43)))
  (∀ J_4 : Bool → G → Prop,
  (∀ v_4 : Bool, ∀ g44 : G, (ifB v_4
  ((CallsP Tryz.prog 151 #[(.string t2)] g44 fun v g45 =>
  ∃ x_13 : Bool, v = (.bool x_13) ∧ ifB x_13
  ((CallsP Tryz.prog 154 #[(.slice t3a t3l t3c)] g45 fun v g46 =>
  ∃ x_14 : Bool, v = (.bool x_14) ∧ ∀ g47 : G, Ex g46 g47 →
  R (.bool x_14) g47))
  (∀ g48 : G, Ex g45 g48 →
  R (.bool false) g48)))
  (∀ J_5 : Bool → G → Prop,
  (∀ v_5 : Bool, ∀ g49 : G, (ifB v_5
  ((CallsP Tryz.prog 69 #[(.string t2)] g49 fun v g50 =>
  ∃ x_15 : Bool, v = (.bool x_15) ∧ ∀ g51 : G, Ex g50 g51 →
  R (.bool x_15) g51))
  (∀ J_6 : Bool → G → Prop,
  (∀ v_6 : Bool, ∀ g52 : G, (ifB v_6
  ((CallsP Tryz.prog 69 #[(.string t2)] g52 fun v g53 =>
  ∃ x_16 : Bool, v = (.bool x_16) ∧ ifB x_16
  (ifB (eqI t1 (0 : Int))
  (∀ g54 : G, Ex g53 g54 →
  R (.bool true) g54)
  (∀ g55 : G, Ex g53 g55 →
  R (.bool (eqI t1 (1 : Int))) g55))
  (∀ g56 : G, Ex g53 g56 →
  R (.bool false) g56)))
  (∀ g57 : G, Ex g52 g57 →
  R (.bool true) g57)) → J_6 v_6 g52) →
  ifB (eqI t0 (73 : Int))
  (J_6 true g49)
  (J_6 (eqI t0 (83 : Int)) g49))) → J_5 v_5 g49) →
  ifB (eqI t0 (45 : Int))
  (J_5 true g44)
  (ifB (eqI t0 (46 : Int))
  (J_5 true g44)
  (ifB (eqI t0 (47 : Int))
  (J_5 true g44)
  (ifB (eqI t0 (50 : Int))
  (J_5 true g44)
  (ifB (eqI t0 (63 : Int))
  (J_5 true g44)
  (J_5 (eqI t0 (64 : Int)) g44))))))) → J_4 v_4 g44) →
  ifB (eqI t0 (44 : Int))
  (J_4 true g12)
  (J_4 (eqI t0 (62 : Int)) g12)))))))))) → J_3 v_3 g12) →
  ifB (eqI t0 (12 : Int))
  (J_3 true g9)
  (ifB (eqI t0 (41 : Int))
  (J_3 true g9)
  (J_3 (eqI t0 (61 : Int)) g9)))) → J_2 v_2 g9) →
  ifB (eqI t0 (5 : Int))
  (J_2 true g6)
  (ifB (eqI t0 (14 : Int))
  (J_2 true g6)
  (ifB (eqI t0 (24 : Int))
  (J_2 true g6)
  (ifB (eqI t0 (34 : Int))
  (J_2 true g6)
  (ifB (eqI t0 (48 : Int))
  (J_2 true g6)
  (ifB (eqI t0 (49 : Int))
  (J_2 true g6)
  (ifB (eqI t0 (72 : Int))
  (J_2 true g6)
  (J_2 (eqI t0 (82 : Int)) g6))))))))) → J_1 v_1 g6) →
  ifB (eqI t0 (2 : Int))
  (J_1 true g3)
  (ifB (eqI t0 (23 : Int))
  (J_1 true g3)
  (ifB (eqI t0 (66 : Int))
  (J_1 true g3)
  (J_1 (eqI t0 (74 : Int)) g3))))) → J g3) →
  ifB (!x0)
  (ifB (!eqI t1 (0 : Int))
  (∀ g58 : G, Ex g2 g58 →
  R (.bool false) g58)
  (ifB (!x1)
  (ifB (!strEq t2 (bs []))
  (∀ g59 : G, Ex g2 g59 →
  R (.bool false) g59)
  (ifB (!x2)
  (ifB (ltI (0 : Int) ((t3l : Nat) : Int))
  (∀ g60 : G, Ex g2 g60 →
  R (.bool false) g60)
  (∀ g61 : G, Ex g2 g61 →
  J g61))
  (∀ g62 : G, Ex g2 g62 →
  J g62)))
  (ifB (!x2)
  (ifB (ltI (0 : Int) ((t3l : Nat) : Int))
  (∀ g63 : G, Ex g2 g63 →
  R (.bool false) g63)
  (∀ g64 : G, Ex g2 g64 →
  J g64))
  (∀ g65 : G, Ex g2 g65 →
  J g65))))
  (ifB (!x1)
  (ifB (!strEq t2 (bs []))
  (∀ g66 : G, Ex g2 g66 →
  R (.bool false) g66)
  (ifB (!x2)
  (ifB (ltI (0 : Int) ((t3l : Nat) : Int))
  (∀ g67 : G, Ex g2 g67 →
  R (.bool false) g67)
  (∀ g68 : G, Ex g2 g68 →
  J g68))
  (∀ g69 : G, Ex g2 g69 →
  J g69)))
  (ifB (!x2)
  (ifB (ltI (0 : Int) ((t3l : Nat) : Int))
  (∀ g70 : G, Ex g2 g70 →
  R (.bool false) g70)
  (∀ g71 : G, Ex g2 g71 →
  J g71))
  (∀ g72 : G, Ex g2 g72 →
  J g72))))
theorem F144_eq (t0 : Int) (t1 : Int) (t2 : ByteArray) (t3a : Option Addr) (t3l : Nat) (t3c : Nat) (t4a : Option Addr) (t4l : Nat) (t4c : Nat) (inWith : Bool) (g : G) (R : Value → G → Prop) : fnG cfg144 199 [.tmp 4] c144 an144 [(.agg ⟨[(.int .i64 t0), (.int .i64 t1), (.string t2), (.slice t3a t3l t3c), (.slice t4a t4l t4c)]⟩), (.bool inWith)] g nobody R = F144 t0 t1 t2 t3a t3l t3c t4a t4l t4c inWith g R := by kernel_rfl
theorem call144 (t0 : Int) (t1 : Int) (t2 : ByteArray) (t3a : Option Addr) (t3l : Nat) (t3c : Nat) (t4a : Option Addr) (t4l : Nat) (t4c : Nat) (inWith : Bool) (g : G) (R : Value → G → Prop) (hF : F144 t0 t1 t2 t3a t3l t3c t4a t4l t4c inWith g R) : CallsG Tryz.prog 144 #[(.agg ⟨[(.int .i64 t0), (.int .i64 t1), (.string t2), (.slice t3a t3l t3c), (.slice t4a t4l t4c)]⟩), (.bool inWith)] g nobody R :=
  fn_soundG (c := cfg144) TTok FNSok mixed Tryz.func144 (show Tryz.f144.body = some c144 by kernel_rfl) (show Tryz.f144.ntmps = 199 by kernel_rfl) (show Tryz.f144.results.toList = [.tmp 4] by kernel_rfl) rfl ((F144_eq t0 t1 t2 t3a t3l t3c t4a t4l t4c inWith g R ).mpr hF)

/- 145 pilaster/syntax.shape -/
noncomputable def c145 : Code := match Tryz.f145.body with
  | some c => c
  | none => .skip
noncomputable def cfg145 : Cfg := ⟨Tryz.prog, TT, FNS, [1], [(1, 1), (4, 1), (7, 1), (28, 1), (38, 1), (43, 1), (51, 1), (72, 1), (86, 1), (93, 1), (109, 1), (118, 1), (128, 1), (147, 1), (163, 1), (169, 1), (175, 1), (197, 1), (204, 1), (215, 1), (221, 1), (231, 1), (245, 1), (252, 1), (260, 1), (285, 1), (294, 1)], [], TCH, false, false, none, PNF, false⟩
def an145 : AnnG := (.seq .leaf (.seq .leaf (.seq (.seq .leaf (.blk (.join ⟨[(9, .bool)], [], []⟩ (.seq .leaf (.cond .leaf (.seq .leaf (.cond .leaf (.seq .leaf (.cond .leaf (.seq .leaf (.cond .leaf (.seq .leaf (.cond .leaf (.seq .leaf (.cond .leaf (.seq .leaf (.cond .leaf (.seq .leaf (.cond .leaf (.seq .leaf (.cond .leaf (.seq .leaf (.cond .leaf (.seq .leaf (.cond .leaf (.seq .leaf (.cond .leaf (.seq .leaf (.cond .leaf .leaf)))))))))))))))))))))))))) (.cond (.seq .leaf .leaf) (.seq .leaf (.cond (.seq .leaf .leaf) (.seq .leaf (.cond (.seq .leaf .leaf) (.seq .leaf (.cond (.seq .leaf .leaf) (.seq .leaf (.cond (.seq .leaf .leaf) (.seq .leaf (.cond (.seq .leaf .leaf) (.join ⟨[(55, .bool)], [], []⟩ (.seq .leaf (.cond .leaf (.seq .leaf (.cond .leaf .leaf)))) (.cond (.seq .leaf .leaf) (.seq .leaf (.cond (.seq .leaf .leaf) (.seq .leaf (.cond (.seq .leaf .leaf) (.seq .leaf (.cond (.seq .leaf .leaf) (.seq .leaf (.cond (.seq .leaf .leaf) (.seq .leaf (.cond (.seq .leaf .leaf) (.seq .leaf (.cond (.seq .leaf .leaf) (.seq .leaf (.cond (.seq (.seq .leaf (.cond (.seq .leaf .leaf) .leaf)) (.seq .leaf .leaf)) (.seq .leaf (.cond (.seq .leaf .leaf) (.seq .leaf (.cond (.seq .leaf .leaf) (.join ⟨[(152, .bool)], [], []⟩ (.seq .leaf (.cond .leaf .leaf)) (.cond (.seq .leaf .leaf) (.seq .leaf (.cond (.seq .leaf .leaf) (.seq .leaf (.cond (.seq .leaf .leaf) (.seq .leaf (.cond (.seq .leaf .leaf) (.join ⟨[(183, .bool)], [], []⟩ (.seq .leaf (.cond .leaf (.seq .leaf (.cond .leaf (.seq .leaf (.cond .leaf .leaf)))))) (.cond (.seq .leaf .leaf) (.join ⟨[(191, .bool)], [], []⟩ (.seq .leaf (.cond .leaf .leaf)) (.cond (.seq .leaf .leaf) (.seq .leaf (.cond (.seq .leaf .leaf) (.seq .leaf (.cond (.seq .leaf .leaf) (.seq .leaf (.cond (.seq .leaf .leaf) (.seq .leaf (.cond (.seq .leaf .leaf) (.seq .leaf (.cond (.seq .leaf .leaf) (.seq .leaf (.cond (.seq .leaf .leaf) (.seq .leaf (.cond (.seq .leaf .leaf) (.join ⟨[(274, .bool)], [], []⟩ (.seq .leaf (.cond .leaf .leaf)) (.cond (.seq .leaf .leaf) (.seq .leaf (.cond (.seq .leaf .leaf) .leaf)))))))))))))))))))))))))))))))))))))))))))))))))))))))))))))))) (.seq .leaf .leaf))))
def F145 (t0 : Int) (t1 : Int) (t2 : ByteArray) (t3a : Option Addr) (t3l : Nat) (t3c : Nat) (t4a : Option Addr) (t4l : Nat) (t4c : Nat) (g : G) (R : Value → G → Prop) : Prop :=
  ∀ J : Bool → G → Prop,
  (∀ v_1 : Bool, ∀ g1 : G, (ifB v_1
  (∀ g2 : G, Ex g1 g2 →
  R (.bool (eqI ((t4l : Nat) : Int) (0 : Int))) g2)
  (ifB (eqI t0 (2 : Int))
  ((CallsP Tryz.prog 155 #[(.slice t4a t4l t4c), (.int .i64 (1 : Int)), (.int .i64 (0 : Int)), (.int .i64 (4 : Int))] g1 fun v g3 =>
  ∃ x : Bool, v = (.bool x) ∧ ∀ g4 : G, Ex g3 g4 →
  R (.bool x) g4))
  (ifB (eqI t0 (3 : Int))
  (∀ g5 : G, NewL g1 g5 3 [(.int .i64 (1 : Int)), (.int .i64 (1 : Int))] →
  (CallsP Tryz.prog 156 #[(.agg ⟨[(.int .i64 t0), (.int .i64 t1), (.string t2), (.slice t3a t3l t3c), (.slice t4a t4l t4c)]⟩), (.slice (some ⟨g1.w.heap.size, 0, none⟩) 2 2)] g5 fun v g6 =>
  ∃ x_1 : Bool, v = (.bool x_1) ∧ ∀ g7 : G, Ex g6 g7 →
  R (.bool x_1) g7))
  (ifB (eqI t0 (4 : Int))
  ((CallsP Tryz.prog 155 #[(.slice t4a t4l t4c), (.int .i64 (1 : Int)), (.int .i64 (2 : Int)), (.int .i64 (9 : Int))] g1 fun v g8 =>
  ∃ x_2 : Bool, v = (.bool x_2) ∧ ∀ g9 : G, Ex g8 g9 →
  R (.bool x_2) g9))
  (ifB (eqI t0 (14 : Int))
  ((CallsP Tryz.prog 155 #[(.slice t4a t4l t4c), (.int .i64 (2 : Int)), (.int .i64 (0 : Int)), (.int .i64 (1 : Int))] g1 fun v g10 =>
  ∃ x_3 : Bool, v = (.bool x_3) ∧ ∀ g11 : G, Ex g10 g11 →
  R (.bool x_3) g11))
  (ifB (eqI t0 (15 : Int))
  (ifB (!eqI ((t4l : Nat) : Int) (1 : Int))
  ((CallsP Tryz.prog 155 #[(.slice t4a t4l t4c), (.int .i64 (2 : Int)), (.int .i64 (0 : Int)), (.int .i64 (9 : Int))] g1 fun v g12 =>
  ∃ x_4 : Bool, v = (.bool x_4) ∧ ∀ g13 : G, Ex g12 g13 →
  R (.bool x_4) g13))
  (∀ g14 : G, Ex g1 g14 →
  R (.bool false) g14))
  (∀ J_1 : Bool → G → Prop,
  (∀ v_2 : Bool, ∀ g15 : G, (ifB v_2
  (∀ g16 : G, NewL g15 g16 3 [(.int .i64 (3 : Int))] →
  (CallsP Tryz.prog 156 #[(.agg ⟨[(.int .i64 t0), (.int .i64 t1), (.string t2), (.slice t3a t3l t3c), (.slice t4a t4l t4c)]⟩), (.slice (some ⟨g15.w.heap.size, 0, none⟩) 1 1)] g16 fun v g17 =>
  ∃ x_5 : Bool, v = (.bool x_5) ∧ ∀ g18 : G, Ex g17 g18 →
  R (.bool x_5) g18))
  (ifB (eqI t0 (26 : Int))
  (∀ g19 : G, NewL g15 g19 3 [(.int .i64 (3 : Int)), (.int .i64 (3 : Int))] →
  (CallsP Tryz.prog 156 #[(.agg ⟨[(.int .i64 t0), (.int .i64 t1), (.string t2), (.slice t3a t3l t3c), (.slice t4a t4l t4c)]⟩), (.slice (some ⟨g15.w.heap.size, 0, none⟩) 2 2)] g19 fun v g20 =>
  ∃ x_6 : Bool, v = (.bool x_6) ∧ ∀ g21 : G, Ex g20 g21 →
  R (.bool x_6) g21))
  (ifB (eqI t0 (27 : Int))
  (ifB (!eqI ((t4l : Nat) : Int) (1 : Int))
  ((CallsP Tryz.prog 155 #[(.slice t4a t4l t4c), (.int .i64 (3 : Int)), (.int .i64 (0 : Int)), (.int .i64 (9 : Int))] g15 fun v g22 =>
  ∃ x_7 : Bool, v = (.bool x_7) ∧ ∀ g23 : G, Ex g22 g23 →
  R (.bool x_7) g23))
  (∀ g24 : G, Ex g15 g24 →
  R (.bool false) g24))
  (ifB (eqI t0 (28 : Int))
  (∀ g25 : G, NewL g15 g25 3 [(.int .i64 (3 : Int)), (.int .i64 (3 : Int)), (.int .i64 (3 : Int))] →
  (CallsP Tryz.prog 156 #[(.agg ⟨[(.int .i64 t0), (.int .i64 t1), (.string t2), (.slice t3a t3l t3c), (.slice t4a t4l t4c)]⟩), (.slice (some ⟨g15.w.heap.size, 0, none⟩) 3 3)] g25 fun v g26 =>
  ∃ x_8 : Bool, v = (.bool x_8) ∧ ∀ g27 : G, Ex g26 g27 →
  R (.bool x_8) g27))
  (ifB (eqI t0 (29 : Int))
  (ifB (leI (2 : Int) ((t4l : Nat) : Int))
  ((0 ≤ (0 : Int) ∧ (0 : Int) < ((t4l : Nat) : Int)) ∧ derefP t4a fun ad => ∃ x0 : Int, ∃ x1 : Int, ∃ x2 : ByteArray, ∃ x3a : Option Addr, ∃ x3l : Nat, ∃ x3c : Nat, ∃ x4a : Option Addr, ∃ x4l : Nat, ∃ x4c : Nat, g15.w.cell? (Addr.add ad (Int.toNat (0 : Int) * 5)) = some (.int .i64 x0) ∧ g15.w.cell? (Addr.add (Addr.add ad (Int.toNat (0 : Int) * 5)) 1) = some (.int .i64 x1) ∧ g15.w.cell? (Addr.add (Addr.add ad (Int.toNat (0 : Int) * 5)) 2) = some (.string x2) ∧ g15.w.cell? (Addr.add (Addr.add ad (Int.toNat (0 : Int) * 5)) 3) = some (.slice x3a x3l x3c) ∧ g15.w.cell? (Addr.add (Addr.add ad (Int.toNat (0 : Int) * 5)) 4) = some (.slice x4a x4l x4c) ∧ (CallsP Tryz.prog 132 #[(.int .i64 (3 : Int)), (.agg ⟨[(.int .i64 x0), (.int .i64 x1), (.string x2), (.slice x3a x3l x3c), (.slice x4a x4l x4c)]⟩)] g15 fun v g28 =>
  ∃ x_9 : Bool, v = (.bool x_9) ∧ ifB x_9
  ((0 ≤ (1 : Int) ∧ (1 : Int) ≤ ((t4l : Nat) : Int)) ∧ ∀ g29 : G, NewL g28 g29 3 [(.int .i64 (30 : Int))] →
  (CallsP Tryz.prog 157 #[(.slice (slAddr t4a t4c (Int.toNat (1 : Int)) 5) (t4l - (Int.toNat (1 : Int))) (t4c - (Int.toNat (1 : Int)))), (.slice (some ⟨g28.w.heap.size, 0, none⟩) 1 1)] g29 fun v g30 =>
  ∃ x_10 : Bool, v = (.bool x_10) ∧ ∀ g31 : G, Ex g30 g31 →
  R (.bool x_10) g31))
  (∀ g32 : G, Ex g28 g32 →
  R (.bool false) g32)))
  (∀ g33 : G, Ex g15 g33 →
  R (.bool false) g33))
  (ifB (eqI t0 (30 : Int))
  (∀ g34 : G, NewL g15 g34 3 [(.int .i64 (2 : Int)), (.int .i64 (3 : Int))] →
  (CallsP Tryz.prog 156 #[(.agg ⟨[(.int .i64 t0), (.int .i64 t1), (.string t2), (.slice t3a t3l t3c), (.slice t4a t4l t4c)]⟩), (.slice (some ⟨g15.w.heap.size, 0, none⟩) 2 2)] g34 fun v g35 =>
  ∃ x_11 : Bool, v = (.bool x_11) ∧ ∀ g36 : G, Ex g35 g36 →
  R (.bool x_11) g36))
  (ifB (eqI t0 (31 : Int))
  (ifB (leI (1 : Int) ((t4l : Nat) : Int))
  (InI64 (((t4l : Nat) : Int) - (1 : Int)) ∧ (0 ≤ (((t4l : Nat) : Int) - (1 : Int)) ∧ (((t4l : Nat) : Int) - (1 : Int)) < ((t4l : Nat) : Int)) ∧ derefP t4a fun ad_1 => ∃ x0_1 : Int, ∃ x1_1 : Int, ∃ x2_1 : ByteArray, ∃ x3a_1 : Option Addr, ∃ x3l_1 : Nat, ∃ x3c_1 : Nat, ∃ x4a_1 : Option Addr, ∃ x4l_1 : Nat, ∃ x4c_1 : Nat, g15.w.cell? (Addr.add ad_1 (Int.toNat (((t4l : Nat) : Int) - (1 : Int)) * 5)) = some (.int .i64 x0_1) ∧ g15.w.cell? (Addr.add (Addr.add ad_1 (Int.toNat (((t4l : Nat) : Int) - (1 : Int)) * 5)) 1) = some (.int .i64 x1_1) ∧ g15.w.cell? (Addr.add (Addr.add ad_1 (Int.toNat (((t4l : Nat) : Int) - (1 : Int)) * 5)) 2) = some (.string x2_1) ∧ g15.w.cell? (Addr.add (Addr.add ad_1 (Int.toNat (((t4l : Nat) : Int) - (1 : Int)) * 5)) 3) = some (.slice x3a_1 x3l_1 x3c_1) ∧ g15.w.cell? (Addr.add (Addr.add ad_1 (Int.toNat (((t4l : Nat) : Int) - (1 : Int)) * 5)) 4) = some (.slice x4a_1 x4l_1 x4c_1) ∧ (CallsP Tryz.prog 132 #[(.int .i64 (3 : Int)), (.agg ⟨[(.int .i64 x0_1), (.int .i64 x1_1), (.string x2_1), (.slice x3a_1 x3l_1 x3c_1), (.slice x4a_1 x4l_1 x4c_1)]⟩)] g15 fun v g37 =>
  ∃ x_12 : Bool, v = (.bool x_12) ∧ ifB x_12
  (InI64 (((t4l : Nat) : Int) - (1 : Int)) ∧ (0 ≤ (((t4l : Nat) : Int) - (1 : Int)) ∧ (((t4l : Nat) : Int) - (1 : Int)) ≤ ((t4c : Nat) : Int)) ∧ ∀ g38 : G, NewL g37 g38 3 [(.int .i64 (41 : Int)), (.int .i64 (42 : Int)), (.int .i64 (50 : Int))] →
  (CallsP Tryz.prog 157 #[(.slice (slAddr t4a t4c 0 5) ((Int.toNat (((t4l : Nat) : Int) - (1 : Int))) - 0) (t4c - 0)), (.slice (some ⟨g37.w.heap.size, 0, none⟩) 3 3)] g38 fun v g39 =>
  ∃ x_13 : Bool, v = (.bool x_13) ∧ ∀ g40 : G, Ex g39 g40 →
  R (.bool x_13) g40))
  (∀ g41 : G, Ex g37 g41 →
  R (.bool false) g41)))
  (∀ g42 : G, Ex g15 g42 →
  R (.bool false) g42))
  (ifB (eqI t0 (32 : Int))
  (ifB (eqI t1 (12 : Int))
  (∀ g43 : G, NewL g15 g43 3 [(.int .i64 (3 : Int))] →
  (CallsP Tryz.prog 156 #[(.agg ⟨[(.int .i64 t0), (.int .i64 t1), (.string t2), (.slice t3a t3l t3c), (.slice t4a t4l t4c)]⟩), (.slice (some ⟨g15.w.heap.size, 0, none⟩) 1 1)] g43 fun v g44 =>
  ∃ x_14 : Bool, v = (.bool x_14) ∧ ∀ g45 : G, Ex g44 g45 →
  R (.bool x_14) g45))
  (∀ g46 : G, NewL g15 g46 3 [(.int .i64 (3 : Int)), (.int .i64 (3 : Int))] →
  (CallsP Tryz.prog 156 #[(.agg ⟨[(.int .i64 t0), (.int .i64 t1), (.string t2), (.slice t3a t3l t3c), (.slice t4a t4l t4c)]⟩), (.slice (some ⟨g15.w.heap.size, 0, none⟩) 2 2)] g46 fun v g47 =>
  ∃ x_15 : Bool, v = (.bool x_15) ∧ ∀ g48 : G, Ex g47 g48 →
  R (.bool x_15) g48)))
  (ifB (eqI t0 (33 : Int))
  (∀ g49 : G, NewL g15 g49 3 [(.int .i64 (3 : Int)), (.int .i64 (1 : Int))] →
  (CallsP Tryz.prog 156 #[(.agg ⟨[(.int .i64 t0), (.int .i64 t1), (.string t2), (.slice t3a t3l t3c), (.slice t4a t4l t4c)]⟩), (.slice (some ⟨g15.w.heap.size, 0, none⟩) 2 2)] g49 fun v g50 =>
  ∃ x_16 : Bool, v = (.bool x_16) ∧ ∀ g51 : G, Ex g50 g51 →
  R (.bool x_16) g51))
  (ifB (eqI t0 (34 : Int))
  (ifB (eqI ((t4l : Nat) : Int) (1 : Int))
  (∀ g52 : G, NewL g15 g52 3 [(.int .i64 (72 : Int))] →
  (CallsP Tryz.prog 157 #[(.slice t4a t4l t4c), (.slice (some ⟨g15.w.heap.size, 0, none⟩) 1 1)] g52 fun v g53 =>
  ∃ x_17 : Bool, v = (.bool x_17) ∧ ∀ g54 : G, Ex g53 g54 →
  R (.bool x_17) g54))
  (∀ g55 : G, Ex g15 g55 →
  R (.bool false) g55))
  (∀ J_2 : Bool → G → Prop,
  (∀ v_3 : Bool, ∀ g56 : G, (ifB v_3
  (∀ g57 : G, NewL g56 g57 3 [(.int .i64 (1 : Int))] →
  (CallsP Tryz.prog 156 #[(.agg ⟨[(.int .i64 t0), (.int .i64 t1), (.string t2), (.slice t3a t3l t3c), (.slice t4a t4l t4c)]⟩), (.slice (some ⟨g56.w.heap.size, 0, none⟩) 1 1)] g57 fun v g58 =>
  ∃ x_18 : Bool, v = (.bool x_18) ∧ ∀ g59 : G, Ex g58 g59 →
  R (.bool x_18) g59))
  (ifB (eqI t0 (44 : Int))
  (ifB (leI (1 : Int) ((t4l : Nat) : Int))
  (∀ g60 : G, NewL g56 g60 3 [(.int .i64 (45 : Int))] →
  (CallsP Tryz.prog 157 #[(.slice t4a t4l t4c), (.slice (some ⟨g56.w.heap.size, 0, none⟩) 1 1)] g60 fun v g61 =>
  ∃ x_19 : Bool, v = (.bool x_19) ∧ ifB x_19
  ((CallsP Tryz.prog 158 #[(.slice t4a t4l t4c)] g61 fun v g62 =>
  ∃ x_20 : Bool, v = (.bool x_20) ∧ ∀ g63 : G, Ex g62 g63 →
  R (.bool x_20) g63))
  (∀ g64 : G, Ex g61 g64 →
  R (.bool false) g64)))
  (∀ g65 : G, Ex g56 g65 →
  R (.bool false) g65))
  (ifB (eqI t0 (45 : Int))
  ((CallsP Tryz.prog 155 #[(.slice t4a t4l t4c), (.int .i64 (1 : Int)), (.int .i64 (0 : Int)), (.int .i64 (1 : Int))] g56 fun v g66 =>
  ∃ x_21 : Bool, v = (.bool x_21) ∧ ∀ g67 : G, Ex g66 g67 →
  R (.bool x_21) g67))
  (ifB (eqI t0 (46 : Int))
  (∀ g68 : G, NewL g56 g68 3 [(.int .i64 (7 : Int))] →
  (CallsP Tryz.prog 156 #[(.agg ⟨[(.int .i64 t0), (.int .i64 t1), (.string t2), (.slice t3a t3l t3c), (.slice t4a t4l t4c)]⟩), (.slice (some ⟨g56.w.heap.size, 0, none⟩) 1 1)] g68 fun v g69 =>
  ∃ x_22 : Bool, v = (.bool x_22) ∧ ∀ g70 : G, Ex g69 g70 →
  R (.bool x_22) g70))
  (∀ J_3 : Bool → G → Prop,
  (∀ v_4 : Bool, ∀ g71 : G, (ifB v_4
  (∀ g72 : G, NewL g71 g72 3 [(.int .i64 (6 : Int))] →
  (CallsP Tryz.prog 156 #[(.agg ⟨[(.int .i64 t0), (.int .i64 t1), (.string t2), (.slice t3a t3l t3c), (.slice t4a t4l t4c)]⟩), (.slice (some ⟨g71.w.heap.size, 0, none⟩) 1 1)] g72 fun v g73 =>
  ∃ x_23 : Bool, v = (.bool x_23) ∧ ∀ g74 : G, Ex g73 g74 →
  R (.bool x_23) g74))
  (∀ J_4 : Bool → G → Prop,
  (∀ v_5 : Bool, ∀ g75 : G, (ifB v_5
  (ifB (eqI ((t4l : Nat) : Int) (2 : Int))
  ((0 ≤ (0 : Int) ∧ (0 : Int) < ((t4l : Nat) : Int)) ∧ derefP t4a fun ad_2 => ∃ x0_2 : Int, ∃ x1_2 : Int, ∃ x2_2 : ByteArray, ∃ x3a_2 : Option Addr, ∃ x3l_2 : Nat, ∃ x3c_2 : Nat, ∃ x4a_2 : Option Addr, ∃ x4l_2 : Nat, ∃ x4c_2 : Nat, g75.w.cell? (Addr.add ad_2 (Int.toNat (0 : Int) * 5)) = some (.int .i64 x0_2) ∧ g75.w.cell? (Addr.add (Addr.add ad_2 (Int.toNat (0 : Int) * 5)) 1) = some (.int .i64 x1_2) ∧ g75.w.cell? (Addr.add (Addr.add ad_2 (Int.toNat (0 : Int) * 5)) 2) = some (.string x2_2) ∧ g75.w.cell? (Addr.add (Addr.add ad_2 (Int.toNat (0 : Int) * 5)) 3) = some (.slice x3a_2 x3l_2 x3c_2) ∧ g75.w.cell? (Addr.add (Addr.add ad_2 (Int.toNat (0 : Int) * 5)) 4) = some (.slice x4a_2 x4l_2 x4c_2) ∧ (CallsP Tryz.prog 132 #[(.int .i64 (3 : Int)), (.agg ⟨[(.int .i64 x0_2), (.int .i64 x1_2), (.string x2_2), (.slice x3a_2 x3l_2 x3c_2), (.slice x4a_2 x4l_2 x4c_2)]⟩)] g75 fun v g76 =>
  ∃ x_24 : Bool, v = (.bool x_24) ∧ ifB x_24
  ((0 ≤ (1 : Int) ∧ (1 : Int) ≤ ((t4l : Nat) : Int)) ∧ ∀ g77 : G, NewL g76 g77 3 [(.int .i64 (72 : Int))] →
  (CallsP Tryz.prog 157 #[(.slice (slAddr t4a t4c (Int.toNat (1 : Int)) 5) (t4l - (Int.toNat (1 : Int))) (t4c - (Int.toNat (1 : Int)))), (.slice (some ⟨g76.w.heap.size, 0, none⟩) 1 1)] g77 fun v g78 =>
  ∃ x_25 : Bool, v = (.bool x_25) ∧ ∀ g79 : G, Ex g78 g79 →
  R (.bool x_25) g79))
  (∀ g80 : G, Ex g76 g80 →
  R (.bool false) g80)))
  (∀ g81 : G, Ex g75 g81 →
  R (.bool false) g81))
  (ifB (eqI t0 (66 : Int))
  (ifB (eqI ((t4l : Nat) : Int) (1 : Int))
  (∀ g82 : G, NewL g75 g82 3 [(.int .i64 (2 : Int))] →
  (CallsP Tryz.prog 157 #[(.slice t4a t4l t4c), (.slice (some ⟨g75.w.heap.size, 0, none⟩) 1 1)] g82 fun v g83 =>
  ∃ x_26 : Bool, v = (.bool x_26) ∧ ifB x_26
  ((0 ≤ (0 : Int) ∧ (0 : Int) < ((t4l : Nat) : Int)) ∧ derefP t4a fun ad_3 => ∃ xa : Option Addr, ∃ xl : Nat, ∃ xc : Nat, g83.w.cell? (Addr.add (Addr.add ad_3 (Int.toNat (0 : Int) * 5)) 4) = some (.slice xa xl xc) ∧ ∀ g84 : G, Ex g83 g84 →
  R (.bool (eqI ((xl : Nat) : Int) (0 : Int))) g84)
  (∀ g85 : G, Ex g83 g85 →
  R (.bool false) g85)))
  (∀ g86 : G, Ex g75 g86 →
  R (.bool false) g86))
  (ifB (eqI t0 (71 : Int))
  ((CallsP Tryz.prog 155 #[(.slice t4a t4l t4c), (.int .i64 (5 : Int)), (.int .i64 (0 : Int)), (.int .i64 ((t4l : Nat) : Int))] g75 fun v g87 =>
  ∃ x_27 : Bool, v = (.bool x_27) ∧ ∀ g88 : G, Ex g87 g88 →
  R (.bool x_27) g88))
  (ifB (eqI t0 (73 : Int))
  (∀ g89 : G, NewL g75 g89 3 [(.int .i64 (6 : Int)), (.int .i64 (6 : Int))] →
  (CallsP Tryz.prog 156 #[(.agg ⟨[(.int .i64 t0), (.int .i64 t1), (.string t2), (.slice t3a t3l t3c), (.slice t4a t4l t4c)]⟩), (.slice (some ⟨g75.w.heap.size, 0, none⟩) 2 2)] g89 fun v g90 =>
  ∃ x_28 : Bool, v = (.bool x_28) ∧ ∀ g91 : G, Ex g90 g91 →
  R (.bool x_28) g91))
  (ifB (eqI t0 (74 : Int))
  (ifB (eqI ((t4l : Nat) : Int) (2 : Int))
  ((0 ≤ (0 : Int) ∧ (0 : Int) < ((t4l : Nat) : Int)) ∧ derefP t4a fun ad_4 => ∃ x0_3 : Int, ∃ x1_3 : Int, ∃ x2_3 : ByteArray, ∃ x3a_3 : Option Addr, ∃ x3l_3 : Nat, ∃ x3c_3 : Nat, ∃ x4a_3 : Option Addr, ∃ x4l_3 : Nat, ∃ x4c_3 : Nat, g75.w.cell? (Addr.add ad_4 (Int.toNat (0 : Int) * 5)) = some (.int .i64 x0_3) ∧ g75.w.cell? (Addr.add (Addr.add ad_4 (Int.toNat (0 : Int) * 5)) 1) = some (.int .i64 x1_3) ∧ g75.w.cell? (Addr.add (Addr.add ad_4 (Int.toNat (0 : Int) * 5)) 2) = some (.string x2_3) ∧ g75.w.cell? (Addr.add (Addr.add ad_4 (Int.toNat (0 : Int) * 5)) 3) = some (.slice x3a_3 x3l_3 x3c_3) ∧ g75.w.cell? (Addr.add (Addr.add ad_4 (Int.toNat (0 : Int) * 5)) 4) = some (.slice x4a_3 x4l_3 x4c_3) ∧ (CallsP Tryz.prog 132 #[(.int .i64 (6 : Int)), (.agg ⟨[(.int .i64 x0_3), (.int .i64 x1_3), (.string x2_3), (.slice x3a_3 x3l_3 x3c_3), (.slice x4a_3 x4l_3 x4c_3)]⟩)] g75 fun v g92 =>
  ∃ x_29 : Bool, v = (.bool x_29) ∧ ifB x_29
  ((0 ≤ (1 : Int) ∧ (1 : Int) ≤ ((t4l : Nat) : Int)) ∧ ∀ g93 : G, NewL g92 g93 3 [(.int .i64 (43 : Int))] →
  (CallsP Tryz.prog 157 #[(.slice (slAddr t4a t4c (Int.toNat (1 : Int)) 5) (t4l - (Int.toNat (1 : Int))) (t4c - (Int.toNat (1 : Int)))), (.slice (some ⟨g92.w.heap.size, 0, none⟩) 1 1)] g93 fun v g94 =>
  ∃ x_30 : Bool, v = (.bool x_30) ∧ ∀ g95 : G, Ex g94 g95 →
  R (.bool x_30) g95))
  (∀ g96 : G, Ex g92 g96 →
  R (.bool false) g96)))
  (∀ g97 : G, Ex g75 g97 →
  R (.bool false) g97))
  (ifB (eqI t0 (81 : Int))
  ((CallsP Tryz.prog 155 #[(.slice t4a t4l t4c), (.int .i64 (4 : Int)), (.int .i64 (0 : Int)), (.int .i64 ((t4l : Nat) : Int))] g75 fun v g98 =>
  ∃ x_31 : Bool, v = (.bool x_31) ∧ ∀ g99 : G, Ex g98 g99 →
  R (.bool x_31) g99))
  (ifB (eqI t0 (83 : Int))
  (∀ g100 : G, NewL g75 g100 3 [(.int .i64 (6 : Int)), (.int .i64 (7 : Int))] →
  (CallsP Tryz.prog 156 #[(.agg ⟨[(.int .i64 t0), (.int .i64 t1), (.string t2), (.slice t3a t3l t3c), (.slice t4a t4l t4c)]⟩), (.slice (some ⟨g75.w.heap.size, 0, none⟩) 2 2)] g100 fun v g101 =>
  ∃ x_32 : Bool, v = (.bool x_32) ∧ ∀ g102 : G, Ex g101 g102 →
  R (.bool x_32) g102))
  (ifB (eqI t0 (84 : Int))
  (∀ g103 : G, NewL g75 g103 3 [(.int .i64 (7 : Int)), (.int .i64 (7 : Int))] →
  (CallsP Tryz.prog 156 #[(.agg ⟨[(.int .i64 t0), (.int .i64 t1), (.string t2), (.slice t3a t3l t3c), (.slice t4a t4l t4c)]⟩), (.slice (some ⟨g75.w.heap.size, 0, none⟩) 2 2)] g103 fun v g104 =>
  ∃ x_33 : Bool, v = (.bool x_33) ∧ ∀ g105 : G, Ex g104 g105 →
  R (.bool x_33) g105))
  (∀ J_5 : Bool → G → Prop,
  (∀ v_6 : Bool, ∀ g106 : G, (ifB v_6
  (∀ g107 : G, NewL g106 g107 3 [(.int .i64 (7 : Int)), (.int .i64 (6 : Int))] →
  (CallsP Tryz.prog 156 #[(.agg ⟨[(.int .i64 t0), (.int .i64 t1), (.string t2), (.slice t3a t3l t3c), (.slice t4a t4l t4c)]⟩), (.slice (some ⟨g106.w.heap.size, 0, none⟩) 2 2)] g107 fun v g108 =>
  ∃ x_34 : Bool, v = (.bool x_34) ∧ ∀ g109 : G, Ex g108 g109 →
  R (.bool x_34) g109))
  (ifB (eqI t0 (87 : Int))
  (ifB (leI (1 : Int) ((t4l : Nat) : Int))
  (InI64 (((t4l : Nat) : Int) - (1 : Int)) ∧ (0 ≤ (((t4l : Nat) : Int) - (1 : Int)) ∧ (((t4l : Nat) : Int) - (1 : Int)) < ((t4l : Nat) : Int)) ∧ derefP t4a fun ad_5 => ∃ x0_4 : Int, ∃ x1_4 : Int, ∃ x2_4 : ByteArray, ∃ x3a_4 : Option Addr, ∃ x3l_4 : Nat, ∃ x3c_4 : Nat, ∃ x4a_4 : Option Addr, ∃ x4l_4 : Nat, ∃ x4c_4 : Nat, g106.w.cell? (Addr.add ad_5 (Int.toNat (((t4l : Nat) : Int) - (1 : Int)) * 5)) = some (.int .i64 x0_4) ∧ g106.w.cell? (Addr.add (Addr.add ad_5 (Int.toNat (((t4l : Nat) : Int) - (1 : Int)) * 5)) 1) = some (.int .i64 x1_4) ∧ g106.w.cell? (Addr.add (Addr.add ad_5 (Int.toNat (((t4l : Nat) : Int) - (1 : Int)) * 5)) 2) = some (.string x2_4) ∧ g106.w.cell? (Addr.add (Addr.add ad_5 (Int.toNat (((t4l : Nat) : Int) - (1 : Int)) * 5)) 3) = some (.slice x3a_4 x3l_4 x3c_4) ∧ g106.w.cell? (Addr.add (Addr.add ad_5 (Int.toNat (((t4l : Nat) : Int) - (1 : Int)) * 5)) 4) = some (.slice x4a_4 x4l_4 x4c_4) ∧ (CallsP Tryz.prog 132 #[(.int .i64 (7 : Int)), (.agg ⟨[(.int .i64 x0_4), (.int .i64 x1_4), (.string x2_4), (.slice x3a_4 x3l_4 x3c_4), (.slice x4a_4 x4l_4 x4c_4)]⟩)] g106 fun v g110 =>
  ∃ x_35 : Bool, v = (.bool x_35) ∧ ifB x_35
  (InI64 (((t4l : Nat) : Int) - (1 : Int)) ∧ (0 ≤ (((t4l : Nat) : Int) - (1 : Int)) ∧ (((t4l : Nat) : Int) - (1 : Int)) ≤ ((t4c : Nat) : Int)) ∧ (CallsP Tryz.prog 155 #[(.slice (slAddr t4a t4c 0 5) ((Int.toNat (((t4l : Nat) : Int) - (1 : Int))) - 0) (t4c - 0)), (.int .i64 (4 : Int)), (.int .i64 (0 : Int)), (.int .i64 ((t4l : Nat) : Int))] g110 fun v g111 =>
  ∃ x_36 : Bool, v = (.bool x_36) ∧ ∀ g112 : G, Ex g111 g112 →
  R (.bool x_36) g112))
  (∀ g113 : G, Ex g110 g113 →
  R (.bool false) g113)))
  (∀ g114 : G, Ex g106 g114 →
  R (.bool false) g114))
  (∀ g115 : G, Ex g106 g115 →
  R (.bool false) g115))) → J_5 v_6 g106) →
  ifB (eqI t0 (85 : Int))
  (J_5 true g75)
  (J_5 (eqI t0 (86 : Int)) g75)))))))))) → J_4 v_5 g75) →
  ifB (eqI t0 (50 : Int))
  (J_4 true g71)
  (J_4 (eqI t0 (88 : Int)) g71))) → J_3 v_4 g71) →
  ifB (eqI t0 (47 : Int))
  (J_3 true g56)
  (ifB (eqI t0 (63 : Int))
  (J_3 true g56)
  (ifB (eqI t0 (64 : Int))
  (J_3 true g56)
  (J_3 (eqI t0 (65 : Int)) g56)))))))) → J_2 v_3 g56) →
  ifB (eqI t0 (43 : Int))
  (J_2 true g15)
  (J_2 (eqI t0 (61 : Int)) g15)))))))))))) → J_1 v_2 g15) →
  ifB (eqI t0 (25 : Int))
  (J_1 true g1)
  (ifB (eqI t0 (41 : Int))
  (J_1 true g1)
  (J_1 (eqI t0 (42 : Int)) g1))))))))) → J v_1 g1) →
  ifB (eqI t0 (1 : Int))
  (∀ g116 : G, Ex g g116 →
  J true g116)
  (ifB (eqI t0 (5 : Int))
  (∀ g117 : G, Ex g g117 →
  J true g117)
  (ifB (eqI t0 (11 : Int))
  (∀ g118 : G, Ex g g118 →
  J true g118)
  (ifB (eqI t0 (12 : Int))
  (∀ g119 : G, Ex g g119 →
  J true g119)
  (ifB (eqI t0 (13 : Int))
  (∀ g120 : G, Ex g g120 →
  J true g120)
  (ifB (eqI t0 (21 : Int))
  (∀ g121 : G, Ex g g121 →
  J true g121)
  (ifB (eqI t0 (22 : Int))
  (∀ g122 : G, Ex g g122 →
  J true g122)
  (ifB (eqI t0 (23 : Int))
  (∀ g123 : G, Ex g g123 →
  J true g123)
  (ifB (eqI t0 (24 : Int))
  (∀ g124 : G, Ex g g124 →
  J true g124)
  (ifB (eqI t0 (48 : Int))
  (∀ g125 : G, Ex g g125 →
  J true g125)
  (ifB (eqI t0 (49 : Int))
  (∀ g126 : G, Ex g g126 →
  J true g126)
  (ifB (eqI t0 (62 : Int))
  (∀ g127 : G, Ex g g127 →
  J true g127)
  (ifB (eqI t0 (72 : Int))
  (∀ g128 : G, Ex g g128 →
  J true g128)
  (∀ g129 : G, Ex g g129 →
  J (eqI t0 (82 : Int)) g129)))))))))))))
theorem F145_eq (t0 : Int) (t1 : Int) (t2 : ByteArray) (t3a : Option Addr) (t3l : Nat) (t3c : Nat) (t4a : Option Addr) (t4l : Nat) (t4c : Nat) (g : G) (R : Value → G → Prop) : fnG cfg145 302 [.tmp 2] c145 an145 [(.agg ⟨[(.int .i64 t0), (.int .i64 t1), (.string t2), (.slice t3a t3l t3c), (.slice t4a t4l t4c)]⟩)] g nobody R = F145 t0 t1 t2 t3a t3l t3c t4a t4l t4c g R := by kernel_rfl
theorem call145 (t0 : Int) (t1 : Int) (t2 : ByteArray) (t3a : Option Addr) (t3l : Nat) (t3c : Nat) (t4a : Option Addr) (t4l : Nat) (t4c : Nat) (g : G) (R : Value → G → Prop) (hF : F145 t0 t1 t2 t3a t3l t3c t4a t4l t4c g R) : CallsG Tryz.prog 145 #[(.agg ⟨[(.int .i64 t0), (.int .i64 t1), (.string t2), (.slice t3a t3l t3c), (.slice t4a t4l t4c)]⟩)] g nobody R :=
  fn_soundG (c := cfg145) TTok FNSok mixed Tryz.func145 (show Tryz.f145.body = some c145 by kernel_rfl) (show Tryz.f145.ntmps = 302 by kernel_rfl) (show Tryz.f145.results.toList = [.tmp 2] by kernel_rfl) rfl ((F145_eq t0 t1 t2 t3a t3l t3c t4a t4l t4c g R ).mpr hF)

/- 146 pilaster/syntax.formed$1$1 -/
noncomputable def c146 : Code := match Tryz.f146.body with
  | some c => c
  | none => .skip
noncomputable def cfg146 : Cfg := ⟨Tryz.prog, TT, FNS, [4], [(4, 4)], [], TCH, true, false, none, PNF, false⟩
def an146 : AnnG := (.seq .leaf (.seq .leaf .leaf))
def F146 (x0 : Int) (x1 : Int) (x2 : ByteArray) (x3a : Option Addr) (x3l : Nat) (x3c : Nat) (x4a : Option Addr) (x4l : Nat) (x4c : Nat) (c0 : Option Addr) (c1 : Option Addr) (c2 : Option Addr) (g : G) (M : Nat → Prop) (R : Value → G → Prop) : Prop :=
  ∀ g1 : G, Ex g g1 →
  derefP c0 fun ad => ∃ xf : FuncId, ∃ xc : Array Value, g1.w.cell? ad = some (.func (.func xf) #[] xc) ∧ derefP c1 fun ad_1 => ∃ x : Int, g1.w.cell? ad_1 = some (.int .i64 x) ∧ InI64 (x + (1 : Int)) ∧ derefP c2 fun ad_2 => ∃ x_1 : Int, g1.w.cell? ad_2 = some (.int .i64 x_1) ∧ Enters Tryz.prog xf ∧ ∃ M1 : Nat → Prop, (∀ b, b < g.w.heap.size → M1 b → M b) ∧ (CallsG Tryz.prog xf ((⟨[(.agg ⟨[(.int .i64 x0), (.int .i64 x1), (.string x2), (.slice x3a x3l x3c), (.slice x4a x4l x4c)]⟩), (.int .i64 (x + (1 : Int))), (.bool (eqI x_1 (74 : Int)))]⟩ : Array Value) ++ xc) g1 M1 fun v g2 =>
  ∃ x_2 : Bool, v = (.bool x_2) ∧ ∀ g3 : G, Ex g2 g3 →
  R (.bool (!x_2)) g3)
theorem F146_eq (x0 : Int) (x1 : Int) (x2 : ByteArray) (x3a : Option Addr) (x3l : Nat) (x3c : Nat) (x4a : Option Addr) (x4l : Nat) (x4c : Nat) (c0 : Option Addr) (c1 : Option Addr) (c2 : Option Addr) (g : G) (M : Nat → Prop) (R : Value → G → Prop) : fnG cfg146 15 [.tmp 5] c146 an146 [(.agg ⟨[(.int .i64 x0), (.int .i64 x1), (.string x2), (.slice x3a x3l x3c), (.slice x4a x4l x4c)]⟩), (.pointer c0), (.pointer c1), (.pointer c2)] g M R = F146 x0 x1 x2 x3a x3l x3c x4a x4l x4c c0 c1 c2 g M R := by kernel_rfl
theorem call146 (x0 : Int) (x1 : Int) (x2 : ByteArray) (x3a : Option Addr) (x3l : Nat) (x3c : Nat) (x4a : Option Addr) (x4l : Nat) (x4c : Nat) (c0 : Option Addr) (c1 : Option Addr) (c2 : Option Addr) (g : G) (M : Nat → Prop) (R : Value → G → Prop) (hF : F146 x0 x1 x2 x3a x3l x3c x4a x4l x4c c0 c1 c2 g M R) : CallsG Tryz.prog 146 #[(.agg ⟨[(.int .i64 x0), (.int .i64 x1), (.string x2), (.slice x3a x3l x3c), (.slice x4a x4l x4c)]⟩), (.pointer c0), (.pointer c1), (.pointer c2)] g M R :=
  fn_soundG (c := cfg146) TTok FNSok mixed Tryz.func146 (show Tryz.f146.body = some c146 by kernel_rfl) (show Tryz.f146.ntmps = 15 by kernel_rfl) (show Tryz.f146.results.toList = [.tmp 5] by kernel_rfl) rfl ((F146_eq x0 x1 x2 x3a x3l x3c x4a x4l x4c c0 c1 c2 g M R ).mpr hF)

/- 147 pilaster/pilasterref03.form -/
/- 148 pilaster/syntax.fields -/
noncomputable def c148 : Code := match Tryz.f148.body with
  | some c => c
  | none => .skip
noncomputable def cfg148 : Cfg := ⟨Tryz.prog, TT, FNS, [2], [(2, 2)], [], TCH, false, false, none, PNF, false⟩
def an148 : AnnG := (.seq .leaf (.seq (.seq .leaf (.blk (.join ⟨[(4, .bool)], [], []⟩ (.seq .leaf (.cond .leaf (.seq .leaf (.cond .leaf .leaf)))) (.cond (.seq .leaf .leaf) (.join ⟨[(9, .bool)], [], []⟩ (.seq .leaf (.cond .leaf (.seq .leaf (.cond .leaf (.seq .leaf (.cond .leaf (.seq .leaf (.cond .leaf (.seq .leaf (.cond .leaf (.seq .leaf (.cond .leaf (.seq .leaf (.cond .leaf (.seq .leaf (.cond .leaf (.seq .leaf (.cond .leaf (.seq .leaf (.cond .leaf (.seq .leaf (.cond .leaf .leaf)))))))))))))))))))))) (.cond (.seq .leaf .leaf) (.join ⟨[(23, .bool)], [], []⟩ (.seq .leaf (.cond .leaf (.seq .leaf (.cond .leaf (.seq .leaf (.cond .leaf (.seq .leaf (.cond .leaf (.seq .leaf (.cond .leaf (.seq .leaf (.cond .leaf (.seq .leaf (.cond .leaf (.seq .leaf (.cond .leaf (.seq .leaf (.cond .leaf (.seq .leaf (.cond .leaf (.seq .leaf (.cond .leaf .leaf)))))))))))))))))))))) (.cond (.seq .leaf .leaf) (.join ⟨[(37, .bool)], [], []⟩ (.seq .leaf (.cond .leaf (.seq .leaf (.cond .leaf (.seq .leaf (.cond .leaf .leaf)))))) (.cond (.seq .leaf .leaf) (.seq (.seq .leaf (.cond .leaf .leaf)) (.cond (.seq .leaf .leaf) .leaf)))))))))))) (.seq .leaf .leaf)))
def F148 (op : Int) (g : G) (R : Value → G → Prop) : Prop :=
  ∀ J : Bool → G → Prop,
  (∀ v_1 : Bool, ∀ g1 : G, (ifB v_1
  (∀ g2 : G, Ex g1 g2 →
  R (.agg ⟨[(.bool true), (.bool false), (.bool false)]⟩) g2)
  (∀ J_1 : Bool → G → Prop,
  (∀ v_2 : Bool, ∀ g3 : G, (ifB v_2
  (∀ g4 : G, Ex g3 g4 →
  R (.agg ⟨[(.bool false), (.bool true), (.bool false)]⟩) g4)
  (∀ J_2 : Bool → G → Prop,
  (∀ v_3 : Bool, ∀ g5 : G, (ifB v_3
  (∀ g6 : G, Ex g5 g6 →
  R (.agg ⟨[(.bool false), (.bool false), (.bool true)]⟩) g6)
  (∀ J_3 : Bool → G → Prop,
  (∀ v_4 : Bool, ∀ g7 : G, (ifB v_4
  (∀ g8 : G, Ex g7 g8 →
  R (.agg ⟨[(.bool false), (.bool true), (.bool true)]⟩) g8)
  (ifB (eqI op (73 : Int))
  (∀ g9 : G, Ex g7 g9 →
  R (.agg ⟨[(.bool true), (.bool true), (.bool false)]⟩) g9)
  (ifB (eqI op (83 : Int))
  (∀ g10 : G, Ex g7 g10 →
  R (.agg ⟨[(.bool true), (.bool true), (.bool false)]⟩) g10)
  (∀ g11 : G, Ex g7 g11 →
  R (.agg ⟨[(.bool false), (.bool false), (.bool false)]⟩) g11)))) → J_3 v_4 g7) →
  ifB (eqI op (42 : Int))
  (J_3 true g5)
  (ifB (eqI op (43 : Int))
  (J_3 true g5)
  (ifB (eqI op (44 : Int))
  (J_3 true g5)
  (J_3 (eqI op (62 : Int)) g5))))) → J_2 v_3 g5) →
  ifB (eqI op (2 : Int))
  (J_2 true g3)
  (ifB (eqI op (5 : Int))
  (J_2 true g3)
  (ifB (eqI op (14 : Int))
  (J_2 true g3)
  (ifB (eqI op (23 : Int))
  (J_2 true g3)
  (ifB (eqI op (24 : Int))
  (J_2 true g3)
  (ifB (eqI op (34 : Int))
  (J_2 true g3)
  (ifB (eqI op (48 : Int))
  (J_2 true g3)
  (ifB (eqI op (49 : Int))
  (J_2 true g3)
  (ifB (eqI op (66 : Int))
  (J_2 true g3)
  (ifB (eqI op (72 : Int))
  (J_2 true g3)
  (ifB (eqI op (74 : Int))
  (J_2 true g3)
  (J_2 (eqI op (82 : Int)) g3))))))))))))) → J_1 v_2 g3) →
  ifB (eqI op (1 : Int))
  (J_1 true g1)
  (ifB (eqI op (12 : Int))
  (J_1 true g1)
  (ifB (eqI op (22 : Int))
  (J_1 true g1)
  (ifB (eqI op (25 : Int))
  (J_1 true g1)
  (ifB (eqI op (41 : Int))
  (J_1 true g1)
  (ifB (eqI op (45 : Int))
  (J_1 true g1)
  (ifB (eqI op (46 : Int))
  (J_1 true g1)
  (ifB (eqI op (47 : Int))
  (J_1 true g1)
  (ifB (eqI op (50 : Int))
  (J_1 true g1)
  (ifB (eqI op (61 : Int))
  (J_1 true g1)
  (ifB (eqI op (63 : Int))
  (J_1 true g1)
  (J_1 (eqI op (64 : Int)) g1))))))))))))) → J v_1 g1) →
  ifB (eqI op (13 : Int))
  (∀ g12 : G, Ex g g12 →
  J true g12)
  (ifB (eqI op (21 : Int))
  (∀ g13 : G, Ex g g13 →
  J true g13)
  (∀ g14 : G, Ex g g14 →
  J (eqI op (32 : Int)) g14))
theorem F148_eq (op : Int) (g : G) (R : Value → G → Prop) : fnG cfg148 48 [.cell 2 173] c148 an148 [(.int .i64 op)] g nobody R = F148 op g R := by kernel_rfl
theorem call148 (op : Int) (g : G) (R : Value → G → Prop) (hF : F148 op g R) : CallsG Tryz.prog 148 #[(.int .i64 op)] g nobody R :=
  fn_soundG (c := cfg148) TTok FNSok mixed Tryz.func148 (show Tryz.f148.body = some c148 by kernel_rfl) (show Tryz.f148.ntmps = 48 by kernel_rfl) (show Tryz.f148.results.toList = [.cell 2 173] by kernel_rfl) rfl ((F148_eq op g R ).mpr hF)

/- 149 pilaster/ident.IsVar -/
noncomputable def c149 : Code := match Tryz.f149.body with
  | some c => c
  | none => .skip
noncomputable def cfg149 : Cfg := ⟨Tryz.prog, TT, FNS, [], [], [], TCH, false, false, none, PNF, false⟩
def an149 : AnnG := (.seq .leaf (.seq .leaf (.seq .leaf .leaf)))
def F149 (s : ByteArray) (g : G) (R : Value → G → Prop) : Prop :=
  (CallsP Tryz.prog 165 #[(.string s), (.string (bs [39]))] g fun v g1 =>
  ∃ x0 : ByteArray, ∃ x1 : Bool, v = (.tuple ⟨[(.string x0), (.bool x1)]⟩) ∧ ifB x1
  (ifB (leI ((s.size : Nat) : Int) (24 : Int))
  ((CallsP Tryz.prog 92 #[(.string x0), (.int .i64 (1 : Int))] g1 fun v g2 =>
  ∃ x : Bool, v = (.bool x) ∧ ∀ g3 : G, Ex g2 g3 →
  R (.bool x) g3))
  (∀ g4 : G, Ex g1 g4 →
  R (.bool false) g4))
  (∀ g5 : G, Ex g1 g5 →
  R (.bool false) g5))
theorem F149_eq (s : ByteArray) (g : G) (R : Value → G → Prop) : fnG cfg149 20 [.tmp 2] c149 an149 [(.string s)] g nobody R = F149 s g R := by kernel_rfl
theorem call149 (s : ByteArray) (g : G) (R : Value → G → Prop) (hF : F149 s g R) : CallsG Tryz.prog 149 #[(.string s)] g nobody R :=
  fn_soundG (c := cfg149) TTok FNSok mixed Tryz.func149 (show Tryz.f149.body = some c149 by kernel_rfl) (show Tryz.f149.ntmps = 20 by kernel_rfl) (show Tryz.f149.results.toList = [.tmp 2] by kernel_rfl) rfl ((F149_eq s g R ).mpr hF)

/- 150 pilaster/syntax.path -/
noncomputable def c150 : Code := match Tryz.f150.body with
  | some c => c
  | none => .skip
noncomputable def cfg150 : Cfg := ⟨Tryz.prog, TT, FNS, [], [], [], TCH, false, false, none, PNF, false⟩
def an150 : AnnG := (.seq .leaf (.join ⟨[], [], []⟩ (.seq .leaf (.cond (.seq .leaf .leaf) .leaf)) (.seq .leaf (.seq (.seq .leaf (.cond (.seq .leaf .leaf) .leaf)) (.seq (.seq .leaf (.cond (.seq .leaf .leaf) .leaf)) (.seq .leaf .leaf))))))
def F150 (la : Option Addr) (ll : Nat) (lc : Nat) (lower : Bool) (g : G) (R : Value → G → Prop) : Prop :=
  ∀ J : G → Prop,
  (∀ g1 : G, (InI64 (((ll : Nat) : Int) - (1 : Int)) ∧ (0 ≤ (((ll : Nat) : Int) - (1 : Int)) ∧ (((ll : Nat) : Int) - (1 : Int)) ≤ ((lc : Nat) : Int)) ∧ (CallsP Tryz.prog 61 #[(.slice (slAddr la lc 0 1) ((Int.toNat (((ll : Nat) : Int) - (1 : Int))) - 0) (lc - 0)), (.func (.func 166) #[] #[])] g1 fun v g2 =>
  ∃ x : Bool, v = (.bool x) ∧ ifB x
  (∀ g3 : G, Ex g2 g3 →
  R (.bool false) g3)
  (ifB lower
  ((0 ≤ (((ll : Nat) : Int) - (1 : Int)) ∧ (((ll : Nat) : Int) - (1 : Int)) < ((ll : Nat) : Int)) ∧ derefP la fun ad => ∃ x_1 : ByteArray, g2.w.cell? (Addr.add ad (Int.toNat (((ll : Nat) : Int) - (1 : Int)) * 1)) = some (.string x_1) ∧ (CallsP Tryz.prog 151 #[(.string x_1)] g2 fun v g4 =>
  ∃ x_2 : Bool, v = (.bool x_2) ∧ ∀ g5 : G, Ex g4 g5 →
  R (.bool x_2) g5))
  ((0 ≤ (((ll : Nat) : Int) - (1 : Int)) ∧ (((ll : Nat) : Int) - (1 : Int)) < ((ll : Nat) : Int)) ∧ derefP la fun ad_1 => ∃ x_3 : ByteArray, g2.w.cell? (Addr.add ad_1 (Int.toNat (((ll : Nat) : Int) - (1 : Int)) * 1)) = some (.string x_3) ∧ (CallsP Tryz.prog 69 #[(.string x_3)] g2 fun v g6 =>
  ∃ x_4 : Bool, v = (.bool x_4) ∧ ∀ g7 : G, Ex g6 g7 →
  R (.bool x_4) g7))))) → J g1) →
  ifB (ltI ((ll : Nat) : Int) (1 : Int))
  (∀ g8 : G, Ex g g8 →
  R (.bool false) g8)
  (ifB (ltI (8 : Int) ((ll : Nat) : Int))
  (∀ g9 : G, Ex g g9 →
  R (.bool false) g9)
  (J g))
theorem F150_eq (la : Option Addr) (ll : Nat) (lc : Nat) (lower : Bool) (g : G) (R : Value → G → Prop) : fnG cfg150 32 [.tmp 4] c150 an150 [(.slice la ll lc), (.bool lower)] g nobody R = F150 la ll lc lower g R := by kernel_rfl
theorem call150 (la : Option Addr) (ll : Nat) (lc : Nat) (lower : Bool) (g : G) (R : Value → G → Prop) (hF : F150 la ll lc lower g R) : CallsG Tryz.prog 150 #[(.slice la ll lc), (.bool lower)] g nobody R :=
  fn_soundG (c := cfg150) TTok FNSok mixed Tryz.func150 (show Tryz.f150.body = some c150 by kernel_rfl) (show Tryz.f150.ntmps = 32 by kernel_rfl) (show Tryz.f150.results.toList = [.tmp 4] by kernel_rfl) rfl ((F150_eq la ll lc lower g R ).mpr hF)

/- 151 pilaster/ident.IsLower -/
noncomputable def c151 : Code := match Tryz.f151.body with
  | some c => c
  | none => .skip
noncomputable def cfg151 : Cfg := ⟨Tryz.prog, TT, FNS, [], [], [], TCH, false, false, none, PNF, false⟩
def an151 : AnnG := (.seq .leaf (.seq .leaf .leaf))
def F151 (s : ByteArray) (g : G) (R : Value → G → Prop) : Prop :=
  (CallsP Tryz.prog 92 #[(.string s), (.int .i64 (1 : Int))] g fun v g1 =>
  ∃ x : Bool, v = (.bool x) ∧ ifB x
  ((CallsP Tryz.prog 167 #[(.string s)] g1 fun v g2 =>
  ∃ x_1 : Bool, v = (.bool x_1) ∧ ∀ g3 : G, Ex g2 g3 →
  R (.bool (!x_1)) g3))
  (∀ g4 : G, Ex g1 g4 →
  R (.bool false) g4))
theorem F151_eq (s : ByteArray) (g : G) (R : Value → G → Prop) : fnG cfg151 10 [.tmp 2] c151 an151 [(.string s)] g nobody R = F151 s g R := by kernel_rfl
theorem call151 (s : ByteArray) (g : G) (R : Value → G → Prop) (hF : F151 s g R) : CallsG Tryz.prog 151 #[(.string s)] g nobody R :=
  fn_soundG (c := cfg151) TTok FNSok mixed Tryz.func151 (show Tryz.f151.body = some c151 by kernel_rfl) (show Tryz.f151.ntmps = 10 by kernel_rfl) (show Tryz.f151.results.toList = [.tmp 2] by kernel_rfl) rfl ((F151_eq s g R ).mpr hF)

/- 152 pilaster/syntax.plain -/
noncomputable def c152 : Code := match Tryz.f152.body with
  | some c => c
  | none => .skip
noncomputable def cfg152 : Cfg := ⟨Tryz.prog, TT, FNS, [], [], [], TCH, false, false, none, PNF, false⟩
def an152 : AnnG := (.seq .leaf (.seq (.seq .leaf (.blk (.loop ⟨[(6, .int .i64)], [], []⟩ (.seq .leaf (.seq (.cond .leaf .leaf) (.seq (.blk (.seq .leaf (.seq .leaf (.cond (.seq .leaf .leaf) .leaf)))) .leaf)))))) (.seq .leaf .leaf)))
def F152 (s : ByteArray) (g : G) (R : Value → G → Prop) : Prop :=
  ∃ Inv : Nat → Int → G → Prop, ((∃ m0 : Nat, Inv m0 (0 : Int) g)) ∧
  ∀ m : Nat, ∀ v_1 : Int, ∀ g1 : G, Le g g1 → Inv m v_1 g1 →
  ifB (ltI v_1 ((s.size : Nat) : Int))
  (∃ b : UInt8, (0 ≤ v_1 ∧ s[Int.toNat v_1]? = some b) ∧ ifB (!eqI ((b.toNat : Nat) : Int) (10 : Int))
  (∃ b_1 : UInt8, (0 ≤ v_1 ∧ s[Int.toNat v_1]? = some b_1) ∧ ifB (ltI ((b_1.toNat : Nat) : Int) (32 : Int))
  (∀ g2 : G, Ex g1 g2 →
  R (.bool false) g2)
  (∃ b_2 : UInt8, (0 ≤ v_1 ∧ s[Int.toNat v_1]? = some b_2) ∧ ifB (ltI (126 : Int) ((b_2.toNat : Nat) : Int))
  (∀ g3 : G, Ex g1 g3 →
  R (.bool false) g3)
  (InI64 (v_1 + (1 : Int)) ∧ (∃ m_1 : Nat, m_1 < m ∧ Inv m_1 (v_1 + (1 : Int)) g1))))
  (InI64 (v_1 + (1 : Int)) ∧ (∃ m_1 : Nat, m_1 < m ∧ Inv m_1 (v_1 + (1 : Int)) g1)))
  (∀ g4 : G, Ex g1 g4 →
  R (.bool (leI ((s.size : Nat) : Int) (16384 : Int))) g4)
theorem F152_eq (s : ByteArray) (g : G) (R : Value → G → Prop) : fnG cfg152 29 [.tmp 2] c152 an152 [(.string s)] g nobody R = F152 s g R := by kernel_rfl
theorem call152 (s : ByteArray) (g : G) (R : Value → G → Prop) (hF : F152 s g R) : CallsG Tryz.prog 152 #[(.string s)] g nobody R :=
  fn_soundG (c := cfg152) TTok FNSok mixed Tryz.func152 (show Tryz.f152.body = some c152 by kernel_rfl) (show Tryz.f152.ntmps = 29 by kernel_rfl) (show Tryz.f152.results.toList = [.tmp 2] by kernel_rfl) rfl ((F152_eq s g R ).mpr hF)

/- 153 pilaster/syntax.own$1 -/
noncomputable def c153 : Code := match Tryz.f153.body with
  | some c => c
  | none => .skip
noncomputable def cfg153 : Cfg := ⟨Tryz.prog, TT, FNS, [], [], [], TCH, false, false, none, PNF, false⟩
def an153 : AnnG := (.seq .leaf (.seq .leaf .leaf))
def F153 (s : ByteArray) (g : G) (R : Value → G → Prop) : Prop :=
  (CallsP Tryz.prog 151 #[(.string s)] g fun v g1 =>
  ∃ x : Bool, v = (.bool x) ∧ ∀ g2 : G, Ex g1 g2 →
  R (.bool (!x)) g2)
theorem F153_eq (s : ByteArray) (g : G) (R : Value → G → Prop) : fnG cfg153 6 [.tmp 2] c153 an153 [(.string s)] g nobody R = F153 s g R := by kernel_rfl
theorem call153 (s : ByteArray) (g : G) (R : Value → G → Prop) (hF : F153 s g R) : CallsG Tryz.prog 153 #[(.string s)] g nobody R :=
  fn_soundG (c := cfg153) TTok FNSok mixed Tryz.func153 (show Tryz.f153.body = some c153 by kernel_rfl) (show Tryz.f153.ntmps = 6 by kernel_rfl) (show Tryz.f153.results.toList = [.tmp 2] by kernel_rfl) rfl ((F153_eq s g R ).mpr hF)

/- 154 pilaster/syntax.params -/
noncomputable def c154 : Code := match Tryz.f154.body with
  | some c => c
  | none => .skip
noncomputable def cfg154 : Cfg := ⟨Tryz.prog, TT, FNS, [], [], [], TCH, false, false, none, PNF, false⟩
def an154 : AnnG := (.seq .leaf (.seq (.seq .leaf (.blk (.loop ⟨[(7, .int .i64)], [], []⟩ (.seq .leaf (.seq (.cond .leaf .leaf) (.seq (.blk (.seq .leaf (.seq .leaf (.cond (.seq .leaf .leaf) .leaf)))) .leaf)))))) (.seq .leaf .leaf)))
def F154 (la : Option Addr) (ll : Nat) (lc : Nat) (g : G) (R : Value → G → Prop) : Prop :=
  ∃ Inv : Nat → Int → G → Prop, ((∃ m0 : Nat, Inv m0 (0 : Int) g)) ∧
  ∀ m : Nat, ∀ v_1 : Int, ∀ g1 : G, Le g g1 → Inv m v_1 g1 →
  ifB (ltI v_1 ((ll : Nat) : Int))
  ((0 ≤ v_1 ∧ v_1 < ((ll : Nat) : Int)) ∧ derefP la fun ad => ∃ s : ByteArray, g1.w.cell? (Addr.add ad (Int.toNat v_1 * 1)) = some (.string s) ∧ (CallsP Tryz.prog 149 #[(.string s)] g1 fun v g2 =>
  ∃ x : Bool, v = (.bool x) ∧ ifB (!x)
  (∀ g3 : G, Ex g2 g3 →
  R (.bool false) g3)
  ((0 ≤ v_1 ∧ v_1 ≤ ((lc : Nat) : Int)) ∧ (CallsP Tryz.prog 70 #[(.slice (slAddr la lc 0 1) ((Int.toNat v_1) - 0) (lc - 0)), (.string s)] g2 fun v g4 =>
  ∃ x_1 : Bool, v = (.bool x_1) ∧ ifB x_1
  (∀ g5 : G, Ex g4 g5 →
  R (.bool false) g5)
  (InI64 (v_1 + (1 : Int)) ∧ (∃ m_1 : Nat, m_1 < m ∧ Inv m_1 (v_1 + (1 : Int)) g4))))))
  (∀ g6 : G, Ex g1 g6 →
  R (.bool (leI ((ll : Nat) : Int) (4 : Int))) g6)
theorem F154_eq (la : Option Addr) (ll : Nat) (lc : Nat) (g : G) (R : Value → G → Prop) : fnG cfg154 26 [.tmp 2] c154 an154 [(.slice la ll lc)] g nobody R = F154 la ll lc g R := by kernel_rfl
theorem call154 (la : Option Addr) (ll : Nat) (lc : Nat) (g : G) (R : Value → G → Prop) (hF : F154 la ll lc g R) : CallsG Tryz.prog 154 #[(.slice la ll lc)] g nobody R :=
  fn_soundG (c := cfg154) TTok FNSok mixed Tryz.func154 (show Tryz.f154.body = some c154 by kernel_rfl) (show Tryz.f154.ntmps = 26 by kernel_rfl) (show Tryz.f154.results.toList = [.tmp 2] by kernel_rfl) rfl ((F154_eq la ll lc g R ).mpr hF)

/- 155 pilaster/syntax.many -/
noncomputable def c155 : Code := match Tryz.f155.body with
  | some c => c
  | none => .skip
noncomputable def cfg155 : Cfg := ⟨Tryz.prog, TT, FNS, [], [], [5], TCH, false, false, none, PNF, false⟩
def an155 : AnnG := (.seq .leaf (.seq .leaf .leaf))
def F155 (la : Option Addr) (ll : Nat) (lc : Nat) (cat : Int) (least : Int) (most : Int) (g : G) (R : Value → G → Prop) : Prop :=
  ∀ g1 : G, NewL g g1 3 ([(.int .i64 cat)] : List Value) →
  ifB (leI least ((ll : Nat) : Int))
  (ifB (leI ((ll : Nat) : Int) most)
  (∃ M1 : Nat → Prop, (∀ b, b < g.w.heap.size → M1 b → nobody b) ∧ (CallsG Tryz.prog 37 #[(.slice la ll lc), (.func (.func 168) #[] ⟨[(.pointer (some ⟨g.w.heap.size, 0, none⟩))]⟩)] g1 M1 fun v g2 =>
  ∃ x : Bool, v = (.bool x) ∧ ∀ g3 : G, Ex g2 g3 →
  R (.bool (!x)) g3))
  (∀ g4 : G, Ex g1 g4 →
  R (.bool false) g4))
  (∀ g5 : G, Ex g1 g5 →
  R (.bool false) g5)
theorem F155_eq (la : Option Addr) (ll : Nat) (lc : Nat) (cat : Int) (least : Int) (most : Int) (g : G) (R : Value → G → Prop) : fnG cfg155 25 [.tmp 8] c155 an155 [(.slice la ll lc), (.int .i64 cat), (.int .i64 least), (.int .i64 most)] g nobody R = F155 la ll lc cat least most g R := by kernel_rfl
theorem call155 (la : Option Addr) (ll : Nat) (lc : Nat) (cat : Int) (least : Int) (most : Int) (g : G) (R : Value → G → Prop) (hF : F155 la ll lc cat least most g R) : CallsG Tryz.prog 155 #[(.slice la ll lc), (.int .i64 cat), (.int .i64 least), (.int .i64 most)] g nobody R :=
  fn_soundG (c := cfg155) TTok FNSok mixed Tryz.func155 (show Tryz.f155.body = some c155 by kernel_rfl) (show Tryz.f155.ntmps = 25 by kernel_rfl) (show Tryz.f155.results.toList = [.tmp 8] by kernel_rfl) rfl ((F155_eq la ll lc cat least most g R ).mpr hF)

/- 156 pilaster/syntax.parts -/
noncomputable def c156 : Code := match Tryz.f156.body with
  | some c => c
  | none => .skip
noncomputable def cfg156 : Cfg := ⟨Tryz.prog, TT, FNS, [2], [(2, 2), (7, 2), (21, 2)], [], TCH, false, false, none, PNF, false⟩
def an156 : AnnG := (.seq .leaf (.seq (.seq .leaf (.cond (.seq .leaf .leaf) .leaf)) (.seq (.seq .leaf (.blk (.loop ⟨[(15, .int .i64)], [], []⟩ (.seq .leaf (.seq (.cond .leaf .leaf) (.seq (.blk (.seq .leaf (.seq .leaf (.cond (.seq .leaf .leaf) .leaf)))) .leaf)))))) (.seq .leaf .leaf))))
def F156 (t0 : Int) (t1 : Int) (t2 : ByteArray) (t3a : Option Addr) (t3l : Nat) (t3c : Nat) (t4a : Option Addr) (t4l : Nat) (t4c : Nat) (catsa : Option Addr) (catsl : Nat) (catsc : Nat) (g : G) (R : Value → G → Prop) : Prop :=
  ifB (!eqI ((t4l : Nat) : Int) ((catsl : Nat) : Int))
  (∀ g1 : G, Ex g g1 →
  R (.bool false) g1)
  (∃ Inv : Nat → Int → G → Prop, (∀ g2 : G, Ex g g2 →
  (∃ m0 : Nat, Inv m0 (0 : Int) g2)) ∧
  ∀ m : Nat, ∀ v_1 : Int, ∀ g3 : G, Le g g3 → Inv m v_1 g3 →
  ifB (ltI v_1 ((catsl : Nat) : Int))
  ((0 ≤ v_1 ∧ v_1 < ((catsl : Nat) : Int)) ∧ derefP catsa fun ad => ∃ cat : Int, g3.w.cell? (Addr.add ad (Int.toNat v_1 * 1)) = some (.int .i64 cat) ∧ (0 ≤ v_1 ∧ v_1 < ((t4l : Nat) : Int)) ∧ derefP t4a fun ad_1 => ∃ x0 : Int, ∃ x1 : Int, ∃ x2 : ByteArray, ∃ x3a : Option Addr, ∃ x3l : Nat, ∃ x3c : Nat, ∃ x4a : Option Addr, ∃ x4l : Nat, ∃ x4c : Nat, g3.w.cell? (Addr.add ad_1 (Int.toNat v_1 * 5)) = some (.int .i64 x0) ∧ g3.w.cell? (Addr.add (Addr.add ad_1 (Int.toNat v_1 * 5)) 1) = some (.int .i64 x1) ∧ g3.w.cell? (Addr.add (Addr.add ad_1 (Int.toNat v_1 * 5)) 2) = some (.string x2) ∧ g3.w.cell? (Addr.add (Addr.add ad_1 (Int.toNat v_1 * 5)) 3) = some (.slice x3a x3l x3c) ∧ g3.w.cell? (Addr.add (Addr.add ad_1 (Int.toNat v_1 * 5)) 4) = some (.slice x4a x4l x4c) ∧ (CallsP Tryz.prog 132 #[(.int .i64 cat), (.agg ⟨[(.int .i64 x0), (.int .i64 x1), (.string x2), (.slice x3a x3l x3c), (.slice x4a x4l x4c)]⟩)] g3 fun v g4 =>
  ∃ x : Bool, v = (.bool x) ∧ ifB (!x)
  (∀ g5 : G, Ex g4 g5 →
  R (.bool false) g5)
  (InI64 (v_1 + (1 : Int)) ∧ (∃ m_1 : Nat, m_1 < m ∧ Inv m_1 (v_1 + (1 : Int)) g4))))
  (∀ g6 : G, Ex g3 g6 →
  R (.bool true) g6))
theorem F156_eq (t0 : Int) (t1 : Int) (t2 : ByteArray) (t3a : Option Addr) (t3l : Nat) (t3c : Nat) (t4a : Option Addr) (t4l : Nat) (t4c : Nat) (catsa : Option Addr) (catsl : Nat) (catsc : Nat) (g : G) (R : Value → G → Prop) : fnG cfg156 29 [.tmp 4] c156 an156 [(.agg ⟨[(.int .i64 t0), (.int .i64 t1), (.string t2), (.slice t3a t3l t3c), (.slice t4a t4l t4c)]⟩), (.slice catsa catsl catsc)] g nobody R = F156 t0 t1 t2 t3a t3l t3c t4a t4l t4c catsa catsl catsc g R := by kernel_rfl
theorem call156 (t0 : Int) (t1 : Int) (t2 : ByteArray) (t3a : Option Addr) (t3l : Nat) (t3c : Nat) (t4a : Option Addr) (t4l : Nat) (t4c : Nat) (catsa : Option Addr) (catsl : Nat) (catsc : Nat) (g : G) (R : Value → G → Prop) (hF : F156 t0 t1 t2 t3a t3l t3c t4a t4l t4c catsa catsl catsc g R) : CallsG Tryz.prog 156 #[(.agg ⟨[(.int .i64 t0), (.int .i64 t1), (.string t2), (.slice t3a t3l t3c), (.slice t4a t4l t4c)]⟩), (.slice catsa catsl catsc)] g nobody R :=
  fn_soundG (c := cfg156) TTok FNSok mixed Tryz.func156 (show Tryz.f156.body = some c156 by kernel_rfl) (show Tryz.f156.ntmps = 29 by kernel_rfl) (show Tryz.f156.results.toList = [.tmp 4] by kernel_rfl) rfl ((F156_eq t0 t1 t2 t3a t3l t3c t4a t4l t4c catsa catsl catsc g R ).mpr hF)

/- 157 pilaster/syntax.only -/
noncomputable def c157 : Code := match Tryz.f157.body with
  | some c => c
  | none => .skip
noncomputable def cfg157 : Cfg := ⟨Tryz.prog, TT, FNS, [], [], [3], TCH, false, false, none, PNF, false⟩
def an157 : AnnG := (.seq .leaf (.seq .leaf .leaf))
def F157 (la : Option Addr) (ll : Nat) (lc : Nat) (opsa : Option Addr) (opsl : Nat) (opsc : Nat) (g : G) (R : Value → G → Prop) : Prop :=
  ∀ g1 : G, NewL g g1 182 ([(.slice opsa opsl opsc)] : List Value) →
  ∃ M1 : Nat → Prop, (∀ b, b < g.w.heap.size → M1 b → nobody b) ∧ (CallsG Tryz.prog 37 #[(.slice la ll lc), (.func (.func 169) #[] ⟨[(.pointer (some ⟨g.w.heap.size, 0, none⟩))]⟩)] g1 M1 fun v g2 =>
  ∃ x : Bool, v = (.bool x) ∧ ∀ g3 : G, Ex g2 g3 →
  R (.bool (!x)) g3)
theorem F157_eq (la : Option Addr) (ll : Nat) (lc : Nat) (opsa : Option Addr) (opsl : Nat) (opsc : Nat) (g : G) (R : Value → G → Prop) : fnG cfg157 9 [.tmp 4] c157 an157 [(.slice la ll lc), (.slice opsa opsl opsc)] g nobody R = F157 la ll lc opsa opsl opsc g R := by kernel_rfl
theorem call157 (la : Option Addr) (ll : Nat) (lc : Nat) (opsa : Option Addr) (opsl : Nat) (opsc : Nat) (g : G) (R : Value → G → Prop) (hF : F157 la ll lc opsa opsl opsc g R) : CallsG Tryz.prog 157 #[(.slice la ll lc), (.slice opsa opsl opsc)] g nobody R :=
  fn_soundG (c := cfg157) TTok FNSok mixed Tryz.func157 (show Tryz.f157.body = some c157 by kernel_rfl) (show Tryz.f157.ntmps = 9 by kernel_rfl) (show Tryz.f157.results.toList = [.tmp 4] by kernel_rfl) rfl ((F157_eq la ll lc opsa opsl opsc g R ).mpr hF)

/- 158 pilaster/syntax.differ -/
noncomputable def c158 : Code := match Tryz.f158.body with
  | some c => c
  | none => .skip
noncomputable def cfg158 : Cfg := ⟨Tryz.prog, TT, FNS, [], [], [4], TCH, false, false, none, PNF, false⟩
def an158 : AnnG := (.seq .leaf (.seq (.seq .leaf (.blk (.loop ⟨[(7, .int .i64)], [], []⟩ (.seq .leaf (.seq (.cond .leaf .leaf) (.seq (.blk (.seq .leaf (.seq .leaf (.cond (.seq .leaf .leaf) .leaf)))) .leaf)))))) (.seq .leaf .leaf)))
def F158 (la : Option Addr) (ll : Nat) (lc : Nat) (g : G) (R : Value → G → Prop) : Prop :=
  ∃ Inv : Nat → Int → G → Prop, ((∃ m0 : Nat, Inv m0 (0 : Int) g)) ∧
  ∀ m : Nat, ∀ v_1 : Int, ∀ g1 : G, Le g g1 → Inv m v_1 g1 →
  ifB (ltI v_1 ((ll : Nat) : Int))
  ((0 ≤ v_1 ∧ v_1 < ((ll : Nat) : Int)) ∧ derefP la fun ad => ∃ x0 : Int, ∃ x1 : Int, ∃ x2 : ByteArray, ∃ x3a : Option Addr, ∃ x3l : Nat, ∃ x3c : Nat, ∃ x4a : Option Addr, ∃ x4l : Nat, ∃ x4c : Nat, g1.w.cell? (Addr.add ad (Int.toNat v_1 * 5)) = some (.int .i64 x0) ∧ g1.w.cell? (Addr.add (Addr.add ad (Int.toNat v_1 * 5)) 1) = some (.int .i64 x1) ∧ g1.w.cell? (Addr.add (Addr.add ad (Int.toNat v_1 * 5)) 2) = some (.string x2) ∧ g1.w.cell? (Addr.add (Addr.add ad (Int.toNat v_1 * 5)) 3) = some (.slice x3a x3l x3c) ∧ g1.w.cell? (Addr.add (Addr.add ad (Int.toNat v_1 * 5)) 4) = some (.slice x4a x4l x4c) ∧ ∀ g2 : G, NewD g1 g2 74 [(.int .i64 (0 : Int)), (.int .i64 (0 : Int)), (.string (bs [])), (.slice none 0 0), (.slice none 0 0)] →
  stOk g2.w ⟨g1.w.heap.size, 0, none⟩ 5 ∧ ¬ g2.X (Addr.block ⟨g1.w.heap.size, 0, none⟩) ∧ mutAt g2 ⟨g1.w.heap.size, 0, none⟩ 5 ∧ ((Addr.block ⟨g1.w.heap.size, 0, none⟩) < g.w.heap.size → nobody (Addr.block ⟨g1.w.heap.size, 0, none⟩)) ∧ ∀ g3 : G, StG true g2 ⟨g1.w.heap.size, 0, none⟩ [(.int .i64 x0), (.int .i64 x1), (.string x2), (.slice x3a x3l x3c), (.slice x4a x4l x4c)] g3 →
  (0 ≤ v_1 ∧ v_1 ≤ ((lc : Nat) : Int)) ∧ ∃ M1 : Nat → Prop, (∀ b, b < g.w.heap.size → M1 b → nobody b) ∧ (CallsG Tryz.prog 37 #[(.slice (slAddr la lc 0 5) ((Int.toNat v_1) - 0) (lc - 0)), (.func (.func 171) #[] ⟨[(.pointer (some ⟨g1.w.heap.size, 0, none⟩))]⟩)] g3 M1 fun v g4 =>
  ∃ x : Bool, v = (.bool x) ∧ ifB x
  (∀ g5 : G, Ex g4 g5 →
  R (.bool false) g5)
  (InI64 (v_1 + (1 : Int)) ∧ (∃ m_1 : Nat, m_1 < m ∧ Inv m_1 (v_1 + (1 : Int)) g4))))
  (∀ g6 : G, Ex g1 g6 →
  R (.bool true) g6)
theorem F158_eq (la : Option Addr) (ll : Nat) (lc : Nat) (g : G) (R : Value → G → Prop) : fnG cfg158 18 [.tmp 2] c158 an158 [(.slice la ll lc)] g nobody R = F158 la ll lc g R := by kernel_rfl
theorem call158 (la : Option Addr) (ll : Nat) (lc : Nat) (g : G) (R : Value → G → Prop) (hF : F158 la ll lc g R) : CallsG Tryz.prog 158 #[(.slice la ll lc)] g nobody R :=
  fn_soundG (c := cfg158) TTok FNSok mixed Tryz.func158 (show Tryz.f158.body = some c158 by kernel_rfl) (show Tryz.f158.ntmps = 18 by kernel_rfl) (show Tryz.f158.results.toList = [.tmp 2] by kernel_rfl) rfl ((F158_eq la ll lc g R ).mpr hF)

/- 159 pilaster/pilasterref03.typeForm -/
/- 160 pilaster/pilasterref03.patForm -/
/- 161 pilaster/pilasterref03.exprForm -/
/- 162 pilaster/pilasterref03.declForm -/
/- 163 pilaster/pilasterref03.specForm -/
/- 164 pilaster/pilasterref03.modForm -/
/- 165 strings.CutPrefix -/
noncomputable def c165 : Code := match Tryz.f165.body with
  | some c => c
  | none => .skip
noncomputable def cfg165 : Cfg := ⟨Tryz.prog, TT, FNS, [], [], [], TCH, false, false, none, PNF, false⟩
def an165 : AnnG := (.seq .leaf (.seq .leaf .leaf))
def F165 (s : ByteArray) (prefix0 : ByteArray) (g : G) (R : Value → G → Prop) : Prop :=
  (CallsP Tryz.prog 181 #[(.string s), (.string prefix0)] g fun v g1 =>
  ∃ x0 : ByteArray, ∃ x1 : Bool, v = (.tuple ⟨[(.string x0), (.bool x1)]⟩) ∧ ∀ g2 : G, Ex g1 g2 →
  R (.tuple ⟨[(.string x0), (.bool x1)]⟩) g2)
theorem F165_eq (s : ByteArray) (prefix0 : ByteArray) (g : G) (R : Value → G → Prop) : fnG cfg165 11 [.tmp 4, .tmp 5] c165 an165 [(.string s), (.string prefix0)] g nobody R = F165 s prefix0 g R := by kernel_rfl
theorem call165 (s : ByteArray) (prefix0 : ByteArray) (g : G) (R : Value → G → Prop) (hF : F165 s prefix0 g R) : CallsG Tryz.prog 165 #[(.string s), (.string prefix0)] g nobody R :=
  fn_soundG (c := cfg165) TTok FNSok mixed Tryz.func165 (show Tryz.f165.body = some c165 by kernel_rfl) (show Tryz.f165.ntmps = 11 by kernel_rfl) (show Tryz.f165.results.toList = [.tmp 4, .tmp 5] by kernel_rfl) rfl ((F165_eq s prefix0 g R ).mpr hF)

/- 166 pilaster/syntax.path$1 -/
noncomputable def c166 : Code := match Tryz.f166.body with
  | some c => c
  | none => .skip
noncomputable def cfg166 : Cfg := ⟨Tryz.prog, TT, FNS, [], [], [], TCH, false, false, none, PNF, false⟩
def an166 : AnnG := (.seq .leaf (.seq .leaf .leaf))
def F166 (s : ByteArray) (g : G) (R : Value → G → Prop) : Prop :=
  (CallsP Tryz.prog 69 #[(.string s)] g fun v g1 =>
  ∃ x : Bool, v = (.bool x) ∧ ∀ g2 : G, Ex g1 g2 →
  R (.bool (!x)) g2)
theorem F166_eq (s : ByteArray) (g : G) (R : Value → G → Prop) : fnG cfg166 6 [.tmp 2] c166 an166 [(.string s)] g nobody R = F166 s g R := by kernel_rfl
theorem call166 (s : ByteArray) (g : G) (R : Value → G → Prop) (hF : F166 s g R) : CallsG Tryz.prog 166 #[(.string s)] g nobody R :=
  fn_soundG (c := cfg166) TTok FNSok mixed Tryz.func166 (show Tryz.f166.body = some c166 by kernel_rfl) (show Tryz.f166.ntmps = 6 by kernel_rfl) (show Tryz.f166.results.toList = [.tmp 2] by kernel_rfl) rfl ((F166_eq s g R ).mpr hF)

/- 167 pilaster/ident.word -/
noncomputable def c167 : Code := match Tryz.f167.body with
  | some c => c
  | none => .skip
noncomputable def cfg167 : Cfg := ⟨Tryz.prog, TT, FNS, [], [], [], TCH, false, false, none, PNF, false⟩
def an167 : AnnG := (.seq .leaf (.seq .leaf .leaf))
def F167 (s : ByteArray) (g : G) (R : Value → G → Prop) : Prop :=
  (CallsP Tryz.prog 182 #[(.string (bs [97, 110, 100, 97, 108, 115, 111, 32, 99, 97, 115, 101, 32, 100, 97, 116, 97, 32, 100, 105, 118, 32, 101, 108, 115, 101, 32, 101, 110, 100, 32, 102, 110, 32, 102, 117, 110, 32, 102, 117, 110, 99, 116, 111, 114, 32, 103, 101, 110, 101, 114, 97, 116, 105, 118, 101, 32, 105, 102, 32, 105, 109, 112, 111, 114, 116, 32, 105, 110, 32, 105, 110, 99, 108, 117, 100, 101, 32, 108, 101, 116, 32, 109, 111, 100, 32, 109, 111, 100, 117, 108, 101, 32, 111, 102, 32, 111, 112, 101, 110, 32, 111, 114, 101, 108, 115, 101, 32, 112, 97, 99, 107, 32, 115, 104, 97, 114, 105, 110, 103, 32, 115, 105, 103, 32, 115, 105, 103, 110, 97, 116, 117, 114, 101, 32, 115, 116, 114, 117, 99, 116, 32, 115, 116, 114, 117, 99, 116, 117, 114, 101, 32, 116, 104, 101, 110, 32, 116, 121, 112, 101, 32, 117, 110, 112, 97, 99, 107, 32, 118, 97, 108, 32, 119, 105, 116, 104]))] g fun v g1 =>
  ∃ xa : Option Addr, ∃ xl : Nat, ∃ xc : Nat, v = (.slice xa xl xc) ∧ (CallsP Tryz.prog 70 #[(.slice xa xl xc), (.string s)] g1 fun v g2 =>
  ∃ x : Bool, v = (.bool x) ∧ ∀ g3 : G, Ex g2 g3 →
  R (.bool x) g3))
theorem F167_eq (s : ByteArray) (g : G) (R : Value → G → Prop) : fnG cfg167 6 [.tmp 2] c167 an167 [(.string s)] g nobody R = F167 s g R := by kernel_rfl
theorem call167 (s : ByteArray) (g : G) (R : Value → G → Prop) (hF : F167 s g R) : CallsG Tryz.prog 167 #[(.string s)] g nobody R :=
  fn_soundG (c := cfg167) TTok FNSok mixed Tryz.func167 (show Tryz.f167.body = some c167 by kernel_rfl) (show Tryz.f167.ntmps = 6 by kernel_rfl) (show Tryz.f167.results.toList = [.tmp 2] by kernel_rfl) rfl ((F167_eq s g R ).mpr hF)

/- 168 pilaster/syntax.many$1 -/
noncomputable def c168 : Code := match Tryz.f168.body with
  | some c => c
  | none => .skip
noncomputable def cfg168 : Cfg := ⟨Tryz.prog, TT, FNS, [2], [(2, 2)], [], TCH, false, false, none, PNF, false⟩
def an168 : AnnG := (.seq .leaf (.seq .leaf .leaf))
def F168 (x0 : Int) (x1 : Int) (x2 : ByteArray) (x3a : Option Addr) (x3l : Nat) (x3c : Nat) (x4a : Option Addr) (x4l : Nat) (x4c : Nat) (c0 : Option Addr) (g : G) (R : Value → G → Prop) : Prop :=
  ∀ g1 : G, Ex g g1 →
  derefP c0 fun ad => ∃ x : Int, g1.w.cell? ad = some (.int .i64 x) ∧ (CallsP Tryz.prog 132 #[(.int .i64 x), (.agg ⟨[(.int .i64 x0), (.int .i64 x1), (.string x2), (.slice x3a x3l x3c), (.slice x4a x4l x4c)]⟩)] g1 fun v g2 =>
  ∃ x_1 : Bool, v = (.bool x_1) ∧ ∀ g3 : G, Ex g2 g3 →
  R (.bool (!x_1)) g3)
theorem F168_eq (x0 : Int) (x1 : Int) (x2 : ByteArray) (x3a : Option Addr) (x3l : Nat) (x3c : Nat) (x4a : Option Addr) (x4l : Nat) (x4c : Nat) (c0 : Option Addr) (g : G) (R : Value → G → Prop) : fnG cfg168 8 [.tmp 3] c168 an168 [(.agg ⟨[(.int .i64 x0), (.int .i64 x1), (.string x2), (.slice x3a x3l x3c), (.slice x4a x4l x4c)]⟩), (.pointer c0)] g nobody R = F168 x0 x1 x2 x3a x3l x3c x4a x4l x4c c0 g R := by kernel_rfl
theorem call168 (x0 : Int) (x1 : Int) (x2 : ByteArray) (x3a : Option Addr) (x3l : Nat) (x3c : Nat) (x4a : Option Addr) (x4l : Nat) (x4c : Nat) (c0 : Option Addr) (g : G) (R : Value → G → Prop) (hF : F168 x0 x1 x2 x3a x3l x3c x4a x4l x4c c0 g R) : CallsG Tryz.prog 168 #[(.agg ⟨[(.int .i64 x0), (.int .i64 x1), (.string x2), (.slice x3a x3l x3c), (.slice x4a x4l x4c)]⟩), (.pointer c0)] g nobody R :=
  fn_soundG (c := cfg168) TTok FNSok mixed Tryz.func168 (show Tryz.f168.body = some c168 by kernel_rfl) (show Tryz.f168.ntmps = 8 by kernel_rfl) (show Tryz.f168.results.toList = [.tmp 3] by kernel_rfl) rfl ((F168_eq x0 x1 x2 x3a x3l x3c x4a x4l x4c c0 g R ).mpr hF)

/- 169 pilaster/syntax.only$1 -/
noncomputable def c169 : Code := match Tryz.f169.body with
  | some c => c
  | none => .skip
noncomputable def cfg169 : Cfg := ⟨Tryz.prog, TT, FNS, [2], [(2, 2), (5, 2)], [], TCH, false, false, none, PNF, false⟩
def an169 : AnnG := (.seq .leaf (.seq .leaf .leaf))
def F169 (x0 : Int) (x1 : Int) (x2 : ByteArray) (x3a : Option Addr) (x3l : Nat) (x3c : Nat) (x4a : Option Addr) (x4l : Nat) (x4c : Nat) (c0 : Option Addr) (g : G) (R : Value → G → Prop) : Prop :=
  ∀ g1 : G, Ex g g1 →
  derefP c0 fun ad => ∃ xa : Option Addr, ∃ xl : Nat, ∃ xc : Nat, g1.w.cell? ad = some (.slice xa xl xc) ∧ (CallsP Tryz.prog 170 #[(.slice xa xl xc), (.int .i64 x0)] g1 fun v g2 =>
  ∃ x : Bool, v = (.bool x) ∧ ∀ g3 : G, Ex g2 g3 →
  R (.bool (!x)) g3)
theorem F169_eq (x0 : Int) (x1 : Int) (x2 : ByteArray) (x3a : Option Addr) (x3l : Nat) (x3c : Nat) (x4a : Option Addr) (x4l : Nat) (x4c : Nat) (c0 : Option Addr) (g : G) (R : Value → G → Prop) : fnG cfg169 9 [.tmp 3] c169 an169 [(.agg ⟨[(.int .i64 x0), (.int .i64 x1), (.string x2), (.slice x3a x3l x3c), (.slice x4a x4l x4c)]⟩), (.pointer c0)] g nobody R = F169 x0 x1 x2 x3a x3l x3c x4a x4l x4c c0 g R := by kernel_rfl
theorem call169 (x0 : Int) (x1 : Int) (x2 : ByteArray) (x3a : Option Addr) (x3l : Nat) (x3c : Nat) (x4a : Option Addr) (x4l : Nat) (x4c : Nat) (c0 : Option Addr) (g : G) (R : Value → G → Prop) (hF : F169 x0 x1 x2 x3a x3l x3c x4a x4l x4c c0 g R) : CallsG Tryz.prog 169 #[(.agg ⟨[(.int .i64 x0), (.int .i64 x1), (.string x2), (.slice x3a x3l x3c), (.slice x4a x4l x4c)]⟩), (.pointer c0)] g nobody R :=
  fn_soundG (c := cfg169) TTok FNSok mixed Tryz.func169 (show Tryz.f169.body = some c169 by kernel_rfl) (show Tryz.f169.ntmps = 9 by kernel_rfl) (show Tryz.f169.results.toList = [.tmp 3] by kernel_rfl) rfl ((F169_eq x0 x1 x2 x3a x3l x3c x4a x4l x4c c0 g R ).mpr hF)

/- 170 slices.Contains[[]int,int] -/
noncomputable def c170 : Code := match Tryz.f170.body with
  | some c => c
  | none => .skip
noncomputable def cfg170 : Cfg := ⟨Tryz.prog, TT, FNS, [], [], [], TCH, false, false, none, PNF, false⟩
def an170 : AnnG := (.seq .leaf (.seq .leaf .leaf))
def F170 (sa : Option Addr) (sl : Nat) (sc : Nat) (v_1 : Int) (g : G) (R : Value → G → Prop) : Prop :=
  (CallsP Tryz.prog 183 #[(.slice sa sl sc), (.int .i64 v_1)] g fun v g1 =>
  ∃ x : Int, v = (.int .i64 x) ∧ ∀ g2 : G, Ex g1 g2 →
  R (.bool (leI (0 : Int) x)) g2)
theorem F170_eq (sa : Option Addr) (sl : Nat) (sc : Nat) (v_1 : Int) (g : G) (R : Value → G → Prop) : fnG cfg170 9 [.tmp 4] c170 an170 [(.slice sa sl sc), (.int .i64 v_1)] g nobody R = F170 sa sl sc v_1 g R := by kernel_rfl
theorem call170 (sa : Option Addr) (sl : Nat) (sc : Nat) (v_1 : Int) (g : G) (R : Value → G → Prop) (hF : F170 sa sl sc v_1 g R) : CallsG Tryz.prog 170 #[(.slice sa sl sc), (.int .i64 v_1)] g nobody R :=
  fn_soundG (c := cfg170) TTok FNSok mixed Tryz.func170 (show Tryz.f170.body = some c170 by kernel_rfl) (show Tryz.f170.ntmps = 9 by kernel_rfl) (show Tryz.f170.results.toList = [.tmp 4] by kernel_rfl) rfl ((F170_eq sa sl sc v_1 g R ).mpr hF)

/- 171 pilaster/syntax.differ$1 -/
noncomputable def c171 : Code := match Tryz.f171.body with
  | some c => c
  | none => .skip
noncomputable def cfg171 : Cfg := ⟨Tryz.prog, TT, FNS, [2], [(2, 2), (6, 2)], [], TCH, false, false, none, PNF, false⟩
def an171 : AnnG := (.seq .leaf (.seq .leaf .leaf))
def F171 (y0 : Int) (y1 : Int) (y2 : ByteArray) (y3a : Option Addr) (y3l : Nat) (y3c : Nat) (y4a : Option Addr) (y4l : Nat) (y4c : Nat) (c0 : Option Addr) (g : G) (R : Value → G → Prop) : Prop :=
  derefP c0 fun ad => ∀ g1 : G, Ex g g1 →
  ∃ x : ByteArray, g1.w.cell? (Addr.add ad 2) = some (.string x) ∧ ∀ g2 : G, Ex g1 g2 →
  R (.bool (strEq x y2)) g2
theorem F171_eq (y0 : Int) (y1 : Int) (y2 : ByteArray) (y3a : Option Addr) (y3l : Nat) (y3c : Nat) (y4a : Option Addr) (y4l : Nat) (y4c : Nat) (c0 : Option Addr) (g : G) (R : Value → G → Prop) : fnG cfg171 9 [.tmp 3] c171 an171 [(.agg ⟨[(.int .i64 y0), (.int .i64 y1), (.string y2), (.slice y3a y3l y3c), (.slice y4a y4l y4c)]⟩), (.pointer c0)] g nobody R = F171 y0 y1 y2 y3a y3l y3c y4a y4l y4c c0 g R := by kernel_rfl
theorem call171 (y0 : Int) (y1 : Int) (y2 : ByteArray) (y3a : Option Addr) (y3l : Nat) (y3c : Nat) (y4a : Option Addr) (y4l : Nat) (y4c : Nat) (c0 : Option Addr) (g : G) (R : Value → G → Prop) (hF : F171 y0 y1 y2 y3a y3l y3c y4a y4l y4c c0 g R) : CallsG Tryz.prog 171 #[(.agg ⟨[(.int .i64 y0), (.int .i64 y1), (.string y2), (.slice y3a y3l y3c), (.slice y4a y4l y4c)]⟩), (.pointer c0)] g nobody R :=
  fn_soundG (c := cfg171) TTok FNSok mixed Tryz.func171 (show Tryz.f171.body = some c171 by kernel_rfl) (show Tryz.f171.ntmps = 9 by kernel_rfl) (show Tryz.f171.results.toList = [.tmp 3] by kernel_rfl) rfl ((F171_eq y0 y1 y2 y3a y3l y3c y4a y4l y4c c0 g R ).mpr hF)

/- 172 pilaster/pilasterref03.bare -/
/- 173 pilaster/pilasterref03.Variable -/
/- 174 pilaster/pilasterref03.path -/
/- 175 pilaster/pilasterref03.all -/
/- 176 pilaster/pilasterref03.exact -/
/- 177 pilaster/pilasterref03.Lower -/
/- 178 pilaster/pilasterref03.text -/
/- 179 pilaster/pilasterref03.params -/
/- 180 pilaster/pilasterref03.Upper -/
/- 181 internal/stringslite.CutPrefix -/
noncomputable def c181 : Code := match Tryz.f181.body with
  | some c => c
  | none => .skip
noncomputable def cfg181 : Cfg := ⟨Tryz.prog, TT, FNS, [], [], [], TCH, false, false, none, PNF, false⟩
def an181 : AnnG := (.seq .leaf (.seq (.seq .leaf (.cond (.seq .leaf .leaf) .leaf)) (.seq .leaf .leaf)))
def F181 (s : ByteArray) (prefix0 : ByteArray) (g : G) (R : Value → G → Prop) : Prop :=
  (CallsP Tryz.prog 82 #[(.string s), (.string prefix0)] g fun v g1 =>
  ∃ x : Bool, v = (.bool x) ∧ ifB (!x)
  (∀ g2 : G, Ex g1 g2 →
  R (.tuple ⟨[(.string s), (.bool false)]⟩) g2)
  ((0 ≤ ((prefix0.size : Nat) : Int) ∧ ((prefix0.size : Nat) : Int) ≤ ((s.size : Nat) : Int)) ∧ ∀ g3 : G, Ex g1 g3 →
  R (.tuple ⟨[(.string (ByteArray.extract s (Int.toNat ((prefix0.size : Nat) : Int)) s.size)), (.bool true)]⟩) g3))
theorem F181_eq (s : ByteArray) (prefix0 : ByteArray) (g : G) (R : Value → G → Prop) : fnG cfg181 15 [.tmp 4, .tmp 5] c181 an181 [(.string s), (.string prefix0)] g nobody R = F181 s prefix0 g R := by kernel_rfl
theorem call181 (s : ByteArray) (prefix0 : ByteArray) (g : G) (R : Value → G → Prop) (hF : F181 s prefix0 g R) : CallsG Tryz.prog 181 #[(.string s), (.string prefix0)] g nobody R :=
  fn_soundG (c := cfg181) TTok FNSok mixed Tryz.func181 (show Tryz.f181.body = some c181 by kernel_rfl) (show Tryz.f181.ntmps = 15 by kernel_rfl) (show Tryz.f181.results.toList = [.tmp 4, .tmp 5] by kernel_rfl) rfl ((F181_eq s prefix0 g R ).mpr hF)

/- 182 strings.Fields -/
/- 183 slices.Index[[]int,int] -/
noncomputable def c183 : Code := match Tryz.f183.body with
  | some c => c
  | none => .skip
noncomputable def cfg183 : Cfg := ⟨Tryz.prog, TT, FNS, [], [], [], TCH, false, false, none, PNF, false⟩
def an183 : AnnG := (.seq .leaf (.seq (.seq .leaf (.blk (.loop ⟨[(8, .int .i64)], [], []⟩ (.seq .leaf (.seq (.cond .leaf .leaf) (.seq (.blk (.seq .leaf (.seq .leaf (.cond (.seq .leaf .leaf) .leaf)))) .leaf)))))) (.seq .leaf .leaf)))
def F183 (sa : Option Addr) (sl : Nat) (sc : Nat) (v_1 : Int) (g : G) (R : Value → G → Prop) : Prop :=
  ∃ Inv : Nat → Int → G → Prop, ((∃ m0 : Nat, Inv m0 (0 : Int) g)) ∧
  ∀ m : Nat, ∀ v_2 : Int, ∀ g1 : G, Le g g1 → Inv m v_2 g1 →
  ifB (ltI v_2 ((sl : Nat) : Int))
  ((0 ≤ v_2 ∧ v_2 < ((sl : Nat) : Int)) ∧ derefP sa fun ad => ∃ x : Int, g1.w.cell? (Addr.add ad (Int.toNat v_2 * 1)) = some (.int .i64 x) ∧ ifB (eqI v_1 x)
  (∀ g2 : G, Ex g1 g2 →
  R (.int .i64 v_2) g2)
  (InI64 (v_2 + (1 : Int)) ∧ (∃ m_1 : Nat, m_1 < m ∧ Inv m_1 (v_2 + (1 : Int)) g1)))
  (∀ g3 : G, Ex g1 g3 →
  R (.int .i64 (-1 : Int)) g3)
theorem F183_eq (sa : Option Addr) (sl : Nat) (sc : Nat) (v_1 : Int) (g : G) (R : Value → G → Prop) : fnG cfg183 19 [.tmp 4] c183 an183 [(.slice sa sl sc), (.int .i64 v_1)] g nobody R = F183 sa sl sc v_1 g R := by kernel_rfl
theorem call183 (sa : Option Addr) (sl : Nat) (sc : Nat) (v_1 : Int) (g : G) (R : Value → G → Prop) (hF : F183 sa sl sc v_1 g R) : CallsG Tryz.prog 183 #[(.slice sa sl sc), (.int .i64 v_1)] g nobody R :=
  fn_soundG (c := cfg183) TTok FNSok mixed Tryz.func183 (show Tryz.f183.body = some c183 by kernel_rfl) (show Tryz.f183.ntmps = 19 by kernel_rfl) (show Tryz.f183.results.toList = [.tmp 4] by kernel_rfl) rfl ((F183_eq sa sl sc v_1 g R ).mpr hF)

/- 184 pilaster/pilasterref01.IsVar -/
/- 185 pilaster/pilasterref01.IsLower -/
/- 186 strings.FieldsFunc -/
/- 187 unicode.IsSpace -/
/- 188 pilaster/pilasterref01.Keys -/
/- 189 unicode.isExcludingLatin -/
/- 190 unicode.is16 -/
/- 191 unicode.is32 -/
end Go.Proofs.YtmkdbndniffkfaaGreatDoor
