/- Printed by a program (wip/tools/gen2.py): more functions. -/
import Derived.Test.YtkocjbgdmocmlaaGreatDoorFn07
namespace Go.Proofs.YtkocjbgdmocmlaaGreatDoor
open Go Go.Vc Go.RowKit
set_option maxRecDepth 100000
set_option linter.unusedVariables false

/- 149 pilaster/syntax.many -/
noncomputable def c149 : Code := match Tryz.f149.body with
  | some c => c
  | none => .skip
noncomputable def cfg149 : Cfg := ⟨Tryz.prog, TT, FNS, [], [], [5], TCH, false, false⟩
def an149 : AnnG := (.seq .leaf (.seq .leaf .leaf))
def F149 (la : Option Addr) (ll : Nat) (lc : Nat) (cat : Int) (least : Int) (most : Int) (g : G) (R : Value → G → Prop) : Prop :=
  ∀ g1 : G, NewL g g1 3 ([(.int .i64 cat)] : List Value) →
  ifB (leI least ((ll : Nat) : Int))
  (ifB (leI ((ll : Nat) : Int) most)
  (∃ M1 : Nat → Prop, (∀ b, b < g.w.heap.size → M1 b → nobody b) ∧ (CallsG Tryz.prog 55 #[(.slice la ll lc), (.func (.func 166) #[] ⟨[(.pointer (some ⟨g.w.heap.size, 0, none⟩))]⟩)] g1 M1 fun v g2 =>
  ∃ x : Bool, v = (.bool x) ∧ ∀ g3 : G, Ex g2 g3 →
  R (.bool (!x)) g3))
  (∀ g4 : G, Ex g1 g4 →
  R (.bool false) g4))
  (∀ g5 : G, Ex g1 g5 →
  R (.bool false) g5)
theorem F149_eq (la : Option Addr) (ll : Nat) (lc : Nat) (cat : Int) (least : Int) (most : Int) (g : G) (R : Value → G → Prop) : fnG cfg149 25 [.tmp 8] c149 an149 [(.slice la ll lc), (.int .i64 cat), (.int .i64 least), (.int .i64 most)] g nobody R = F149 la ll lc cat least most g R := by kernel_rfl
theorem call149 (la : Option Addr) (ll : Nat) (lc : Nat) (cat : Int) (least : Int) (most : Int) (g : G) (R : Value → G → Prop) (hF : F149 la ll lc cat least most g R) : CallsG Tryz.prog 149 #[(.slice la ll lc), (.int .i64 cat), (.int .i64 least), (.int .i64 most)] g nobody R :=
  fn_soundG (c := cfg149) TTok FNSok mixed Tryz.func149 (show Tryz.f149.body = some c149 by kernel_rfl) (show Tryz.f149.ntmps = 25 by kernel_rfl) (show Tryz.f149.results.toList = [.tmp 8] by kernel_rfl) rfl ((F149_eq la ll lc cat least most g R).mpr hF)

/- 150 pilaster/syntax.parts -/
noncomputable def c150 : Code := match Tryz.f150.body with
  | some c => c
  | none => .skip
noncomputable def cfg150 : Cfg := ⟨Tryz.prog, TT, FNS, [2], [(2, 2), (7, 2), (21, 2)], [], TCH, false, false⟩
def an150 : AnnG := (.seq .leaf (.seq (.seq .leaf (.cond (.seq .leaf .leaf) .leaf)) (.seq (.seq .leaf (.blk (.loop ⟨[(15, .int .i64)], [], []⟩ (.seq .leaf (.seq (.cond .leaf .leaf) (.seq (.blk (.seq .leaf (.seq .leaf (.cond (.seq .leaf .leaf) .leaf)))) .leaf)))))) (.seq .leaf .leaf))))
def F150 (t0 : Int) (t1 : Int) (t2 : ByteArray) (t3a : Option Addr) (t3l : Nat) (t3c : Nat) (t4a : Option Addr) (t4l : Nat) (t4c : Nat) (catsa : Option Addr) (catsl : Nat) (catsc : Nat) (g : G) (R : Value → G → Prop) : Prop :=
  ifB (!eqI ((t4l : Nat) : Int) ((catsl : Nat) : Int))
  (∀ g1 : G, Ex g g1 →
  R (.bool false) g1)
  (∃ Inv : Nat → Int → G → Prop, (∀ g2 : G, Ex g g2 →
  (∃ m0 : Nat, Inv m0 (0 : Int) g2)) ∧
  ∀ m : Nat, ∀ v_1 : Int, ∀ g3 : G, Le g g3 → Inv m v_1 g3 →
  ifB (ltI v_1 ((catsl : Nat) : Int))
  ((0 ≤ v_1 ∧ v_1 < ((catsl : Nat) : Int)) ∧ derefP catsa fun ad => ∃ cat : Int, g3.w.cell? (Addr.add ad (Int.toNat v_1 * 1)) = some (.int .i64 cat) ∧ (0 ≤ v_1 ∧ v_1 < ((t4l : Nat) : Int)) ∧ derefP t4a fun ad_1 => ∃ x0 : Int, ∃ x1 : Int, ∃ x2 : ByteArray, ∃ x3a : Option Addr, ∃ x3l : Nat, ∃ x3c : Nat, ∃ x4a : Option Addr, ∃ x4l : Nat, ∃ x4c : Nat, g3.w.cell? (Addr.add ad_1 (Int.toNat v_1 * 5)) = some (.int .i64 x0) ∧ g3.w.cell? (Addr.add (Addr.add ad_1 (Int.toNat v_1 * 5)) 1) = some (.int .i64 x1) ∧ g3.w.cell? (Addr.add (Addr.add ad_1 (Int.toNat v_1 * 5)) 2) = some (.string x2) ∧ g3.w.cell? (Addr.add (Addr.add ad_1 (Int.toNat v_1 * 5)) 3) = some (.slice x3a x3l x3c) ∧ g3.w.cell? (Addr.add (Addr.add ad_1 (Int.toNat v_1 * 5)) 4) = some (.slice x4a x4l x4c) ∧ (CallsP Tryz.prog 95 #[(.int .i64 cat), (.agg ⟨[(.int .i64 x0), (.int .i64 x1), (.string x2), (.slice x3a x3l x3c), (.slice x4a x4l x4c)]⟩)] g3 fun v g4 =>
  ∃ x : Bool, v = (.bool x) ∧ ifB (!x)
  (∀ g5 : G, Ex g4 g5 →
  R (.bool false) g5)
  (InI64 (v_1 + (1 : Int)) ∧ (∃ m_1 : Nat, m_1 < m ∧ Inv m_1 (v_1 + (1 : Int)) g4))))
  (∀ g6 : G, Ex g3 g6 →
  R (.bool true) g6))
theorem F150_eq (t0 : Int) (t1 : Int) (t2 : ByteArray) (t3a : Option Addr) (t3l : Nat) (t3c : Nat) (t4a : Option Addr) (t4l : Nat) (t4c : Nat) (catsa : Option Addr) (catsl : Nat) (catsc : Nat) (g : G) (R : Value → G → Prop) : fnG cfg150 29 [.tmp 4] c150 an150 [(.agg ⟨[(.int .i64 t0), (.int .i64 t1), (.string t2), (.slice t3a t3l t3c), (.slice t4a t4l t4c)]⟩), (.slice catsa catsl catsc)] g nobody R = F150 t0 t1 t2 t3a t3l t3c t4a t4l t4c catsa catsl catsc g R := by kernel_rfl
theorem call150 (t0 : Int) (t1 : Int) (t2 : ByteArray) (t3a : Option Addr) (t3l : Nat) (t3c : Nat) (t4a : Option Addr) (t4l : Nat) (t4c : Nat) (catsa : Option Addr) (catsl : Nat) (catsc : Nat) (g : G) (R : Value → G → Prop) (hF : F150 t0 t1 t2 t3a t3l t3c t4a t4l t4c catsa catsl catsc g R) : CallsG Tryz.prog 150 #[(.agg ⟨[(.int .i64 t0), (.int .i64 t1), (.string t2), (.slice t3a t3l t3c), (.slice t4a t4l t4c)]⟩), (.slice catsa catsl catsc)] g nobody R :=
  fn_soundG (c := cfg150) TTok FNSok mixed Tryz.func150 (show Tryz.f150.body = some c150 by kernel_rfl) (show Tryz.f150.ntmps = 29 by kernel_rfl) (show Tryz.f150.results.toList = [.tmp 4] by kernel_rfl) rfl ((F150_eq t0 t1 t2 t3a t3l t3c t4a t4l t4c catsa catsl catsc g R).mpr hF)

/- 151 pilaster/syntax.only -/
noncomputable def c151 : Code := match Tryz.f151.body with
  | some c => c
  | none => .skip
noncomputable def cfg151 : Cfg := ⟨Tryz.prog, TT, FNS, [], [], [3], TCH, false, false⟩
def an151 : AnnG := (.seq .leaf (.seq .leaf .leaf))
def F151 (la : Option Addr) (ll : Nat) (lc : Nat) (opsa : Option Addr) (opsl : Nat) (opsc : Nat) (g : G) (R : Value → G → Prop) : Prop :=
  ∀ g1 : G, NewL g g1 150 ([(.slice opsa opsl opsc)] : List Value) →
  ∃ M1 : Nat → Prop, (∀ b, b < g.w.heap.size → M1 b → nobody b) ∧ (CallsG Tryz.prog 55 #[(.slice la ll lc), (.func (.func 167) #[] ⟨[(.pointer (some ⟨g.w.heap.size, 0, none⟩))]⟩)] g1 M1 fun v g2 =>
  ∃ x : Bool, v = (.bool x) ∧ ∀ g3 : G, Ex g2 g3 →
  R (.bool (!x)) g3)
theorem F151_eq (la : Option Addr) (ll : Nat) (lc : Nat) (opsa : Option Addr) (opsl : Nat) (opsc : Nat) (g : G) (R : Value → G → Prop) : fnG cfg151 9 [.tmp 4] c151 an151 [(.slice la ll lc), (.slice opsa opsl opsc)] g nobody R = F151 la ll lc opsa opsl opsc g R := by kernel_rfl
theorem call151 (la : Option Addr) (ll : Nat) (lc : Nat) (opsa : Option Addr) (opsl : Nat) (opsc : Nat) (g : G) (R : Value → G → Prop) (hF : F151 la ll lc opsa opsl opsc g R) : CallsG Tryz.prog 151 #[(.slice la ll lc), (.slice opsa opsl opsc)] g nobody R :=
  fn_soundG (c := cfg151) TTok FNSok mixed Tryz.func151 (show Tryz.f151.body = some c151 by kernel_rfl) (show Tryz.f151.ntmps = 9 by kernel_rfl) (show Tryz.f151.results.toList = [.tmp 4] by kernel_rfl) rfl ((F151_eq la ll lc opsa opsl opsc g R).mpr hF)

/- 152 pilaster/syntax.differ -/
noncomputable def c152 : Code := match Tryz.f152.body with
  | some c => c
  | none => .skip
noncomputable def cfg152 : Cfg := ⟨Tryz.prog, TT, FNS, [], [], [4], TCH, false, false⟩
def an152 : AnnG := (.seq .leaf (.seq (.seq .leaf (.blk (.loop ⟨[(7, .int .i64)], [], []⟩ (.seq .leaf (.seq (.cond .leaf .leaf) (.seq (.blk (.seq .leaf (.seq .leaf (.cond (.seq .leaf .leaf) .leaf)))) .leaf)))))) (.seq .leaf .leaf)))
def F152 (la : Option Addr) (ll : Nat) (lc : Nat) (g : G) (R : Value → G → Prop) : Prop :=
  ∃ Inv : Nat → Int → G → Prop, ((∃ m0 : Nat, Inv m0 (0 : Int) g)) ∧
  ∀ m : Nat, ∀ v_1 : Int, ∀ g1 : G, Le g g1 → Inv m v_1 g1 →
  ifB (ltI v_1 ((ll : Nat) : Int))
  ((0 ≤ v_1 ∧ v_1 < ((ll : Nat) : Int)) ∧ derefP la fun ad => ∃ x0 : Int, ∃ x1 : Int, ∃ x2 : ByteArray, ∃ x3a : Option Addr, ∃ x3l : Nat, ∃ x3c : Nat, ∃ x4a : Option Addr, ∃ x4l : Nat, ∃ x4c : Nat, g1.w.cell? (Addr.add ad (Int.toNat v_1 * 5)) = some (.int .i64 x0) ∧ g1.w.cell? (Addr.add (Addr.add ad (Int.toNat v_1 * 5)) 1) = some (.int .i64 x1) ∧ g1.w.cell? (Addr.add (Addr.add ad (Int.toNat v_1 * 5)) 2) = some (.string x2) ∧ g1.w.cell? (Addr.add (Addr.add ad (Int.toNat v_1 * 5)) 3) = some (.slice x3a x3l x3c) ∧ g1.w.cell? (Addr.add (Addr.add ad (Int.toNat v_1 * 5)) 4) = some (.slice x4a x4l x4c) ∧ ∀ g2 : G, NewD g1 g2 25 [(.int .i64 (0 : Int)), (.int .i64 (0 : Int)), (.string (bs [])), (.slice none 0 0), (.slice none 0 0)] →
  stOk g2.w ⟨g1.w.heap.size, 0, none⟩ 5 ∧ ¬ g2.X (Addr.block ⟨g1.w.heap.size, 0, none⟩) ∧ mutAt g2 ⟨g1.w.heap.size, 0, none⟩ 5 ∧ ((Addr.block ⟨g1.w.heap.size, 0, none⟩) < g.w.heap.size → nobody (Addr.block ⟨g1.w.heap.size, 0, none⟩)) ∧ ∀ g3 : G, StG true g2 ⟨g1.w.heap.size, 0, none⟩ [(.int .i64 x0), (.int .i64 x1), (.string x2), (.slice x3a x3l x3c), (.slice x4a x4l x4c)] g3 →
  (0 ≤ v_1 ∧ v_1 ≤ ((lc : Nat) : Int)) ∧ ∃ M1 : Nat → Prop, (∀ b, b < g.w.heap.size → M1 b → nobody b) ∧ (CallsG Tryz.prog 55 #[(.slice (slAddr la lc 0 5) ((Int.toNat v_1) - 0) (lc - 0)), (.func (.func 169) #[] ⟨[(.pointer (some ⟨g1.w.heap.size, 0, none⟩))]⟩)] g3 M1 fun v g4 =>
  ∃ x : Bool, v = (.bool x) ∧ ifB x
  (∀ g5 : G, Ex g4 g5 →
  R (.bool false) g5)
  (InI64 (v_1 + (1 : Int)) ∧ (∃ m_1 : Nat, m_1 < m ∧ Inv m_1 (v_1 + (1 : Int)) g4))))
  (∀ g6 : G, Ex g1 g6 →
  R (.bool true) g6)
theorem F152_eq (la : Option Addr) (ll : Nat) (lc : Nat) (g : G) (R : Value → G → Prop) : fnG cfg152 18 [.tmp 2] c152 an152 [(.slice la ll lc)] g nobody R = F152 la ll lc g R := by kernel_rfl
theorem call152 (la : Option Addr) (ll : Nat) (lc : Nat) (g : G) (R : Value → G → Prop) (hF : F152 la ll lc g R) : CallsG Tryz.prog 152 #[(.slice la ll lc)] g nobody R :=
  fn_soundG (c := cfg152) TTok FNSok mixed Tryz.func152 (show Tryz.f152.body = some c152 by kernel_rfl) (show Tryz.f152.ntmps = 18 by kernel_rfl) (show Tryz.f152.results.toList = [.tmp 2] by kernel_rfl) rfl ((F152_eq la ll lc g R).mpr hF)

/- 155 pilaster/ident.of -/
noncomputable def c155 : Code := match Tryz.f155.body with
  | some c => c
  | none => .skip
noncomputable def cfg155 : Cfg := ⟨Tryz.prog, TT, FNS, [], [], [], TCH, false, false⟩
def an155 : AnnG := (.seq .leaf (.seq (.blk (.join ⟨[(3, .bool)], [], []⟩ .leaf (.cond (.seq .leaf .leaf) (.join ⟨[(10, .bool)], [], []⟩ .leaf (.cond (.seq .leaf .leaf) (.join ⟨[(17, .bool)], [], []⟩ .leaf (.cond (.seq .leaf .leaf) (.seq .leaf (.cond (.seq .leaf .leaf) (.seq .leaf (.cond (.seq .leaf .leaf) .leaf))))))))))) (.seq .leaf .leaf)))
def F155 (c : Int) (g : G) (R : Value → G → Prop) : Prop :=
  ∀ J : Bool → G → Prop,
  (∀ v_1 : Bool, ∀ g1 : G, (ifB v_1
  (∀ g2 : G, Ex g1 g2 →
  R (.int .i64 (1 : Int)) g2)
  (∀ J_1 : Bool → G → Prop,
  (∀ v_2 : Bool, ∀ g3 : G, (ifB v_2
  (∀ g4 : G, Ex g3 g4 →
  R (.int .i64 (2 : Int)) g4)
  (∀ J_2 : Bool → G → Prop,
  (∀ v_3 : Bool, ∀ g5 : G, (ifB v_3
  (∀ g6 : G, Ex g5 g6 →
  R (.int .i64 (3 : Int)) g6)
  (ifB (eqI c (95 : Int))
  (∀ g7 : G, Ex g5 g7 →
  R (.int .i64 (4 : Int)) g7)
  (ifB (eqI c (46 : Int))
  (∀ g8 : G, Ex g5 g8 →
  R (.int .i64 (5 : Int)) g8)
  (∀ g9 : G, Ex g5 g9 →
  R (.int .i64 (0 : Int)) g9)))) → J_2 v_3 g5) →
  ifB (leI (48 : Int) c)
  (J_2 (leI c (57 : Int)) g3)
  (J_2 false g3))) → J_1 v_2 g3) →
  ifB (leI (65 : Int) c)
  (J_1 (leI c (90 : Int)) g1)
  (J_1 false g1))) → J v_1 g1) →
  ifB (leI (97 : Int) c)
  (J (leI c (122 : Int)) g)
  (J false g)
theorem F155_eq (c : Int) (g : G) (R : Value → G → Prop) : fnG cfg155 30 [.tmp 2] c155 an155 [(.int .u8 c)] g nobody R = F155 c g R := by kernel_rfl
theorem call155 (c : Int) (g : G) (R : Value → G → Prop) (hF : F155 c g R) : CallsG Tryz.prog 155 #[(.int .u8 c)] g nobody R :=
  fn_soundG (c := cfg155) TTok FNSok mixed Tryz.func155 (show Tryz.f155.body = some c155 by kernel_rfl) (show Tryz.f155.ntmps = 30 by kernel_rfl) (show Tryz.f155.results.toList = [.tmp 2] by kernel_rfl) rfl ((F155_eq c g R).mpr hF)

/- 156 pilaster/pilasterref03.typeForm -/
/- 157 pilaster/pilasterref03.patForm -/
/- 158 pilaster/pilasterref03.exprForm -/
/- 159 pilaster/pilasterref03.declForm -/
/- 160 pilaster/pilasterref03.specForm -/
/- 161 pilaster/pilasterref03.modForm -/
/- 162 pilaster/pilasterref01.Inner -/
/- 163 strings.CutPrefix -/
noncomputable def c163 : Code := match Tryz.f163.body with
  | some c => c
  | none => .skip
noncomputable def cfg163 : Cfg := ⟨Tryz.prog, TT, FNS, [], [], [], TCH, false, false⟩
def an163 : AnnG := (.seq .leaf (.seq .leaf .leaf))
def F163 (s : ByteArray) (prefix0 : ByteArray) (g : G) (R : Value → G → Prop) : Prop :=
  (CallsP Tryz.prog 181 #[(.string s), (.string prefix0)] g fun v g1 =>
  ∃ x0 : ByteArray, ∃ x1 : Bool, v = (.tuple ⟨[(.string x0), (.bool x1)]⟩) ∧ ∀ g2 : G, Ex g1 g2 →
  R (.tuple ⟨[(.string x0), (.bool x1)]⟩) g2)
theorem F163_eq (s : ByteArray) (prefix0 : ByteArray) (g : G) (R : Value → G → Prop) : fnG cfg163 11 [.tmp 4, .tmp 5] c163 an163 [(.string s), (.string prefix0)] g nobody R = F163 s prefix0 g R := by kernel_rfl
theorem call163 (s : ByteArray) (prefix0 : ByteArray) (g : G) (R : Value → G → Prop) (hF : F163 s prefix0 g R) : CallsG Tryz.prog 163 #[(.string s), (.string prefix0)] g nobody R :=
  fn_soundG (c := cfg163) TTok FNSok mixed Tryz.func163 (show Tryz.f163.body = some c163 by kernel_rfl) (show Tryz.f163.ntmps = 11 by kernel_rfl) (show Tryz.f163.results.toList = [.tmp 4, .tmp 5] by kernel_rfl) rfl ((F163_eq s prefix0 g R).mpr hF)

/- 164 pilaster/syntax.path$1 -/
noncomputable def c164 : Code := match Tryz.f164.body with
  | some c => c
  | none => .skip
noncomputable def cfg164 : Cfg := ⟨Tryz.prog, TT, FNS, [], [], [], TCH, false, false⟩
def an164 : AnnG := (.seq .leaf (.seq .leaf .leaf))
def F164 (s : ByteArray) (g : G) (R : Value → G → Prop) : Prop :=
  (CallsP Tryz.prog 111 #[(.string s)] g fun v g1 =>
  ∃ x : Bool, v = (.bool x) ∧ ∀ g2 : G, Ex g1 g2 →
  R (.bool (!x)) g2)
theorem F164_eq (s : ByteArray) (g : G) (R : Value → G → Prop) : fnG cfg164 6 [.tmp 2] c164 an164 [(.string s)] g nobody R = F164 s g R := by kernel_rfl
theorem call164 (s : ByteArray) (g : G) (R : Value → G → Prop) (hF : F164 s g R) : CallsG Tryz.prog 164 #[(.string s)] g nobody R :=
  fn_soundG (c := cfg164) TTok FNSok mixed Tryz.func164 (show Tryz.f164.body = some c164 by kernel_rfl) (show Tryz.f164.ntmps = 6 by kernel_rfl) (show Tryz.f164.results.toList = [.tmp 2] by kernel_rfl) rfl ((F164_eq s g R).mpr hF)

/- 165 pilaster/ident.word -/
noncomputable def c165 : Code := match Tryz.f165.body with
  | some c => c
  | none => .skip
noncomputable def cfg165 : Cfg := ⟨Tryz.prog, TT, FNS, [], [], [], TCH, false, false⟩
def an165 : AnnG := (.seq .leaf (.seq .leaf .leaf))
def F165 (s : ByteArray) (g : G) (R : Value → G → Prop) : Prop :=
  (CallsP Tryz.prog 182 #[(.string (bs [97, 110, 100, 97, 108, 115, 111, 32, 99, 97, 115, 101, 32, 100, 97, 116, 97, 32, 100, 105, 118, 32, 101, 108, 115, 101, 32, 101, 110, 100, 32, 102, 110, 32, 102, 117, 110, 32, 102, 117, 110, 99, 116, 111, 114, 32, 103, 101, 110, 101, 114, 97, 116, 105, 118, 101, 32, 105, 102, 32, 105, 109, 112, 111, 114, 116, 32, 105, 110, 32, 105, 110, 99, 108, 117, 100, 101, 32, 108, 101, 116, 32, 109, 111, 100, 32, 109, 111, 100, 117, 108, 101, 32, 111, 102, 32, 111, 112, 101, 110, 32, 111, 114, 101, 108, 115, 101, 32, 112, 97, 99, 107, 32, 115, 104, 97, 114, 105, 110, 103, 32, 115, 105, 103, 32, 115, 105, 103, 110, 97, 116, 117, 114, 101, 32, 115, 116, 114, 117, 99, 116, 32, 115, 116, 114, 117, 99, 116, 117, 114, 101, 32, 116, 104, 101, 110, 32, 116, 121, 112, 101, 32, 117, 110, 112, 97, 99, 107, 32, 118, 97, 108, 32, 119, 105, 116, 104]))] g fun v g1 =>
  ∃ xa : Option Addr, ∃ xl : Nat, ∃ xc : Nat, v = (.slice xa xl xc) ∧ (CallsP Tryz.prog 19 #[(.slice xa xl xc), (.string s)] g1 fun v g2 =>
  ∃ x : Bool, v = (.bool x) ∧ ∀ g3 : G, Ex g2 g3 →
  R (.bool x) g3))
theorem F165_eq (s : ByteArray) (g : G) (R : Value → G → Prop) : fnG cfg165 6 [.tmp 2] c165 an165 [(.string s)] g nobody R = F165 s g R := by kernel_rfl
theorem call165 (s : ByteArray) (g : G) (R : Value → G → Prop) (hF : F165 s g R) : CallsG Tryz.prog 165 #[(.string s)] g nobody R :=
  fn_soundG (c := cfg165) TTok FNSok mixed Tryz.func165 (show Tryz.f165.body = some c165 by kernel_rfl) (show Tryz.f165.ntmps = 6 by kernel_rfl) (show Tryz.f165.results.toList = [.tmp 2] by kernel_rfl) rfl ((F165_eq s g R).mpr hF)

/- 166 pilaster/syntax.many$1 -/
noncomputable def c166 : Code := match Tryz.f166.body with
  | some c => c
  | none => .skip
noncomputable def cfg166 : Cfg := ⟨Tryz.prog, TT, FNS, [2], [(2, 2)], [], TCH, false, false⟩
def an166 : AnnG := (.seq .leaf (.seq .leaf .leaf))
def F166 (x0 : Int) (x1 : Int) (x2 : ByteArray) (x3a : Option Addr) (x3l : Nat) (x3c : Nat) (x4a : Option Addr) (x4l : Nat) (x4c : Nat) (c0 : Option Addr) (g : G) (R : Value → G → Prop) : Prop :=
  ∀ g1 : G, Ex g g1 →
  derefP c0 fun ad => ∃ x : Int, g1.w.cell? ad = some (.int .i64 x) ∧ (CallsP Tryz.prog 95 #[(.int .i64 x), (.agg ⟨[(.int .i64 x0), (.int .i64 x1), (.string x2), (.slice x3a x3l x3c), (.slice x4a x4l x4c)]⟩)] g1 fun v g2 =>
  ∃ x_1 : Bool, v = (.bool x_1) ∧ ∀ g3 : G, Ex g2 g3 →
  R (.bool (!x_1)) g3)
theorem F166_eq (x0 : Int) (x1 : Int) (x2 : ByteArray) (x3a : Option Addr) (x3l : Nat) (x3c : Nat) (x4a : Option Addr) (x4l : Nat) (x4c : Nat) (c0 : Option Addr) (g : G) (R : Value → G → Prop) : fnG cfg166 8 [.tmp 3] c166 an166 [(.agg ⟨[(.int .i64 x0), (.int .i64 x1), (.string x2), (.slice x3a x3l x3c), (.slice x4a x4l x4c)]⟩), (.pointer c0)] g nobody R = F166 x0 x1 x2 x3a x3l x3c x4a x4l x4c c0 g R := by kernel_rfl
theorem call166 (x0 : Int) (x1 : Int) (x2 : ByteArray) (x3a : Option Addr) (x3l : Nat) (x3c : Nat) (x4a : Option Addr) (x4l : Nat) (x4c : Nat) (c0 : Option Addr) (g : G) (R : Value → G → Prop) (hF : F166 x0 x1 x2 x3a x3l x3c x4a x4l x4c c0 g R) : CallsG Tryz.prog 166 #[(.agg ⟨[(.int .i64 x0), (.int .i64 x1), (.string x2), (.slice x3a x3l x3c), (.slice x4a x4l x4c)]⟩), (.pointer c0)] g nobody R :=
  fn_soundG (c := cfg166) TTok FNSok mixed Tryz.func166 (show Tryz.f166.body = some c166 by kernel_rfl) (show Tryz.f166.ntmps = 8 by kernel_rfl) (show Tryz.f166.results.toList = [.tmp 3] by kernel_rfl) rfl ((F166_eq x0 x1 x2 x3a x3l x3c x4a x4l x4c c0 g R).mpr hF)

/- 167 pilaster/syntax.only$1 -/
noncomputable def c167 : Code := match Tryz.f167.body with
  | some c => c
  | none => .skip
noncomputable def cfg167 : Cfg := ⟨Tryz.prog, TT, FNS, [2], [(2, 2), (5, 2)], [], TCH, false, false⟩
def an167 : AnnG := (.seq .leaf (.seq .leaf .leaf))
def F167 (x0 : Int) (x1 : Int) (x2 : ByteArray) (x3a : Option Addr) (x3l : Nat) (x3c : Nat) (x4a : Option Addr) (x4l : Nat) (x4c : Nat) (c0 : Option Addr) (g : G) (R : Value → G → Prop) : Prop :=
  ∀ g1 : G, Ex g g1 →
  derefP c0 fun ad => ∃ xa : Option Addr, ∃ xl : Nat, ∃ xc : Nat, g1.w.cell? ad = some (.slice xa xl xc) ∧ (CallsP Tryz.prog 168 #[(.slice xa xl xc), (.int .i64 x0)] g1 fun v g2 =>
  ∃ x : Bool, v = (.bool x) ∧ ∀ g3 : G, Ex g2 g3 →
  R (.bool (!x)) g3)
theorem F167_eq (x0 : Int) (x1 : Int) (x2 : ByteArray) (x3a : Option Addr) (x3l : Nat) (x3c : Nat) (x4a : Option Addr) (x4l : Nat) (x4c : Nat) (c0 : Option Addr) (g : G) (R : Value → G → Prop) : fnG cfg167 9 [.tmp 3] c167 an167 [(.agg ⟨[(.int .i64 x0), (.int .i64 x1), (.string x2), (.slice x3a x3l x3c), (.slice x4a x4l x4c)]⟩), (.pointer c0)] g nobody R = F167 x0 x1 x2 x3a x3l x3c x4a x4l x4c c0 g R := by kernel_rfl
theorem call167 (x0 : Int) (x1 : Int) (x2 : ByteArray) (x3a : Option Addr) (x3l : Nat) (x3c : Nat) (x4a : Option Addr) (x4l : Nat) (x4c : Nat) (c0 : Option Addr) (g : G) (R : Value → G → Prop) (hF : F167 x0 x1 x2 x3a x3l x3c x4a x4l x4c c0 g R) : CallsG Tryz.prog 167 #[(.agg ⟨[(.int .i64 x0), (.int .i64 x1), (.string x2), (.slice x3a x3l x3c), (.slice x4a x4l x4c)]⟩), (.pointer c0)] g nobody R :=
  fn_soundG (c := cfg167) TTok FNSok mixed Tryz.func167 (show Tryz.f167.body = some c167 by kernel_rfl) (show Tryz.f167.ntmps = 9 by kernel_rfl) (show Tryz.f167.results.toList = [.tmp 3] by kernel_rfl) rfl ((F167_eq x0 x1 x2 x3a x3l x3c x4a x4l x4c c0 g R).mpr hF)

/- 168 slices.Contains[[]int,int] -/
noncomputable def c168 : Code := match Tryz.f168.body with
  | some c => c
  | none => .skip
noncomputable def cfg168 : Cfg := ⟨Tryz.prog, TT, FNS, [], [], [], TCH, false, false⟩
def an168 : AnnG := (.seq .leaf (.seq .leaf .leaf))
def F168 (sa : Option Addr) (sl : Nat) (sc : Nat) (v_1 : Int) (g : G) (R : Value → G → Prop) : Prop :=
  (CallsP Tryz.prog 183 #[(.slice sa sl sc), (.int .i64 v_1)] g fun v g1 =>
  ∃ x : Int, v = (.int .i64 x) ∧ ∀ g2 : G, Ex g1 g2 →
  R (.bool (leI (0 : Int) x)) g2)
theorem F168_eq (sa : Option Addr) (sl : Nat) (sc : Nat) (v_1 : Int) (g : G) (R : Value → G → Prop) : fnG cfg168 9 [.tmp 4] c168 an168 [(.slice sa sl sc), (.int .i64 v_1)] g nobody R = F168 sa sl sc v_1 g R := by kernel_rfl
theorem call168 (sa : Option Addr) (sl : Nat) (sc : Nat) (v_1 : Int) (g : G) (R : Value → G → Prop) (hF : F168 sa sl sc v_1 g R) : CallsG Tryz.prog 168 #[(.slice sa sl sc), (.int .i64 v_1)] g nobody R :=
  fn_soundG (c := cfg168) TTok FNSok mixed Tryz.func168 (show Tryz.f168.body = some c168 by kernel_rfl) (show Tryz.f168.ntmps = 9 by kernel_rfl) (show Tryz.f168.results.toList = [.tmp 4] by kernel_rfl) rfl ((F168_eq sa sl sc v_1 g R).mpr hF)

/- 169 pilaster/syntax.differ$1 -/
noncomputable def c169 : Code := match Tryz.f169.body with
  | some c => c
  | none => .skip
noncomputable def cfg169 : Cfg := ⟨Tryz.prog, TT, FNS, [2], [(2, 2), (6, 2)], [], TCH, false, false⟩
def an169 : AnnG := (.seq .leaf (.seq .leaf .leaf))
def F169 (y0 : Int) (y1 : Int) (y2 : ByteArray) (y3a : Option Addr) (y3l : Nat) (y3c : Nat) (y4a : Option Addr) (y4l : Nat) (y4c : Nat) (c0 : Option Addr) (g : G) (R : Value → G → Prop) : Prop :=
  derefP c0 fun ad => ∀ g1 : G, Ex g g1 →
  ∃ x : ByteArray, g1.w.cell? (Addr.add ad 2) = some (.string x) ∧ ∀ g2 : G, Ex g1 g2 →
  R (.bool (strEq x y2)) g2
theorem F169_eq (y0 : Int) (y1 : Int) (y2 : ByteArray) (y3a : Option Addr) (y3l : Nat) (y3c : Nat) (y4a : Option Addr) (y4l : Nat) (y4c : Nat) (c0 : Option Addr) (g : G) (R : Value → G → Prop) : fnG cfg169 9 [.tmp 3] c169 an169 [(.agg ⟨[(.int .i64 y0), (.int .i64 y1), (.string y2), (.slice y3a y3l y3c), (.slice y4a y4l y4c)]⟩), (.pointer c0)] g nobody R = F169 y0 y1 y2 y3a y3l y3c y4a y4l y4c c0 g R := by kernel_rfl
theorem call169 (y0 : Int) (y1 : Int) (y2 : ByteArray) (y3a : Option Addr) (y3l : Nat) (y3c : Nat) (y4a : Option Addr) (y4l : Nat) (y4c : Nat) (c0 : Option Addr) (g : G) (R : Value → G → Prop) (hF : F169 y0 y1 y2 y3a y3l y3c y4a y4l y4c c0 g R) : CallsG Tryz.prog 169 #[(.agg ⟨[(.int .i64 y0), (.int .i64 y1), (.string y2), (.slice y3a y3l y3c), (.slice y4a y4l y4c)]⟩), (.pointer c0)] g nobody R :=
  fn_soundG (c := cfg169) TTok FNSok mixed Tryz.func169 (show Tryz.f169.body = some c169 by kernel_rfl) (show Tryz.f169.ntmps = 9 by kernel_rfl) (show Tryz.f169.results.toList = [.tmp 3] by kernel_rfl) rfl ((F169_eq y0 y1 y2 y3a y3l y3c y4a y4l y4c c0 g R).mpr hF)

/- 170 pilaster/pilasterref03.bare -/
/- 171 pilaster/pilasterref03.Variable -/
/- 172 pilaster/pilasterref03.path -/
/- 173 pilaster/pilasterref03.all -/
/- 174 pilaster/pilasterref03.exact -/
/- 175 pilaster/pilasterref03.Lower -/
/- 176 pilaster/pilasterref03.text -/
/- 177 pilaster/pilasterref03.params -/
/- 178 pilaster/pilasterref03.Upper -/
/- 179 pilaster/pilasterref01.Small -/
/- 180 pilaster/pilasterref01.Digit -/
/- 181 internal/stringslite.CutPrefix -/
noncomputable def c181 : Code := match Tryz.f181.body with
  | some c => c
  | none => .skip
noncomputable def cfg181 : Cfg := ⟨Tryz.prog, TT, FNS, [], [], [], TCH, false, false⟩
def an181 : AnnG := (.seq .leaf (.seq (.seq .leaf (.cond (.seq .leaf .leaf) .leaf)) (.seq .leaf .leaf)))
def F181 (s : ByteArray) (prefix0 : ByteArray) (g : G) (R : Value → G → Prop) : Prop :=
  (CallsP Tryz.prog 186 #[(.string s), (.string prefix0)] g fun v g1 =>
  ∃ x : Bool, v = (.bool x) ∧ ifB (!x)
  (∀ g2 : G, Ex g1 g2 →
  R (.tuple ⟨[(.string s), (.bool false)]⟩) g2)
  ((0 ≤ ((prefix0.size : Nat) : Int) ∧ ((prefix0.size : Nat) : Int) ≤ ((s.size : Nat) : Int)) ∧ ∀ g3 : G, Ex g1 g3 →
  R (.tuple ⟨[(.string (ByteArray.extract s (Int.toNat ((prefix0.size : Nat) : Int)) s.size)), (.bool true)]⟩) g3))
theorem F181_eq (s : ByteArray) (prefix0 : ByteArray) (g : G) (R : Value → G → Prop) : fnG cfg181 15 [.tmp 4, .tmp 5] c181 an181 [(.string s), (.string prefix0)] g nobody R = F181 s prefix0 g R := by kernel_rfl
theorem call181 (s : ByteArray) (prefix0 : ByteArray) (g : G) (R : Value → G → Prop) (hF : F181 s prefix0 g R) : CallsG Tryz.prog 181 #[(.string s), (.string prefix0)] g nobody R :=
  fn_soundG (c := cfg181) TTok FNSok mixed Tryz.func181 (show Tryz.f181.body = some c181 by kernel_rfl) (show Tryz.f181.ntmps = 15 by kernel_rfl) (show Tryz.f181.results.toList = [.tmp 4, .tmp 5] by kernel_rfl) rfl ((F181_eq s prefix0 g R).mpr hF)

/- 183 slices.Index[[]int,int] -/
noncomputable def c183 : Code := match Tryz.f183.body with
  | some c => c
  | none => .skip
noncomputable def cfg183 : Cfg := ⟨Tryz.prog, TT, FNS, [], [], [], TCH, false, false⟩
def an183 : AnnG := (.seq .leaf (.seq (.seq .leaf (.blk (.loop ⟨[(8, .int .i64)], [], []⟩ (.seq .leaf (.seq (.cond .leaf .leaf) (.seq (.blk (.seq .leaf (.seq .leaf (.cond (.seq .leaf .leaf) .leaf)))) .leaf)))))) (.seq .leaf .leaf)))
def F183 (sa : Option Addr) (sl : Nat) (sc : Nat) (v_1 : Int) (g : G) (R : Value → G → Prop) : Prop :=
  ∃ Inv : Nat → Int → G → Prop, ((∃ m0 : Nat, Inv m0 (0 : Int) g)) ∧
  ∀ m : Nat, ∀ v_2 : Int, ∀ g1 : G, Le g g1 → Inv m v_2 g1 →
  ifB (ltI v_2 ((sl : Nat) : Int))
  ((0 ≤ v_2 ∧ v_2 < ((sl : Nat) : Int)) ∧ derefP sa fun ad => ∃ x : Int, g1.w.cell? (Addr.add ad (Int.toNat v_2 * 1)) = some (.int .i64 x) ∧ ifB (eqI v_1 x)
  (∀ g2 : G, Ex g1 g2 →
  R (.int .i64 v_2) g2)
  (InI64 (v_2 + (1 : Int)) ∧ (∃ m_1 : Nat, m_1 < m ∧ Inv m_1 (v_2 + (1 : Int)) g1)))
  (∀ g3 : G, Ex g1 g3 →
  R (.int .i64 (-1 : Int)) g3)
theorem F183_eq (sa : Option Addr) (sl : Nat) (sc : Nat) (v_1 : Int) (g : G) (R : Value → G → Prop) : fnG cfg183 19 [.tmp 4] c183 an183 [(.slice sa sl sc), (.int .i64 v_1)] g nobody R = F183 sa sl sc v_1 g R := by kernel_rfl
theorem call183 (sa : Option Addr) (sl : Nat) (sc : Nat) (v_1 : Int) (g : G) (R : Value → G → Prop) (hF : F183 sa sl sc v_1 g R) : CallsG Tryz.prog 183 #[(.slice sa sl sc), (.int .i64 v_1)] g nobody R :=
  fn_soundG (c := cfg183) TTok FNSok mixed Tryz.func183 (show Tryz.f183.body = some c183 by kernel_rfl) (show Tryz.f183.ntmps = 19 by kernel_rfl) (show Tryz.f183.results.toList = [.tmp 4] by kernel_rfl) rfl ((F183_eq sa sl sc v_1 g R).mpr hF)

/- 184 pilaster/pilasterref01.IsVar -/
/- 185 pilaster/pilasterref01.IsLower -/
/- 186 internal/stringslite.HasPrefix -/
noncomputable def c186 : Code := match Tryz.f186.body with
  | some c => c
  | none => .skip
noncomputable def cfg186 : Cfg := ⟨Tryz.prog, TT, FNS, [], [], [], TCH, false, false⟩
def an186 : AnnG := (.seq .leaf (.seq .leaf .leaf))
def F186 (s : ByteArray) (prefix0 : ByteArray) (g : G) (R : Value → G → Prop) : Prop :=
  ifB (leI ((prefix0.size : Nat) : Int) ((s.size : Nat) : Int))
  ((0 ≤ ((prefix0.size : Nat) : Int) ∧ ((prefix0.size : Nat) : Int) ≤ ((s.size : Nat) : Int)) ∧ ∀ g1 : G, Ex g g1 →
  R (.bool (strEq (ByteArray.extract s 0 (Int.toNat ((prefix0.size : Nat) : Int))) prefix0)) g1)
  (∀ g2 : G, Ex g g2 →
  R (.bool false) g2)
theorem F186_eq (s : ByteArray) (prefix0 : ByteArray) (g : G) (R : Value → G → Prop) : fnG cfg186 18 [.tmp 4] c186 an186 [(.string s), (.string prefix0)] g nobody R = F186 s prefix0 g R := by kernel_rfl
theorem call186 (s : ByteArray) (prefix0 : ByteArray) (g : G) (R : Value → G → Prop) (hF : F186 s prefix0 g R) : CallsG Tryz.prog 186 #[(.string s), (.string prefix0)] g nobody R :=
  fn_soundG (c := cfg186) TTok FNSok mixed Tryz.func186 (show Tryz.f186.body = some c186 by kernel_rfl) (show Tryz.f186.ntmps = 18 by kernel_rfl) (show Tryz.f186.results.toList = [.tmp 4] by kernel_rfl) rfl ((F186_eq s prefix0 g R).mpr hF)

/- 189 pilaster/pilasterref01.Keys -/
end Go.Proofs.YtkocjbgdmocmlaaGreatDoor
