/- Joined texts. -/
import Derived.WalkKit
import Derived.WalkSpells
import Derived.WalkLawsBesides
import Derived.StillTail
import Derived.OrdersHeld
import Derived.Laws.StructEq
/- Typed quantifiers over values, and tables of types. -/
set_option linter.unusedVariables false
namespace Go.Vc
open Go
inductive Sh1 where
  | any | bool | int (k : IntKind) | str | ptr | sl | map | fn
inductive ShE where
  | one (s : Sh1) | agg (l : List Sh1) | arr (n : Nat)
inductive Sh where
  | e (s : ShE) | tup (l : List ShE)
structure TI where
  id : TypeId
  und : TypeDesc
  size : Nat
  bytes : Nat
  zero : Option Value
  sh : Sh
def tfind : List TI → Nat → Option TI
  | [], _ => none
  | t :: r, i => match Nat.beq t.id i with
    | true => some t
    | false => tfind r i
def plainU (tt : List TI) (t : Nat) : Bool := match tfind tt t with
  | some ti => match ti.und with
    | .bool => true
    | .int _ => true
    | .string => true
    | _ => false
  | none => false
def plainT (tt : List TI) (u : TypeDesc) : Bool := match u with
  | .struct fs => fs.toList.all fun f => plainU tt f.type
  | _ => false
def cmpOk (P : Program) (tt : List TI) (ti : TI) : Bool := plainT tt ti.und && (P.stoodInHeld ti.id || P.eqGuardType P.depth ti.id)
def TOk (P : Program) (tt : List TI) : Prop :=
  ∀ ti ∈ tt, P.underlying ti.id = some ti.und ∧ (∃ inf, P.info? ti.id = some inf ∧ inf.size = ti.size ∧ inf.bytes = ti.bytes ∧ inf.zero = ti.zero) ∧ cmpOk P tt ti = false
theorem tok_of {P : Program} {tt : List TI}
    (h : tt.map (fun ti => (P.underlying ti.id, (P.info? ti.id).map (fun i => (i.size, i.bytes, i.zero)), cmpOk P tt ti)) = tt.map (fun ti => (some ti.und, some (ti.size, ti.bytes, ti.zero), false))) : TOk P tt := by
  intro ti hti
  have := List.map_inj_left.1 h ti hti
  simp only [Prod.mk.injEq] at this
  obtain ⟨h1, h2, h3⟩ := this
  refine ⟨h1, ?_, h3⟩
  cases hi : P.info? ti.id with
  | none => simp [hi] at h2
  | some inf =>
    simp only [hi, Option.map_some, Option.some.injEq, Prod.mk.injEq] at h2
    exact ⟨inf, rfl, h2.1, h2.2.1, h2.2.2⟩
theorem tfind_mem {tt : List TI} {i : Nat} {ti : TI} (h : tfind tt i = some ti) : ti ∈ tt ∧ ti.id = i := by
  induction tt with
  | nil => simp [tfind] at h
  | cons t r ih =>
    unfold tfind at h
    cases hb : Nat.beq t.id i with
    | true =>
      simp only [hb] at h
      obtain rfl := Option.some.inj h
      exact ⟨by simp, Nat.eq_of_beq_eq_true hb⟩
    | false =>
      simp only [hb] at h
      obtain ⟨h1, h2⟩ := ih h
      exact ⟨by simp [h1], h2⟩
structure TFact (P : Program) (i : Nat) (ti : TI) : Prop where
  und : P.underlying i = some ti.und
  inf : ∃ inf, P.info? i = some inf ∧ inf.size = ti.size ∧ inf.bytes = ti.bytes ∧ inf.zero = ti.zero
theorem TOk.fact {P : Program} {tt : List TI} (h : TOk P tt) {i : Nat} {ti : TI} (hf : tfind tt i = some ti) : TFact P i ti := by
  obtain ⟨h1, rfl⟩ := tfind_mem hf
  obtain ⟨h2, h3, _⟩ := h ti h1
  exact ⟨h2, h3⟩
theorem TOk.plain {P : Program} {tt : List TI} (h : TOk P tt) {i : Nat} {ti : TI} (hf : tfind tt i = some ti) (hp : plainT tt ti.und = true) : P.stoodInHeld i = false ∧ P.eqGuardType P.depth i = false := by
  obtain ⟨h1, rfl⟩ := tfind_mem hf
  obtain ⟨_, _, h3⟩ := h ti h1
  unfold cmpOk at h3
  rw [hp] at h3
  simpa using h3
def ex1 : Sh1 → (Value → Prop) → Prop
  | .any, Q => ∃ v, Q v
  | .bool, Q => ∃ b, Q (.bool b)
  | .int k, Q => ∃ n, Q (.int k n)
  | .str, Q => ∃ s, Q (.string s)
  | .ptr, Q => ∃ a, Q (.pointer a)
  | .sl, Q => ∃ a l c, Q (.slice a l c)
  | .map, Q => ∃ r, Q (.map r)
  | .fn, Q => ∃ f c, Q (.func (.func f) #[] c)
def exN : List Sh1 → (List Value → Prop) → Prop
  | [], Q => Q []
  | s :: r, Q => ex1 s fun v => exN r fun vs => Q (v :: vs)
def exE : ShE → (Value → Prop) → Prop
  | .one s, Q => ex1 s Q
  | .agg l, Q => exN l fun vs => Q (.agg ⟨vs⟩)
  | .arr n, Q => ∃ vs : List Value, vs.length = n ∧ Q (.agg ⟨vs⟩)
def exT : List ShE → (List Value → Prop) → Prop
  | [], Q => Q []
  | s :: r, Q => exE s fun v => exT r fun vs => Q (v :: vs)
def exS : Sh → (Value → Prop) → Prop
  | .e s, Q => exE s Q
  | .tup l, Q => exT l fun vs => Q (.tuple ⟨vs⟩)
theorem ex1_some {s : Sh1} {Q : Value → Prop} (h : ex1 s Q) : ∃ v, Q v := by
  cases s <;> simp only [ex1] at h
  case any => exact h
  case sl => obtain ⟨a, l, c, h⟩ := h; exact ⟨_, h⟩
  case fn => obtain ⟨a, l, h⟩ := h; exact ⟨_, h⟩
  all_goals (obtain ⟨a, h⟩ := h; exact ⟨_, h⟩)
theorem exN_some {l : List Sh1} : ∀ {Q : List Value → Prop}, exN l Q → ∃ vs, Q vs := by
  induction l with
  | nil => intro Q h; exact ⟨[], h⟩
  | cons s r ih => intro Q h; obtain ⟨v, hv⟩ := ex1_some h; obtain ⟨vs, hvs⟩ := ih hv; exact ⟨_, hvs⟩
theorem exE_some {s : ShE} {Q : Value → Prop} (h : exE s Q) : ∃ v, Q v := by
  cases s with
  | one s => exact ex1_some h
  | agg l => obtain ⟨vs, h⟩ := exN_some h; exact ⟨_, h⟩
  | arr n => obtain ⟨vs, _, h⟩ := h; exact ⟨_, h⟩
theorem exT_some {l : List ShE} : ∀ {Q : List Value → Prop}, exT l Q → ∃ vs, Q vs := by
  induction l with
  | nil => intro Q h; exact ⟨[], h⟩
  | cons s r ih => intro Q h; obtain ⟨v, hv⟩ := exE_some h; obtain ⟨vs, hvs⟩ := ih hv; exact ⟨_, hvs⟩
theorem exS_some {s : Sh} {Q : Value → Prop} (h : exS s Q) : ∃ v, Q v := by
  cases s with
  | e s => exact exE_some h
  | tup l => obtain ⟨vs, h⟩ := exT_some h; exact ⟨_, h⟩
def JTy (T : Type) : List Sh1 → Type
  | [] => T
  | .any :: r => Value → JTy T r
  | .bool :: r => Bool → JTy T r
  | .int _ :: r => Int → JTy T r
  | .str :: r => ByteArray → JTy T r
  | .ptr :: r => Option Addr → JTy T r
  | .sl :: r => Option Addr → Nat → Nat → JTy T r
  | .map :: r => Option Nat → JTy T r
  | .fn :: r => FuncId → Array Value → JTy T r
def jstep {T : Type} (d : T) : (s : Sh1) → (r : List Sh1) → JTy T (s :: r) → Value → (JTy T r → T) → T
  | .any, _, J, v, k => k (J v)
  | .bool, _, J, v, k => match v with | .bool b => k (J b) | _ => d
  | .int i, _, J, v, k => match v with
    | .int i' n => match decide (i = i') with
      | true => k (J n)
      | false => d
    | _ => d
  | .str, _, J, v, k => match v with | .string b => k (J b) | _ => d
  | .ptr, _, J, v, k => match v with | .pointer b => k (J b) | _ => d
  | .sl, _, J, v, k => match v with | .slice a l c => k (J a l c) | _ => d
  | .map, _, J, v, k => match v with | .map b => k (J b) | _ => d
  | .fn, _, J, v, k => match v with
    | .func f a c => match f with
      | .func f => match a with
        | ⟨[]⟩ => k (J f c)
        | _ => d
      | _ => d
    | _ => d
def japp {T : Type} (d : T) : (l : List Sh1) → JTy T l → List Value → T
  | [], J, vs => match vs with
    | [] => J
    | _ :: _ => d
  | s :: r, J, vs => match vs with
    | [] => d
    | v :: vs => jstep d s r J v fun J' => japp d r J' vs
def all1 : Sh1 → (Value → Prop) → Prop
  | .any, Q => ∀ v, Q v
  | .bool, Q => ∀ b, Q (.bool b)
  | .int k, Q => ∀ n, Q (.int k n)
  | .str, Q => ∀ s, Q (.string s)
  | .ptr, Q => ∀ a, Q (.pointer a)
  | .sl, Q => ∀ a l c, Q (.slice a l c)
  | .map, Q => ∀ r, Q (.map r)
  | .fn, Q => ∀ f c, Q (.func (.func f) #[] c)
def jall : List Sh1 → (List Value → Prop) → Prop
  | [], B => B []
  | s :: r, B => all1 s fun v => jall r fun vs => B (v :: vs)
def cur1 {T : Type} : (s : Sh1) → (r : List Sh1) → (Value → JTy T r) → JTy T (s :: r)
  | .any, _, f => f
  | .bool, _, f => fun b => f (.bool b)
  | .int k, _, f => fun n => f (.int k n)
  | .str, _, f => fun s => f (.string s)
  | .ptr, _, f => fun a => f (.pointer a)
  | .sl, _, f => fun a l c => f (.slice a l c)
  | .map, _, f => fun a => f (.map a)
  | .fn, _, f => fun i c => f (.func (.func i) #[] c)
def fits1 (s : Sh1) (v : Value) : Prop := ∀ Q : Value → Prop, all1 s Q → Q v
def fitsL : List Sh1 → List Value → Prop
  | [], vs => vs = []
  | s :: r, vs => ∃ v us, vs = v :: us ∧ fits1 s v ∧ fitsL r us
theorem jall_fits : ∀ {l : List Sh1} {B : List Value → Prop}, jall l B → ∀ vs, fitsL l vs → B vs := by
  intro l
  induction l with
  | nil => intro B h vs hf; obtain rfl : vs = [] := hf; exact h
  | cons s r ih =>
    intro B h vs hf
    obtain ⟨v, us, rfl, h1, h2⟩ := hf
    exact ih (B := fun vs => B (v :: vs)) (h1 _ h) us h2
theorem all1_mono {s : Sh1} {Q Q' : Value → Prop} (h : ∀ v, Q v → Q' v) (hq : all1 s Q) : all1 s Q' := by
  cases s
  case sl => exact fun a l c => h _ (hq a l c)
  case fn => exact fun a c => h _ (hq a c)
  all_goals exact fun a => h _ (hq a)
theorem jall_mono : ∀ {l : List Sh1} {B B' : List Value → Prop}, (∀ vs, B vs → B' vs) → jall l B → jall l B' := by
  intro l
  induction l with
  | nil => intro B B' h hb; exact h _ hb
  | cons s r ih => intro B B' h hb; exact all1_mono (fun v hv => ih (fun vs => h (v :: vs)) hv) hb
theorem jall_swap : ∀ {l : List Sh1} {s : Sh1} {C : Value → List Value → Prop}, (∀ v, fits1 s v → jall l (C v)) → all1 s fun v => jall l (C v) := by
  intro l s C h
  cases s
  case any => exact fun v => h _ (fun Q hQ => hQ _)
  case sl => exact fun a l c => h _ (fun Q hQ => hQ _ _ _)
  case fn => exact fun a c => h _ (fun Q hQ => hQ _ _)
  all_goals exact fun v => h _ (fun Q hQ => hQ _)
end Go.Vc
/- Words, and the conditions of pure operations. -/
set_option linter.unusedVariables false
namespace Go.Vc
open Go
abbrev Env := List (Nat × Option Value)
def look : Env → Nat → Option Value
  | [], _ => none
  | (d, v) :: r, t => match Nat.beq d t with
    | true => v
    | false => look r t
def ev (fr : Env) : Operand → Option Value
  | .tmp t => look fr t
  | .const v => some v
  | .global g => some (.pointer (some ⟨g, 0, none⟩))
  | .func f => some (.func (.func f) #[] #[])
def evL (fr : Env) : List Operand → Option (List Value)
  | [] => some []
  | x :: r => match ev fr x with
    | none => none
    | some v => match evL fr r with
      | none => none
      | some vs => some (v :: vs)
def withV (o : Option Value) (K : Value → Prop) : Prop := match o with
  | some v => K v
  | none => False
def withL (o : Option (List Value)) (K : List Value → Prop) : Prop := match o with
  | some v => K v
  | none => False
structure Agree (n : Nat) (fr : Env) (a : Act) : Prop where
  size : a.tmps.size = n
  defers : a.defers = []
  at_ : ∀ t v, look fr t = some v → a.tmps.getD t undef = v
theorem Agree.ev {n : Nat} {fr : Env} {a : Act} (h : Agree n fr a) {x : Operand} {v : Value} (hx : ev fr x = some v) : a.eval x = v := by
  cases x with
  | tmp t => exact h.at_ t v hx
  | const c => exact Option.some.inj hx
  | global g => exact Option.some.inj hx
  | func f => exact Option.some.inj hx
theorem Agree.evL {n : Nat} {fr : Env} {a : Act} (h : Agree n fr a) : ∀ {l : List Operand} {vs : List Value}, evL fr l = some vs → l.map a.eval = vs
  | [], vs, hl => Option.some.inj hl
  | x :: r, vs, hl => by
    unfold Vc.evL at hl
    cases hx : Vc.ev fr x with
    | none => simp [hx] at hl
    | some v =>
      cases hr : Vc.evL fr r with
      | none => simp [hx, hr] at hl
      | some us =>
        simp only [hx, hr, Option.some.injEq] at hl
        rw [← hl, List.map_cons, h.ev hx, h.evL hr]
theorem withV_some {o : Option Value} {K : Value → Prop} (h : withV o K) : ∃ v, o = some v ∧ K v := by
  cases o with
  | none => exact h.elim
  | some v => exact ⟨v, rfl, h⟩
theorem withL_some {o : Option (List Value)} {K : List Value → Prop} (h : withL o K) : ∃ v, o = some v ∧ K v := by
  cases o with
  | none => exact h.elim
  | some v => exact ⟨v, rfl, h⟩
def ifB (b : Bool) (A B : Prop) : Prop := match b with
  | true => A
  | false => B
theorem ifB_iff {b : Bool} {A B : Prop} : ifB b A B ↔ (b = true → A) ∧ (b = false → B) := by cases b <;> simp [ifB]
@[simp] theorem ifB_true {A B : Prop} : ifB true A B = A := rfl
@[simp] theorem ifB_false {A B : Prop} : ifB false A B = B := rfl
def brB (b : Bool) (F : Bool → Prop) : Prop := ifB b (F true) (F false)
theorem brB_use {b : Bool} {F : Bool → Prop} (h : brB b F) : F b := by cases b <;> exact h
def derefP (a : Option Addr) (K : Addr → Prop) : Prop := match a with
  | some ad => K ad
  | none => False
theorem derefP_some {a : Option Addr} {K : Addr → Prop} (h : derefP a K) : ∃ ad, a = some ad ∧ K ad := by
  cases a with
  | none => exact h.elim
  | some v => exact ⟨v, rfl, h⟩
def InI64 (z : Int) : Prop := -9223372036854775808 ≤ z ∧ z ≤ 9223372036854775807
theorem wrap_inI64 {z : Int} (h : InI64 z) : IntKind.i64.wrap z = z := IntWalk.i64_in z h
def arVC (k : IntKind) (z : Int) (K : Value → Prop) : Prop := match k with
  | .i64 => InI64 z ∧ K (.int .i64 z)
  | k => K (.int k (k.wrap z))
theorem arVC_use {k : IntKind} {z : Int} {K : Value → Prop} (h : arVC k z K) : K (.int k (k.wrap z)) := by
  cases k <;> first | exact h | (obtain ⟨h1, h2⟩ := h; rw [wrap_inI64 h1]; exact h2)
def shlI (k : IntKind) (a b : Int) : Int := k.wrap (a * 2 ^ (min b.toNat k.bits))
def shrI (k : IntKind) (a b : Int) : Int := a.fdiv (2 ^ (min b.toNat k.bits))
/- The tests of the formulas: of a kind that the kernel does not reckon. -/
noncomputable def ltI (a b : Int) : Bool := @decide (a < b) (Classical.propDecidable _)
noncomputable def leI (a b : Int) : Bool := @decide (a ≤ b) (Classical.propDecidable _)
noncomputable def eqI (a b : Int) : Bool := @decide (a = b) (Classical.propDecidable _)
noncomputable def strEq (a b : ByteArray) : Bool := @decide (a = b) (Classical.propDecidable _)
noncomputable def strLt (a b : ByteArray) : Bool := @decide (Op.bytesLess a.toList b.toList = true) (Classical.propDecidable _)
theorem ltI_eq (a b : Int) : ltI a b = decide (a < b) := by unfold ltI; congr
theorem leI_eq (a b : Int) : leI a b = decide (a ≤ b) := by unfold leI; congr
theorem eqI_eq (a b : Int) : eqI a b = decide (a = b) := by unfold eqI; congr
theorem strEq_eq (a b : ByteArray) : strEq a b = (a.toList == b.toList) := by
  rw [Bool.eq_iff_iff]
  simp only [strEq, decide_eq_true_eq, beq_iff_eq]
  constructor
  · rintro rfl; rfl
  · intro h
    rw [ByteArray.toList_eq, ByteArray.toList_eq] at h
    cases a; cases b
    simp at h
    rw [h]
theorem strLt_eq (a b : ByteArray) : strLt a b = Op.bytesLess a.toList b.toList := by
  rw [Bool.eq_iff_iff]; simp [strLt]
@[simp] theorem ltI_true {a b : Int} : (ltI a b = true) = (a < b) := by simp [ltI]
@[simp] theorem leI_true {a b : Int} : (leI a b = true) = (a ≤ b) := by simp [leI]
@[simp] theorem eqI_true {a b : Int} : (eqI a b = true) = (a = b) := by simp [eqI]
@[simp] theorem strEq_true {a b : ByteArray} : (strEq a b = true) = (a = b) := by simp [strEq]
@[simp] theorem ltI_false {a b : Int} : (ltI a b = false) = (b ≤ a) := by simp [ltI]
@[simp] theorem leI_false {a b : Int} : (leI a b = false) = (b < a) := by simp [leI]
@[simp] theorem eqI_false {a b : Int} : (eqI a b = false) = (a ≠ b) := by simp [eqI]
@[simp] theorem strEq_false {a b : ByteArray} : (strEq a b = false) = (a ≠ b) := by simp [strEq]
def maxI (a b : Int) : Int := if b > a then b else a
def minI (a b : Int) : Int := if b < a then b else a
def slAddr (a : Option Addr) (m l size : Nat) : Option Addr := if m = l then a else a.map (·.add (l * size))
def intVC (op : BinOp) (k : IntKind) (a b : Int) (K : Value → Prop) : Prop := match op with
  | .add => arVC k (a + b) K
  | .sub => arVC k (a - b) K
  | .mul => arVC k (a * b) K
  | .quo => b ≠ 0 ∧ arVC k (a.tdiv b) K
  | .rem => b ≠ 0 ∧ K (.int k (a.tmod b))
  | .and => K (.int k (bits .and k a b))
  | .or => K (.int k (bits .or k a b))
  | .xor => K (.int k (bits .xor k a b))
  | .andNot => K (.int k (bits .andNot k a b))
  | .eql => K (.bool (eqI a b))
  | .neq => K (.bool (!eqI a b))
  | .lss => K (.bool (ltI a b))
  | .leq => K (.bool (leI a b))
  | .gtr => K (.bool (ltI b a))
  | .geq => K (.bool (leI b a))
  | _ => False
def strVC (op : BinOp) (a b : ByteArray) (K : Value → Prop) : Prop := match op with
  | .add => a.size + b.size ≤ 9223372036854775807 ∧ K (.string (a ++ b))
  | .eql => K (.bool (strEq a b))
  | .neq => K (.bool (!strEq a b))
  | .lss => K (.bool (strLt a b))
  | .leq => K (.bool (strLt a b || strEq a b))
  | .gtr => K (.bool (!(strLt a b || strEq a b)))
  | .geq => K (.bool (!strLt a b))
  | _ => False
def isIntK : BinOp → Bool
  | .shl | .shr => false
  | _ => true
def nilVC (op : BinOp) (isNil : Bool) (K : Value → Prop) : Prop := match op with
  | .eql => K (.bool isNil)
  | .neq => K (.bool (!isNil))
  | _ => False
noncomputable def eqV (tt : List TI) (t : Nat) (x y : Value) : Option Bool := match x with
  | .bool a => match y with
    | .bool b => match tfind tt t with
      | some ti => match ti.und with
        | .bool => some (a == b)
        | _ => none
      | none => none
    | _ => none
  | .int k a => match y with
    | .int k' b => match decide (k = k') with
      | true => match tfind tt t with
        | some ti => match ti.und with
          | .int _ => some (eqI a b)
          | _ => none
        | none => none
      | false => none
    | _ => none
  | .string a => match y with
    | .string b => match tfind tt t with
      | some ti => match ti.und with
        | .string => some (strEq a b)
        | _ => none
      | none => none
    | _ => none
  | _ => none
noncomputable def eqFs (tt : List TI) (xs ys : List Value) : List Field → Option Bool
  | [] => some true
  | f :: r => match decide (f.name = "_") with
    | true => none
    | false => match xs[f.offset]? with
      | some a => match ys[f.offset]? with
        | some b => match eqV tt f.type a b with
          | some e => match eqFs tt xs ys r with
            | some e' => some (e && e')
            | none => none
          | none => none
        | none => none
      | none => none
noncomputable def aggVC (tt : List TI) (op : BinOp) (xt : TypeId) (xs ys : List Value) (K : Value → Prop) : Prop := match tfind tt xt with
  | some ti => match plainT tt ti.und with
    | true => match ti.und with
      | .struct fs => match eqFs tt xs ys fs.toList with
        | some e => match op with
          | .eql => K (.bool e)
          | .neq => K (.bool (!e))
          | _ => False
        | none => False
      | _ => False
    | false => False
  | none => False
def binVC (tt : List TI) (op : BinOp) (xt : TypeId) (x y : Value) (K : Value → Prop) : Prop := match x with
  | .int k a => match y with
    | .int k' b => match op with
      | .shl => 0 ≤ b ∧ K (.int k (shlI k a b))
      | .shr => 0 ≤ b ∧ K (.int k (shrI k a b))
      | op => match decide (k = k') with
        | true => intVC op k a b K
        | false => False
    | _ => False
  | .string a => match y with
    | .string b => strVC op a b K
    | _ => False
  | .bool a => match y with
    | .bool b => match tfind tt xt with
      | some ti => match ti.und with
        | .bool => match op with
          | .eql => K (.bool (a == b))
          | .neq => K (.bool (!(a == b)))
          | _ => False
        | _ => False
      | none => False
    | _ => False
  | .slice a _ _ => match y with
    | .slice b _ _ => match b with
      | none => match tfind tt xt with
        | some ti => match ti.und with
          | .slice _ => nilVC op a.isNone K
          | _ => False
        | none => False
      | some _ => False
    | _ => False
  | .map a => match y with
    | .map b => match b with
      | none => match tfind tt xt with
        | some ti => match ti.und with
          | .map _ _ => nilVC op a.isNone K
          | _ => False
        | none => False
      | some _ => False
    | _ => False
  | .pointer a => match y with
    | .pointer b => match b with
      | none => match tfind tt xt with
        | some ti => match ti.und with
          | .pointer _ => nilVC op a.isNone K
          | _ => False
        | none => False
      | some _ => False
    | _ => False
  | .agg xs => match y with
    | .agg ys => aggVC tt op xt xs.toList ys.toList K
    | _ => False
  | _ => False
def unVC (op : UnOp) (x : Value) (K : Value → Prop) : Prop := match x with
  | .int k n => match op with
    | .neg => arVC k (0 - n) K
    | .xor => K (.int k (bits .xor k (if k.signed then -1 else k.max) n))
    | _ => False
  | .bool b => match op with
    | .not => K (.bool (!b))
    | _ => False
  | _ => False
def convVC (tt : List TI) (s d : TypeId) (x : Value) (K : Value → Prop) : Prop := match tfind tt s with
  | some si => match tfind tt d with
    | some di => match x with
      | .int _ n => match di.und with
        | .int k => match si.und with
          | .int _ => arVC k n K
          | _ => False
        | _ => False
      | .string b => match di.und with
        | .string => match si.und with
          | .string => K (.string b)
          | _ => False
        | _ => False
      | _ => False
    | none => False
  | none => False
def tsize (tt : List TI) (t : TypeId) (K : Nat → Prop) : Prop := match tfind tt t with
  | some ti => K ti.size
  | none => False
def idxVC (tt : List TI) (t : TypeId) (x i : Value) (K : Value → Prop) : Prop := match i with
  | .int _ n => match tfind tt t with
    | some ti => match ti.und with
      | .slice e => match x with
        | .slice base len _ => tsize tt e fun sz => (0 ≤ n ∧ n < (len : Int)) ∧ derefP base fun ad => K (.pointer (some (ad.add (n.toNat * sz))))
        | _ => False
      | .array len e => match x with
        | .pointer base => tsize tt e fun sz => (0 ≤ n ∧ n < (len : Int)) ∧ derefP base fun ad => K (.pointer (some (ad.add (n.toNat * sz))))
        | _ => False
      | _ => False
    | none => False
  | _ => False
def isAggD : TypeDesc → Bool
  | .struct _ => true
  | .array _ _ => true
  | _ => false
def idxV (tt : List TI) (t : TypeId) (x i : Value) (K : Value → Prop) : Prop := match i with
  | .int _ n => match tfind tt t with
    | some ti => match ti.und with
      | .string => match x with
        | .string s => ∃ b : UInt8, (0 ≤ n ∧ s[n.toNat]? = some b) ∧ K (.int .u8 b.toNat)
        | _ => False
      | .array len e => match x with
        | .agg cs => match tfind tt e with
          | some ei => match isAggD ei.und with
            | false => match Nat.beq ei.size 1 with
              | true => match ei.sh with
                | .e (.one s) => ex1 s fun v => (0 ≤ n ∧ n < (len : Int)) ∧ cs[n.toNat]? = some v ∧ K v
                | _ => False
              | false => False
            | true => False
          | none => False
        | _ => False
      | _ => False
    | none => False
  | _ => False
def bndVC (v : Option (Option Value)) (dflt top : Nat) (K : Nat → Prop) : Prop := match v with
  | none => K dflt
  | some o => withV o fun v => match v with
    | .int _ n => (0 ≤ n ∧ n ≤ (top : Int)) ∧ K n.toNat
    | _ => False
def oev (fr : Env) : Option Operand → Option (Option Value)
  | none => none
  | some x => some (ev fr x)
def slcVC (tt : List TI) (t : TypeId) (x : Value) (lo hi mx : Option (Option Value)) (K : Value → Prop) : Prop := match tfind tt t with
  | some ti => match ti.und with
    | .slice e => match x with
      | .slice a len cap => tsize tt e fun sz =>
          bndVC mx cap cap fun m => bndVC hi len m fun h => bndVC lo 0 h fun l => K (.slice (slAddr a m l sz) (h - l) (m - l))
      | _ => False
    | .string => match x with
      | .string s => match mx with
        | none => bndVC hi s.size s.size fun h => bndVC lo 0 h fun l => K (.string (s.extract l h))
        | some _ => False
      | _ => False
    | .array n e => match x with
      | .pointer a => derefP a fun ad => tsize tt e fun sz =>
          bndVC mx n n fun m => bndVC hi n m fun h => bndVC lo 0 h fun l => K (.slice (slAddr (some ad) m l sz) (h - l) (m - l))
      | _ => False
    | _ => False
  | none => False
def lenVC (tt : List TI) (t : TypeId) (x : Value) (K : Value → Prop) : Prop := match tfind tt t with
  | some ti => match ti.und with
    | .slice _ => match x with
      | .slice _ n _ => K (.int .i64 (n : Int))
      | _ => False
    | .string => match x with
      | .string s => K (.int .i64 (s.size : Int))
      | _ => False
    | .array n _ => K (.int .i64 (n : Int))
    | _ => False
  | none => False
def capVC (tt : List TI) (t : TypeId) (x : Value) (K : Value → Prop) : Prop := match tfind tt t with
  | some ti => match ti.und with
    | .slice _ => match x with
      | .slice _ _ c => K (.int .i64 (c : Int))
      | _ => False
    | _ => False
  | none => False
def mmVC (f : Int → Int → Int) (l : List Value) (K : Value → Prop) : Prop := match l with
  | [x, y] => match x with
    | .int k a => match y with
      | .int k' b => match decide (k = k') with
        | true => K (.int k (f a b))
        | false => False
      | _ => False
    | _ => False
  | _ => False
def fieldVC (tt : List TI) (t : TypeId) (x : Value) (f : Nat) (K : Value → Prop) : Prop := match tfind tt t with
  | some ti => match ti.und with
    | .struct fs => match fs[f]? with
      | some fd => match x with
        | .agg cs => match tfind tt fd.type with
          | some fi => match isAggD fi.und with
            | true => K (.agg ⟨(cs.toList.drop fd.offset).take fi.size⟩)
            | false => withV (cs.toList[fd.offset]?) K
          | none => False
        | _ => False
      | none => False
    | _ => False
  | none => False
def fldAddrVC (tt : List TI) (t : TypeId) (x : Value) (f : Nat) (K : Value → Prop) : Prop := match tfind tt t with
  | some ti => match ti.und with
    | .struct fs => match fs[f]? with
      | some fd => match x with
        | .pointer a => tsize tt fd.type fun sz => match Nat.beq sz 0 with
          | true => False
          | false => derefP a fun ad => K (.pointer (some (ad.add fd.offset)))
        | _ => False
      | none => False
    | _ => False
  | none => False
def extVC (x : Value) (i : Nat) (K : Value → Prop) : Prop := match x with
  | .tuple vs => withV (vs.toList[i]?) K
  | _ => False
def s2apVC (tt : List TI) (t : TypeId) (x : Value) (K : Value → Prop) : Prop := match tfind tt t with
  | some ti => match ti.und with
    | .array n _ => match x with
      | .slice a len _ => n ≤ len ∧ K (.pointer a)
      | _ => False
    | _ => False
  | none => False
def nilCkVC (x : Value) (K : Value → Prop) : Prop := match x with
  | .pointer a => derefP a fun ad => K (.pointer (some ad))
  | .func f a c => match f with
    | .func f => K (.func (.func f) a c)
    | _ => False
  | .map r => K (.map r)
  | .slice a l c => K (.slice a l c)
  | _ => False
def mkIfVC (tt : List TI) (t : TypeId) (x : Value) (K : Value → Prop) : Prop := match tfind tt t with
  | some ti => match ti.und with
    | .interface _ => False
    | _ => K (.iface t x)
  | none => False
def pureVC (tt : List TI) (fr : Env) (o : Oper) (K : Value → Prop) : Prop := match o.op with
  | .move x => withV (ev fr x) K
  | .assign x => withV (ev fr x) K
  | .pick c a b => withV (ev fr c) fun v => match v with
    | .bool t => brB t fun t' => match t' with
      | true => withV (ev fr a) K
      | false => withV (ev fr b) K
    | _ => False
  | .binOp op t x y _ => withV (ev fr x) fun a => withV (ev fr y) fun b => binVC tt op t a b K
  | .unOp op _ x => withV (ev fr x) fun a => unVC op a K
  | .convert s d x => withV (ev fr x) fun a => convVC tt s d a K
  | .makeInterface t x => withV (ev fr x) fun a => mkIfVC tt t a K
  | .makeFunc f a c => withL (evL fr a.toList) fun as => withL (evL fr c.toList) fun cs => K (.func f ⟨as⟩ ⟨cs⟩)
  | .nilCheck x => withV (ev fr x) fun a => nilCkVC a K
  | .fieldAddr t x f => withV (ev fr x) fun a => fldAddrVC tt t a f K
  | .field t x f => withV (ev fr x) fun a => fieldVC tt t a f K
  | .indexAddr t x i => withV (ev fr x) fun a => withV (ev fr i) fun b => idxVC tt t a b K
  | .index t x i => withV (ev fr x) fun a => withV (ev fr i) fun b => idxV tt t a b K
  | .slice t x lo hi mx => withV (ev fr x) fun a => match hi with
    | none => match mx with
      | none => slcVC tt t a (oev fr lo) none none K
      | some _ => False
    | some h => slcVC tt t a (oev fr lo) (some (ev fr h)) (oev fr mx) K
  | .sliceToArrayPointer t x => withV (ev fr x) fun a => s2apVC tt t a K
  | .extract x i => withV (ev fr x) fun a => extVC a i K
  | .call c => match c.callee with
    | .builtin .len => withL (evL fr c.args.toList) fun l => match l with
      | [x] => match c.argTypes.toList with
        | t :: _ => lenVC tt t x K
        | [] => False
      | _ => False
    | .builtin .cap => withL (evL fr c.args.toList) fun l => match l with
      | [x] => match c.argTypes.toList with
        | t :: _ => capVC tt t x K
        | [] => False
      | _ => False
    | .builtin .max => withL (evL fr c.args.toList) fun l => mmVC maxI l K
    | .builtin .min => withL (evL fr c.args.toList) fun l => mmVC minI l K
    | _ => False
  | _ => False
end Go.Vc
/- The conditions of pure operations are sound, part 1. -/
set_option linter.unusedVariables false
namespace Go.Vc
open Go
section
variable {P : Program} {tt : List TI}
theorem TFact.run_und {i : Nat} {ti : TI} (h : TFact P i ti) (w : World) : (underlying i).run P w = .ok ti.und w := run_underlying h.und w
theorem TFact.run_info {i : Nat} {ti : TI} (h : TFact P i ti) : ∃ inf, (∀ w, (typeInfo i).run P w = .ok inf w) ∧ inf.size = ti.size ∧ inf.bytes = ti.bytes ∧ inf.zero = ti.zero := by
  obtain ⟨inf, h1, h2, h3, h4⟩ := h.inf
  exact ⟨inf, fun w => by simp [typeInfo, h1], h2, h3, h4⟩
theorem TFact.run_size {i : Nat} {ti : TI} (h : TFact P i ti) (w : World) : (sizeOf i).run P w = .ok ti.size w := by
  obtain ⟨inf, h1, h2, h3, h4⟩ := h.run_info
  simp [sizeOf, h1, h2]
theorem TFact.run_zero {i : Nat} {ti : TI} (h : TFact P i ti) {z : Value} (hz : ti.zero = some z) (w : World) : (zeroValue i).run P w = .ok z w := by
  obtain ⟨inf, h1, h2, h3, h4⟩ := h.run_info
  simp [zeroValue, h1, h4, hz]
theorem TFact.run_agg {i : Nat} {ti : TI} (h : TFact P i ti) (w : World) : (isAgg i).run P w = .ok (isAggD ti.und) w := by
  simp only [isAgg, Sem.run_bind, h.run_und, Result.andThen_ok]
  cases ti.und <;> rfl
def Yl (P : Program) (s : Sem Value) (K : Value → Prop) : Prop := ∃ v, (∀ w, s.run P w = .ok v w) ∧ K v
theorem intVC_sound {op : BinOp} {k : IntKind} {a b : Int} {xt : TypeId} {K : Value → Prop} (h : intVC op k a b K) : Yl P (binOp op xt (.int k a) (.int k b)) K := by
  cases op <;> simp only [intVC] at h
  case add => exact ⟨_, fun w => by simp [binOp, Op.intArith], arVC_use h⟩
  case sub => exact ⟨_, fun w => by simp [binOp, Op.intArith], arVC_use h⟩
  case mul => exact ⟨_, fun w => by simp [binOp, Op.intArith], arVC_use h⟩
  case quo => exact ⟨_, fun w => by simp [binOp, Op.intDiv, h.1], arVC_use h.2⟩
  case rem => exact ⟨_, fun w => by simp [binOp, Op.intDiv, h.1], h.2⟩
  case and => exact ⟨_, fun w => by simp [binOp, intBits_and], h⟩
  case or => exact ⟨_, fun w => by simp [binOp, intBits_or], h⟩
  case xor => exact ⟨_, fun w => by simp [binOp, intBits_xor], h⟩
  case andNot => exact ⟨_, fun w => by simp [binOp, intBits_andNot], h⟩
  case eql => exact ⟨_, fun w => by rw [binOp_eql, eqI_eq]; rfl, h⟩
  case neq => exact ⟨_, fun w => by rw [binOp_neq, eqI_eq]; rfl, h⟩
  case lss => exact ⟨_, fun w => by rw [binOp_lss, ltI_eq]; rfl, h⟩
  case leq => exact ⟨_, fun w => by rw [binOp_leq, leI_eq]; rfl, h⟩
  case gtr => exact ⟨_, fun w => by rw [binOp_gtr, ltI_eq]; rfl, h⟩
  case geq => exact ⟨_, fun w => by rw [binOp_geq, leI_eq]; rfl, h⟩
theorem strVC_sound {op : BinOp} {a b : ByteArray} {xt : TypeId} {K : Value → Prop} (h : strVC op a b K) : Yl P (binOp op xt (.string a) (.string b)) K := by
  cases op <;> simp only [strVC] at h
  case add =>
    refine ⟨_, fun w => ?_, h.2⟩
    have h1 := h.1
    rw [binOp_string_add]
    have e : ¬ (((a.size + b.size : Nat) : Int) > IntKind.i64.max) := by rw [IntKind.max_i64]; omega
    simp [Op.stringOp]
    omega
  case eql => exact ⟨_, fun w => by simp [binOp, Op.stringOp, strEq_eq], h⟩
  case neq => exact ⟨_, fun w => by simp [binOp, Op.stringOp, strEq_eq], h⟩
  case lss => exact ⟨_, fun w => by simp [binOp, Op.stringOp, strLt_eq], h⟩
  case leq => exact ⟨_, fun w => by simp [binOp, Op.stringOp, strLt_eq, strEq_eq], h⟩
  case gtr => exact ⟨_, fun w => by simp [binOp, Op.stringOp, strLt_eq, strEq_eq], h⟩
  case geq => exact ⟨_, fun w => by simp [binOp, Op.stringOp, strLt_eq], h⟩
theorem equal_bool {t : TypeId} (hu : P.underlying t = some .bool) (a b : Bool) (w : World) : (Op.equal t (.bool a) (.bool b)).run P w = .ok (a == b) w := by
  show (Op.equalIn (9999 + 1) t (.bool a) (.bool b)).run P w = _
  rw [Op.equalIn]; simp only [Sem.run_bind, run_underlying hu, Result.andThen_ok]; rfl
theorem equal_slice {t e : TypeId} (hu : P.underlying t = some (.slice e)) (a : Option Addr) (l c l' c' : Nat) (w : World) : (Op.equal t (.slice a l c) (.slice none l' c')).run P w = .ok a.isNone w := by
  show (Op.equalIn (9999 + 1) t (.slice a l c) (.slice none l' c')).run P w = _
  rw [Op.equalIn]; simp only [Sem.run_bind, run_underlying hu, Result.andThen_ok]; cases a <;> rfl
theorem equal_map {t k e : TypeId} (hu : P.underlying t = some (.map k e)) (a : Option Nat) (w : World) : (Op.equal t (.map a) (.map none)).run P w = .ok a.isNone w := by
  show (Op.equalIn (9999 + 1) t (.map a) (.map none)).run P w = _
  rw [Op.equalIn]; simp only [Sem.run_bind, run_underlying hu, Result.andThen_ok]; cases a <;> rfl
theorem equal_pointer {t e : TypeId} (hu : P.underlying t = some (.pointer e)) (a : Option Addr) (w : World) : (Op.equal t (.pointer a) (.pointer none)).run P w = .ok a.isNone w := by
  show (Op.equalIn (9999 + 1) t (.pointer a) (.pointer none)).run P w = _
  rw [Op.equalIn]; simp only [Sem.run_bind, run_underlying hu, Result.andThen_ok]; cases a <;> rfl
theorem run_eql (t : TypeId) (x y : Value) (b : Bool) (w : World) (hb : binOp .eql t x y = (do pure (.bool (← Op.equal t x y)))) (h : (Op.equal t x y).run P w = .ok b w) : (binOp .eql t x y).run P w = .ok (.bool b) w := by
  rw [hb]; simp [h]
theorem run_neq (t : TypeId) (x y : Value) (b : Bool) (w : World) (hb : binOp .neq t x y = (do pure (.bool (!(← Op.equal t x y))))) (h : (Op.equal t x y).run P w = .ok b w) : (binOp .neq t x y).run P w = .ok (.bool (!b)) w := by
  rw [hb]; simp [h]
theorem eqV_run (T : TOk P tt) (d : Nat) {t : TypeId} {x y : Value} {e : Bool} (h : eqV tt t x y = some e) (w : World) : (Op.equalIn (d + 1) t x y).run P w = .ok e w := by
  cases x <;> simp only [eqV] at h
  case bool a =>
    cases y <;> simp only at h
    case bool b =>
      cases hf : tfind tt t <;> simp only [hf] at h
      · cases h
      rename_i ti
      have F := T.fact hf
      cases hu : ti.und <;> simp only [hu] at h <;> cases h
      exact run_equalIn_bool' w d t a b (hu ▸ F.und)
    all_goals cases h
  case int k a =>
    cases y <;> simp only at h
    case int k' b =>
      by_cases hk : k = k'
      · simp only [decide_eq_true hk] at h
        cases hf : tfind tt t <;> simp only [hf] at h
        · cases h
        rename_i ti
        have F := T.fact hf
        cases hu : ti.und <;> simp only [hu] at h <;> cases h
        rw [← hk, run_equalIn_int w d t k _ a b (hu ▸ F.und)]
        congr 1
        rw [eqI_eq]
        rfl
      · simp only [decide_eq_false hk] at h
        cases h
    all_goals cases h
  case string a =>
    cases y <;> simp only at h
    case string b =>
      cases hf : tfind tt t <;> simp only [hf] at h
      · cases h
      rename_i ti
      have F := T.fact hf
      cases hu : ti.und <;> simp only [hu] at h <;> cases h
      rw [run_equalIn_string w d t a b (hu ▸ F.und)]
      congr 1
      rw [strEq_eq]
    all_goals cases h
  all_goals cases h
theorem eqV_plain {t : TypeId} {x y : Value} {e : Bool} (h : eqV tt t x y = some e) : ∃ ti, tfind tt t = some ti ∧ isAggD ti.und = false := by
  cases hf : tfind tt t with
  | none => cases x <;> cases y <;> first | (simp [eqV, hf] at h; done) | (simp [eqV, hf] at h; split at h <;> cases h)
  | some ti =>
    refine ⟨ti, rfl, ?_⟩
    cases hu : ti.und <;> first | rfl | (cases x <;> cases y <;> first | (simp [eqV, hf, hu] at h; done) | (simp [eqV, hf, hu] at h; split at h <;> cases h))
theorem eqFs_run (T : TOk P tt) (d : Nat) {xs ys : Array Value} : ∀ {fs : List Field} {e : Bool}, eqFs tt xs.toList ys.toList fs = some e → ∀ w, (Op.eqFields (d + 1) xs ys fs).run P w = .ok e w
  | [], e, h, w => by
    cases h
    simp [Op.eqFields]
  | f :: r, e, h, w => by
    unfold eqFs at h
    by_cases hn : f.name = "_"
    · simp only [decide_eq_true hn] at h; cases h
    simp only [decide_eq_false hn] at h
    cases hx : xs.toList[f.offset]? <;> simp only [hx] at h
    · cases h
    rename_i a
    cases hy : ys.toList[f.offset]? <;> simp only [hy] at h
    · cases h
    rename_i b
    cases he : eqV tt f.type a b <;> simp only [he] at h
    · cases h
    rename_i e1
    cases hr : eqFs tt xs.toList ys.toList r <;> simp only [hr] at h
    · cases h
    rename_i e2
    cases h
    obtain ⟨ti, hf, ha⟩ := eqV_plain he
    have F := T.fact hf
    have hx' : xs[f.offset]? = some a := by simpa using hx
    have hy' : ys[f.offset]? = some b := by simpa using hy
    have ih := eqFs_run T d hr w
    have h1 := eqV_run T d he w
    unfold Op.eqFields
    rw [if_pos hn]
    simp only [Sem.run_bind, part, F.run_agg, ha, Result.andThen_ok, Bool.false_eq_true, if_false, hx', hy', Sem.run_pure, h1]
    cases e1
    · simp
    · simp [ih]
theorem agg_guard (T : TOk P tt) {op : BinOp} {xt : TypeId} {ox oy : Operand} {xs ys : Array Value} (hg : P.eqGuardType P.depth xt = false) (w : World) : (eqGuard op xt ox oy (.agg xs) (.agg ys)).run P w = .ok () w := by
  cases op <;> simp [eqGuard, hg]
theorem agg_equal (T : TOk P tt) {xt : TypeId} {xs ys : Array Value} {ti : TI} (hf : tfind tt xt = some ti) (hp : plainT tt ti.und = true) {fs : Array Field} (hu : ti.und = .struct fs) {e : Bool} (he : eqFs tt xs.toList ys.toList fs.toList = some e) (w : World) :
    (Op.equal xt (.agg xs) (.agg ys)).run P w = .ok e w := by
  have hund : P.underlying xt = some (.struct fs) := hu ▸ (T.fact hf).und
  have hfo : P.fieldsOf xt = fs := by unfold Program.fieldsOf; rw [hund]
  show (Op.equalIn (9999 + 1) xt (.agg xs) (.agg ys)).run P w = _
  rw [run_equalIn_struct w 9999 xt xs ys (by rw [hfo]; exact hund) (T.plain hf hp).1, hfo]
  exact eqFs_run T 9998 he w
theorem binVC_sound (T : TOk P tt) {op : BinOp} {xt : TypeId} {ox oy : Operand} {x y : Value} {K : Value → Prop} (h : binVC tt op xt x y K) :
    Yl P (do eqGuard op xt ox oy x y; binOp op xt x y) K := by
  cases x <;> simp only [binVC] at h
  case int k a =>
    cases y <;> simp only at h
    case int k' b =>
      have e : eqGuard op xt ox oy (.int k a) (.int k' b) = pure () := eqGuard_at_int _ _ _ _ _ _ _
      rw [e]
      by_cases hs : isIntK op = true
      · have h' : k = k' ∧ intVC op k a b K := by
          by_cases hk : k = k'
          · cases op <;> first | (simp only [decide_eq_true hk] at h; exact ⟨hk, h⟩) | (simp [isIntK] at hs)
          · cases op <;> first | (simp [isIntK] at hs; done) | (simp only [decide_eq_false hk] at h)
        obtain ⟨rfl, h'⟩ := h'
        obtain ⟨v, h1, h2⟩ := intVC_sound (P := P) (xt := xt) h'
        exact ⟨v, fun w => by simp [h1], h2⟩
      · cases op <;> simp [isIntK] at hs
        · obtain ⟨h0, h1⟩ := h
          exact ⟨_, fun w => by simp [binOp, Op.shift, Int.not_lt.2 h0, shlI], h1⟩
        · obtain ⟨h0, h1⟩ := h
          exact ⟨_, fun w => by simp [binOp, Op.shift, Int.not_lt.2 h0, shrI], h1⟩
  case string a =>
    cases y <;> simp only at h
    case string b =>
      have e : eqGuard op xt ox oy (.string a) (.string b) = pure () := eqGuard_at_string _ _ _ _ _ _
      rw [e]
      obtain ⟨v, h1, h2⟩ := strVC_sound (P := P) (xt := xt) h
      exact ⟨v, fun w => by simp [h1], h2⟩
  case bool a =>
    cases y <;> simp only at h
    case bool b =>
      have e : eqGuard op xt ox oy (.bool a) (.bool b) = pure () := eqGuard_at_bool _ _ _ _ _ _
      rw [e]
      cases hf : tfind tt xt <;> simp only [hf] at h
      rename_i ti
      have F := T.fact hf
      cases hu : ti.und <;> simp only [hu] at h
      cases op <;> simp only at h
      · exact ⟨_, fun w => by simp [run_eql xt _ _ _ w rfl (equal_bool (hu ▸ F.und) a b w)], h⟩
      · exact ⟨_, fun w => by simp [run_neq xt _ _ _ w rfl (equal_bool (hu ▸ F.und) a b w)], h⟩
  case slice a l c =>
    cases y <;> simp only at h
    case slice b l' c' =>
      cases b <;> simp only at h
      have e : eqGuard op xt ox oy (.slice a l c) (.slice none l' c') = pure () := eqGuard_at_slice _ _ _ _ _ _ _ _
      rw [e]
      cases hf : tfind tt xt <;> simp only [hf] at h
      rename_i ti
      have F := T.fact hf
      cases hu : ti.und <;> simp only [hu] at h
      cases op <;> simp only [nilVC] at h
      · exact ⟨_, fun w => by simp [run_eql xt _ _ _ w rfl (equal_slice (hu ▸ F.und) _ _ _ _ _ w)], h⟩
      · exact ⟨_, fun w => by simp [run_neq xt _ _ _ w rfl (equal_slice (hu ▸ F.und) _ _ _ _ _ w)], h⟩
  case map a =>
    cases y <;> simp only at h
    case map b =>
      cases b <;> simp only at h
      have e : eqGuard op xt ox oy (.map a) (.map none) = pure () := eqGuard_at_map _ _ _ _ _ _
      rw [e]
      cases hf : tfind tt xt <;> simp only [hf] at h
      rename_i ti
      have F := T.fact hf
      cases hu : ti.und <;> simp only [hu] at h
      cases op <;> simp only [nilVC] at h
      · exact ⟨_, fun w => by simp [run_eql xt _ _ _ w rfl (equal_map (hu ▸ F.und) _ w)], h⟩
      · exact ⟨_, fun w => by simp [run_neq xt _ _ _ w rfl (equal_map (hu ▸ F.und) _ w)], h⟩
  case pointer a =>
    cases y <;> simp only at h
    case pointer b =>
      cases b <;> simp only at h
      have e : eqGuard op xt ox oy (.pointer a) (.pointer none) = pure () := eqGuard_at_pointer _ _ _ _ _ _
      rw [e]
      cases hf : tfind tt xt <;> simp only [hf] at h
      rename_i ti
      have F := T.fact hf
      cases hu : ti.und <;> simp only [hu] at h
      cases op <;> simp only [nilVC] at h
      · exact ⟨_, fun w => by simp [run_eql xt _ _ _ w rfl (equal_pointer (hu ▸ F.und) _ w)], h⟩
      · exact ⟨_, fun w => by simp [run_neq xt _ _ _ w rfl (equal_pointer (hu ▸ F.und) _ w)], h⟩
  case agg xs =>
    cases y <;> simp only at h
    case agg ys =>
      unfold aggVC at h
      cases hf : tfind tt xt <;> simp only [hf] at h
      rename_i ti
      cases hp : plainT tt ti.und <;> simp only [hp] at h
      cases hu : ti.und <;> simp only [hu] at h
      rename_i fs
      cases he : eqFs tt xs.toList ys.toList fs.toList <;> simp only [he] at h
      rename_i e
      have hg := fun w => agg_guard (P := P) T (op := op) (xt := xt) (ox := ox) (oy := oy) (xs := xs) (ys := ys) (T.plain hf hp).2 w
      have hq := fun w => agg_equal T hf hp hu he w
      cases op <;> simp only at h
      · exact ⟨_, fun w => by simp [hg w, run_eql xt _ _ _ w rfl (hq w)], h⟩
      · exact ⟨_, fun w => by simp [hg w, run_neq xt _ _ _ w rfl (hq w)], h⟩
theorem unVC_sound {op : UnOp} {x : Value} {K : Value → Prop} (h : unVC op x K) : Yl P (Op.unary op x) K := by
  cases x <;> simp only [unVC] at h
  case int k n =>
    cases op <;> simp only at h
    · exact ⟨_, fun w => by simp [Op.unary, Op.intArith], arVC_use h⟩
    · exact ⟨_, fun w => by simp [Op.unary, intBits_xor], h⟩
  case bool b =>
    cases op <;> simp only at h
    exact ⟨_, fun w => by simp [Op.unary], h⟩
theorem convVC_sound (T : TOk P tt) {s d : TypeId} {x : Value} {K : Value → Prop} (h : convVC tt s d x K) : Yl P (convert s d x) K := by
  unfold convVC at h
  cases hs : tfind tt s <;> simp only [hs] at h
  cases hd : tfind tt d <;> simp only [hd] at h
  rename_i si di
  have Fs := T.fact hs
  have Fd := T.fact hd
  cases x <;> simp only at h
  case int k n =>
    cases hu : di.und <;> simp only [hu] at h
    cases hv : si.und <;> simp only [hv] at h
    exact ⟨_, fun w => by simp [convert, Fs.run_und, Fd.run_und, hu, Conv.intToInt], arVC_use h⟩
  case string b =>
    cases hu : di.und <;> simp only [hu] at h
    cases hv : si.und <;> simp only [hv] at h
    exact ⟨_, fun w => by simp [convert, Fs.run_und, Fd.run_und, hu], h⟩
theorem tsize_use (T : TOk P tt) {t : TypeId} {K : Nat → Prop} (h : tsize tt t K) : ∃ n, (∀ w, (sizeOf t).run P w = .ok n w) ∧ K n := by
  unfold tsize at h
  cases hs : tfind tt t <;> simp only [hs] at h
  exact ⟨_, (T.fact hs).run_size, h⟩
theorem idxVC_sound (T : TOk P tt) {t : TypeId} {x i : Value} {K : Value → Prop} (h : idxVC tt t x i K) : Yl P (Instr.indexAt t x i) K := by
  cases i <;> simp only [idxVC] at h
  rename_i k n
  cases hs : tfind tt t <;> simp only [hs] at h
  rename_i ti
  have F := T.fact hs
  cases hu : ti.und <;> simp only [hu] at h
  case slice e =>
    cases x <;> simp only at h
    obtain ⟨sz, h1, h2, h3⟩ := tsize_use T h
    obtain ⟨ad, rfl, h4⟩ := derefP_some h3
    exact ⟨_, fun w => by simp [Instr.indexAt, asIntOf, F.run_und, hu, h2, h1], h4⟩
  case array len e =>
    cases x <;> simp only at h
    obtain ⟨sz, h1, h2, h3⟩ := tsize_use T h
    obtain ⟨ad, rfl, h4⟩ := derefP_some h3
    exact ⟨_, fun w => by simp [Instr.indexAt, asIntOf, Instr.sureAddr, F.run_und, hu, h2, h1], h4⟩
theorem idxV_sound (T : TOk P tt) {t : TypeId} {x i : Value} {K : Value → Prop} (h : idxV tt t x i K) : Yl P (Instr.index t x i) K := by
  cases i <;> simp only [idxV] at h
  rename_i k n
  cases hs : tfind tt t <;> simp only [hs] at h
  rename_i ti
  have F := T.fact hs
  cases hu : ti.und <;> simp only [hu] at h
  case string =>
    cases x <;> simp only at h
    obtain ⟨b, ⟨h0, h1⟩, h2⟩ := h
    exact ⟨_, fun w => by simp [Instr.index, asIntOf, F.run_und, hu, h0, h1], h2⟩
  case array len e =>
    cases x <;> simp only at h
    cases he : tfind tt e <;> simp only [he] at h
    rename_i ei
    have G := T.fact he
    cases ha : isAggD ei.und <;> simp only [ha] at h
    cases hz : Nat.beq ei.size 1 <;> simp only [hz] at h
    have hz' : ei.size = 1 := Nat.eq_of_beq_eq_true hz
    cases hsh : ei.sh <;> simp only [hsh] at h
    rename_i se
    cases se <;> simp only at h
    obtain ⟨v, h0, h1, h2⟩ := ex1_some h
    exact ⟨v, fun w => by simp [Instr.index, asIntOf, F.run_und, hu, h0, part, G.run_size, G.run_agg, ha, hz', h1], h2⟩
end
end Go.Vc
/- The conditions of pure operations are sound, part 2. -/
set_option linter.unusedVariables false
namespace Go.Vc
open Go
section
variable {P : Program} {tt : List TI}
theorem bnd_use {v : Option (Option Value)} {d top : Nat} {K : Nat → Prop} (h : bndVC v d top K) :
    ∃ n, K n ∧ ((v = none ∧ n = d) ∨ ∃ x, v = some (some x) ∧ ∀ (code : BoundsCode) (w : World), (Instr.sliceBound x top code).run P w = .ok n w) := by
  cases v with
  | none => exact ⟨d, h, .inl ⟨rfl, rfl⟩⟩
  | some o =>
    obtain ⟨x, rfl, hx⟩ := withV_some h
    cases x <;> simp only at hx
    rename_i k n
    exact ⟨_, hx.2, .inr ⟨_, rfl, fun code w => run_sliceBound w k n top code hx.1.1 hx.1.2⟩⟩
theorem oev_map {n : Nat} {fr : Env} {a : Act} (h : Agree n fr a) {x : Option Operand} {v : Value} (hx : oev fr x = some (some v)) : x.map a.eval = some v := by
  cases x with
  | none => simp [oev] at hx
  | some x => simp only [oev, Option.some.injEq] at hx; simp [h.ev hx]
theorem oev_none {fr : Env} {a : Act} {x : Option Operand} (hx : oev fr x = none) : x.map a.eval = none := by
  cases x with
  | none => rfl
  | some x => simp [oev] at hx
theorem bounds_run {isS : Bool} {len cap : Nat} {lo hi mx : Option Value} {l h m : Nat}
    (hm : (mx = none ∧ m = cap) ∨ ∃ x, mx = some x ∧ ∀ (code : BoundsCode) (w : World), (Instr.sliceBound x cap code).run P w = .ok m w)
    (hh : (hi = none ∧ h = len ∧ mx = none) ∨ ∃ x, hi = some x ∧ ∀ (code : BoundsCode) (w : World), (Instr.sliceBound x m code).run P w = .ok h w)
    (hl : (lo = none ∧ l = 0) ∨ ∃ x, lo = some x ∧ ∀ (code : BoundsCode) (w : World), (Instr.sliceBound x h code).run P w = .ok l w) (w : World) :
    (Instr.sliceBounds isS len cap lo hi mx).run P w = .ok (l, h, m) w := by
  unfold Instr.sliceBounds
  rcases hm with ⟨rfl, rfl⟩ | ⟨x, rfl, hm⟩
  · rcases hh with ⟨rfl, rfl, _⟩ | ⟨y, rfl, hh⟩
    · rcases hl with ⟨rfl, rfl⟩ | ⟨z, rfl, hl⟩ <;> simp [*]
    · rcases hl with ⟨rfl, rfl⟩ | ⟨z, rfl, hl⟩ <;> simp [*]
  · rcases hh with ⟨_, _, h3⟩ | ⟨y, rfl, hh⟩
    · cases h3
    · rcases hl with ⟨rfl, rfl⟩ | ⟨z, rfl, hl⟩ <;> simp [*]
theorem bnd3 {n : Nat} {fr : Env} {a : Act} (hA : Agree n fr a) {lo hi mx : Option Operand} {len cap : Nat} {K : Nat → Nat → Nat → Prop} (hnone : oev fr hi = none → oev fr mx = none)
    (h : bndVC (oev fr mx) cap cap fun m => bndVC (oev fr hi) len m fun h => bndVC (oev fr lo) 0 h fun l => K l h m) :
    ∃ l h m, K l h m ∧ ∀ (isS : Bool) (w : World), (Instr.sliceBounds isS len cap (lo.map a.eval) (hi.map a.eval) (mx.map a.eval)).run P w = .ok (l, h, m) w := by
  obtain ⟨m, h1, hm⟩ := bnd_use (P := P) h
  obtain ⟨hh, h2, hhi⟩ := bnd_use (P := P) h1
  obtain ⟨l, h3, hlo⟩ := bnd_use (P := P) h2
  refine ⟨l, hh, m, h3, fun isS w => bounds_run ?_ ?_ ?_ w⟩
  · rcases hm with ⟨e, rfl⟩ | ⟨x, e, hx⟩
    · exact .inl ⟨oev_none e, rfl⟩
    · exact .inr ⟨x, oev_map hA e, hx⟩
  · rcases hhi with ⟨e, rfl⟩ | ⟨x, e, hx⟩
    · exact .inl ⟨oev_none e, rfl, oev_none (hnone e)⟩
    · exact .inr ⟨x, oev_map hA e, hx⟩
  · rcases hlo with ⟨e, rfl⟩ | ⟨x, e, hx⟩
    · exact .inl ⟨oev_none e, rfl⟩
    · exact .inr ⟨x, oev_map hA e, hx⟩
theorem slcVC_sound (T : TOk P tt) {n : Nat} {fr : Env} {a : Act} (hA : Agree n fr a) {t : TypeId} {x : Value} {lo hi mx : Option Operand} {K : Value → Prop} (hnone : oev fr hi = none → oev fr mx = none)
    (h : slcVC tt t x (oev fr lo) (oev fr hi) (oev fr mx) K) : Yl P (Instr.sliceAt t x (lo.map a.eval) (hi.map a.eval) (mx.map a.eval)) K := by
  unfold slcVC at h
  cases hs : tfind tt t <;> simp only [hs] at h
  rename_i ti
  have F := T.fact hs
  cases hu : ti.und <;> simp only [hu] at h
  case slice e =>
    cases x <;> simp only at h
    obtain ⟨sz, h1, h⟩ := tsize_use T h
    obtain ⟨l, hh, m, hK, hb⟩ := bnd3 (P := P) hA hnone h
    exact ⟨_, fun w => by simp [Instr.sliceAt, Instr.slice, F.run_und, hu, hb, h1, slAddr], hK⟩
  case string =>
    cases x <;> simp only at h
    cases hm : oev fr mx <;> simp only [hm] at h
    rename_i s
    have h' : bndVC (oev fr mx) s.size s.size fun m => bndVC (oev fr hi) s.size m fun h => bndVC (oev fr lo) 0 h fun l => K (.string (s.extract l h)) := by
      rw [hm]; exact h
    obtain ⟨l, hh, m, hK, hb⟩ := bnd3 (P := P) hA hnone h'
    have e0 : mx.map a.eval = none := oev_none hm
    rw [e0] at hb ⊢
    exact ⟨_, fun w => by simp [Instr.sliceAt, Instr.slice, F.run_und, hu, hb], hK⟩
  case array k e =>
    cases x <;> simp only at h
    obtain ⟨ad, rfl, hq⟩ := derefP_some h
    clear h
    obtain ⟨sz, h1, h⟩ := tsize_use T hq
    obtain ⟨l, hh, m, hK, hb⟩ := bnd3 (P := P) hA hnone h
    refine ⟨_, fun w => ?_, hK⟩
    simp only [Instr.sliceAt, Sem.run_bind, F.run_und, hu, Result.andThen_ok, Instr.sureAddr, Sem.run_pure, hb, h1]
    unfold slAddr
    split <;> rfl
theorem lenVC_sound (T : TOk P tt) {t : TypeId} {ts : List TypeId} {x : Value} {ty : TypeId} {K : Value → Prop} (h : lenVC tt t x K) :
    Yl P (Builtin.len_ ⟨t :: ts⟩ ty ⟨[x]⟩) K := by
  unfold lenVC at h
  cases hs : tfind tt t <;> simp only [hs] at h
  rename_i ti
  have F := T.fact hs
  cases hu : ti.und <;> simp only [hu] at h
  case slice e =>
    cases x <;> simp only at h
    exact ⟨_, fun w => by simp [Builtin.len_, F.run_und, hu, goInt], h⟩
  case string =>
    cases x <;> simp only at h
    exact ⟨_, fun w => by simp [Builtin.len_, F.run_und, hu, goInt], h⟩
  case array k e =>
    exact ⟨_, fun w => by simp [Builtin.len_, F.run_und, hu, goInt], h⟩
theorem capVC_sound (T : TOk P tt) {t : TypeId} {ts : List TypeId} {x : Value} {ty : TypeId} {K : Value → Prop} (h : capVC tt t x K) :
    Yl P (Builtin.cap_ ⟨t :: ts⟩ ty ⟨[x]⟩) K := by
  unfold capVC at h
  cases hs : tfind tt t <;> simp only [hs] at h
  rename_i ti
  have F := T.fact hs
  cases hu : ti.und <;> simp only [hu] at h
  case slice e =>
    cases x <;> simp only at h
    exact ⟨_, fun w => by simp [Builtin.cap_, F.run_und, hu, goInt], h⟩
theorem max_sound {l : List Value} {ts : Array TypeId} {ty : TypeId} {K : Value → Prop} (h : mmVC maxI l K) : Yl P (Builtin.max_ ts ty ⟨l⟩) K := by
  unfold mmVC at h
  split at h
  · rename_i x y
    cases x <;> simp only at h
    cases y <;> simp only at h
    rename_i k a k' b
    by_cases hk : k = k'
    · simp only [decide_eq_true hk] at h
      exact ⟨_, fun w => by simp [Builtin.max_, Builtin.max2, maxI], h⟩
    · simp only [decide_eq_false hk] at h
  · exact h.elim
theorem min_sound {l : List Value} {ts : Array TypeId} {ty : TypeId} {K : Value → Prop} (h : mmVC minI l K) : Yl P (Builtin.min_ ts ty ⟨l⟩) K := by
  unfold mmVC at h
  split at h
  · rename_i x y
    cases x <;> simp only at h
    cases y <;> simp only at h
    rename_i k a k' b
    by_cases hk : k = k'
    · simp only [decide_eq_true hk] at h
      exact ⟨_, fun w => by simp [Builtin.min_, Builtin.min2, minI], h⟩
    · simp only [decide_eq_false hk] at h
  · exact h.elim
theorem fieldVC_sound (T : TOk P tt) {t : TypeId} {x : Value} {f : Nat} {K : Value → Prop} (h : fieldVC tt t x f K) : Yl P (Instr.field t x f) K := by
  unfold fieldVC at h
  cases hs : tfind tt t <;> simp only [hs] at h
  rename_i ti
  have F := T.fact hs
  cases hu : ti.und <;> simp only [hu] at h
  rename_i fs
  cases hf : fs[f]? <;> simp only [hf] at h
  rename_i fd
  cases x <;> simp only at h
  rename_i cs
  cases he : tfind tt fd.type <;> simp only [he] at h
  rename_i fi
  have G := T.fact he
  cases ha : isAggD fi.und <;> simp only [ha] at h
  · obtain ⟨v, hv, hK⟩ := withV_some h
    have hv' : cs[fd.offset]? = some v := by rw [← Array.getElem?_toList]; exact hv
    exact ⟨v, fun w => by simp [Instr.field, F.run_und, hu, hf, part, G.run_agg, ha, asAgg, hv'], hK⟩
  · refine ⟨_, fun w => ?_, h⟩
    have e : cs.extract fd.offset (fd.offset + fi.size) = ⟨(cs.toList.drop fd.offset).take fi.size⟩ := by
      apply Array.ext'
      simp [List.extract_eq_take_drop]
    simp [Instr.field, F.run_und, hu, hf, part, G.run_agg, ha, asAgg, G.run_size, e]
theorem fldAddrVC_sound (T : TOk P tt) {t : TypeId} {x : Value} {f : Nat} {K : Value → Prop} (h : fldAddrVC tt t x f K) : Yl P (Instr.fieldAt t x f) K := by
  unfold fldAddrVC at h
  cases hs : tfind tt t <;> simp only [hs] at h
  rename_i ti
  have F := T.fact hs
  cases hu : ti.und <;> simp only [hu] at h
  rename_i fs
  cases hf : fs[f]? <;> simp only [hf] at h
  rename_i fd
  cases x <;> simp only at h
  obtain ⟨sz, h1, h⟩ := tsize_use T h
  cases hz : Nat.beq sz 0 <;> simp only [hz] at h
  have hz' : sz ≠ 0 := Nat.ne_of_beq_eq_false hz
  obtain ⟨ad, rfl, hK⟩ := derefP_some h
  exact ⟨_, fun w => by simp [Instr.fieldAt, F.run_und, hu, hf, Instr.sureAddr, fieldPlace, h1, hz'], hK⟩
theorem extVC_sound {x : Value} {i : Nat} {K : Value → Prop} (h : extVC x i K) : Yl P (Instr.extract x i) K := by
  unfold extVC at h
  cases x <;> simp only at h
  obtain ⟨v, hv, hK⟩ := withV_some h
  rename_i vs
  have hv' : vs[i]? = some v := by rw [← Array.getElem?_toList]; exact hv
  exact ⟨v, fun w => by simp [Instr.extract, hv'], hK⟩
theorem s2apVC_sound (T : TOk P tt) {t : TypeId} {x : Value} {K : Value → Prop} (h : s2apVC tt t x K) : Yl P (Instr.arrayAt t x) K := by
  unfold s2apVC at h
  cases hs : tfind tt t <;> simp only [hs] at h
  rename_i ti
  have F := T.fact hs
  cases hu : ti.und <;> simp only [hu] at h
  cases x <;> simp only at h
  exact ⟨_, fun w => by simp [Instr.arrayAt, F.run_und, hu, Nat.not_lt.2 h.1], h.2⟩
theorem mkIfVC_sound (T : TOk P tt) {t : TypeId} {x : Value} {K : Value → Prop} (h : mkIfVC tt t x K) : Yl P (Instr.makeInterface t x) K := by
  unfold mkIfVC at h
  cases hs : tfind tt t <;> simp only [hs] at h
  rename_i ti
  have F := T.fact hs
  cases hu : ti.und <;> simp only [hu] at h
  all_goals exact ⟨_, fun w => by simp [Instr.makeInterface, F.run_und, hu], h⟩
end
end Go.Vc
/- The conditions of pure operations are sound, part 3. -/
set_option linter.unusedVariables false
namespace Go.Vc
open Go
section
variable {P : Program} {tt : List TI}
def YlOp (P : Program) (s : Sem Next) (K : Value → Prop) : Prop := ∃ v, (∀ w, s.run P w = .ok (.value v) w) ∧ K v
theorem Yl.op {s : Sem Value} {K : Value → Prop} (h : Yl P s K) : YlOp P (do pure (.value (← s))) K := by
  obtain ⟨v, h1, h2⟩ := h
  exact ⟨v, fun w => by simp [h1], h2⟩
theorem evL_arr {n : Nat} {fr : Env} {a : Act} (hA : Agree n fr a) {l : Array Operand} {vs : List Value} (h : evL fr l.toList = some vs) : l.map a.eval = ⟨vs⟩ := by
  apply Array.ext'
  simpa using hA.evL h
theorem pure_sound (T : TOk P tt) {n : Nat} {fr : Env} {a : Act} (hA : Agree n fr a) {o : Oper} {K : Value → Prop} (h : pureVC tt fr o K) :
    YlOp P (execOp a.eval o) K := by
  obtain ⟨dst, op, type, pos, after, guard⟩ := o
  cases op <;> simp only [pureVC] at h
  case move x => obtain ⟨v, hv, hK⟩ := withV_some h; exact ⟨v, fun w => by simp [execOp, hA.ev hv], hK⟩
  case assign x => obtain ⟨v, hv, hK⟩ := withV_some h; exact ⟨v, fun w => by simp [execOp, hA.ev hv], hK⟩
  case pick c x y =>
    obtain ⟨v, hv, hK⟩ := withV_some h
    cases v <;> simp only at hK
    rename_i t
    have hK := brB_use hK
    cases t <;> simp only at hK
    · obtain ⟨u, hu, hK⟩ := withV_some hK; exact ⟨u, fun w => by simp [execOp, hA.ev hv, hA.ev hu, asBool], hK⟩
    · obtain ⟨u, hu, hK⟩ := withV_some hK; exact ⟨u, fun w => by simp [execOp, hA.ev hv, hA.ev hu, asBool], hK⟩
  case binOp op t x y yt =>
    obtain ⟨v, hv, h⟩ := withV_some h
    obtain ⟨u, hu, h⟩ := withV_some h
    have := (binVC_sound (P := P) T (ox := x) (oy := y) h).op
    simp only [execOp, hA.ev hv, hA.ev hu]
    exact this
  case unOp op t x =>
    obtain ⟨v, hv, h⟩ := withV_some h
    have := (unVC_sound (P := P) h).op
    simp only [execOp, hA.ev hv]; exact this
  case convert s d x =>
    obtain ⟨v, hv, h⟩ := withV_some h
    have := (convVC_sound (P := P) T h).op
    simp only [execOp, hA.ev hv]; exact this
  case makeInterface t x =>
    obtain ⟨v, hv, h⟩ := withV_some h
    have := (mkIfVC_sound (P := P) T h).op
    simp only [execOp, hA.ev hv]; exact this
  case makeFunc f x c =>
    obtain ⟨v, hv, h⟩ := withL_some h
    obtain ⟨u, hu, h⟩ := withL_some h
    refine ⟨_, fun w => ?_, h⟩
    simp [execOp, Instr.makeFunc, evL_arr hA hv, evL_arr hA hu]
  case nilCheck x =>
    obtain ⟨v, hv, h⟩ := withV_some h
    cases v <;> simp only [nilCkVC] at h
    case pointer b =>
      obtain ⟨ad, rfl, h⟩ := derefP_some h
      exact ⟨_, fun w => by simp [execOp, hA.ev hv], h⟩
    case func f b c =>
      cases f <;> simp only at h
      exact ⟨_, fun w => by simp [execOp, hA.ev hv], h⟩
    case map r => exact ⟨_, fun w => by simp [execOp, hA.ev hv], h⟩
    case slice => exact ⟨_, fun w => by simp [execOp, hA.ev hv], h⟩
  case fieldAddr t x f =>
    obtain ⟨v, hv, h⟩ := withV_some h
    have := (fldAddrVC_sound (P := P) T h).op
    simp only [execOp, hA.ev hv]; exact this
  case field t x f =>
    obtain ⟨v, hv, h⟩ := withV_some h
    have := (fieldVC_sound (P := P) T h).op
    simp only [execOp, hA.ev hv]; exact this
  case indexAddr t x i =>
    obtain ⟨v, hv, h⟩ := withV_some h
    obtain ⟨u, hu, h⟩ := withV_some h
    have := (idxVC_sound (P := P) T h).op
    simp only [execOp, hA.ev hv, hA.ev hu]; exact this
  case index t x i =>
    obtain ⟨v, hv, h⟩ := withV_some h
    obtain ⟨u, hu, h⟩ := withV_some h
    have := (idxV_sound (P := P) T h).op
    simp only [execOp, hA.ev hv, hA.ev hu]; exact this
  case slice t x lo hi mx =>
    obtain ⟨v, hv, h⟩ := withV_some h
    simp only [execOp, hA.ev hv]
    cases hi with
    | none =>
      cases mx with
      | none => exact (slcVC_sound (P := P) T hA (lo := lo) (hi := none) (mx := none) (fun _ => rfl) h).op
      | some m => exact h.elim
    | some hi => exact (slcVC_sound (P := P) T hA (lo := lo) (hi := some hi) (mx := mx) (fun e => by simp [oev] at e) h).op
  case sliceToArrayPointer t x =>
    obtain ⟨v, hv, h⟩ := withV_some h
    have := (s2apVC_sound (P := P) T h).op
    simp only [execOp, hA.ev hv]; exact this
  case extract x i =>
    obtain ⟨v, hv, h⟩ := withV_some h
    have := (extVC_sound (P := P) h).op
    simp only [execOp, hA.ev hv]; exact this
  case call c =>
    obtain ⟨callee, args, argTypes⟩ := c
    cases callee <;> simp only at h
    rename_i b
    cases b <;> simp only at h
    case cap =>
      obtain ⟨l, hl, h⟩ := withL_some h
      split at h
      · rename_i x
        split at h
        · rename_i t ts hts
          have hts' : argTypes = ⟨t :: ts⟩ := Array.ext' hts
          have := (capVC_sound (P := P) T (ts := ts) (ty := type) h).op
          simp only [execOp, resolve, evL_arr hA hl, invoke, builtin, hts']
          exact this
        · exact h.elim
      · exact h.elim
    case len =>
      obtain ⟨l, hl, h⟩ := withL_some h
      split at h
      · rename_i x
        split at h
        · rename_i t ts hts
          have hts' : argTypes = ⟨t :: ts⟩ := Array.ext' hts
          have := (lenVC_sound (P := P) T (ts := ts) (ty := type) h).op
          simp only [execOp, resolve, evL_arr hA hl, invoke, builtin, hts']
          exact this
        · exact h.elim
      · exact h.elim
    case max =>
      obtain ⟨l, hl, h⟩ := withL_some h
      have := (max_sound (P := P) (ts := argTypes) (ty := type) h).op
      simp only [execOp, resolve, evL_arr hA hl, invoke, builtin]
      exact this
    case min =>
      obtain ⟨l, hl, h⟩ := withL_some h
      have := (min_sound (P := P) (ts := argTypes) (ty := type) h).op
      simp only [execOp, resolve, evL_arr hA hl, invoke, builtin]
      exact this
end
end Go.Vc
