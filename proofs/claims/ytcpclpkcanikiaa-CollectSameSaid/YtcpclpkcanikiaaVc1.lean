/- Typed quantifiers over values, and tables of types. -/
import Derived.WalkKit
import Derived.WalkSpells
import Derived.WalkLawsBesides
import Derived.StillTail
import Derived.OrdersHeld
set_option linter.unusedVariables false
namespace Go.Vc
open Go

/-- The shape of one cell. -/
inductive Sh1 where
  | any | bool | int (k : IntKind) | str | ptr | sl | map | fn
/-- The shape of a value. -/
inductive ShE where
  | one (s : Sh1) | agg (l : List Sh1) | arr (n : Nat)
inductive Sh where
  | e (s : ShE) | tup (l : List ShE)

structure TI where
  id : TypeId
  und : TypeDesc
  size : Nat
  bytes : Nat
  zero : Option Value
  sh : Sh

def tfind : List TI → Nat → Option TI
  | [], _ => none
  | t :: r, i => match Nat.beq t.id i with
    | true => some t
    | false => tfind r i

def plainU (tt : List TI) (t : Nat) : Bool := match tfind tt t with
  | some ti => match ti.und with
    | .bool => true
    | .int _ => true
    | .string => true
    | _ => false
  | none => false
/-- A struct whose fields are truth values, integers, and strings. -/
def plainT (tt : List TI) (u : TypeDesc) : Bool := match u with
  | .struct fs => fs.toList.all fun f => plainU tt f.type
  | _ => false
/-- Such a struct is compared field by field. -/
def cmpOk (P : Program) (tt : List TI) (ti : TI) : Bool := plainT tt ti.und && (P.stoodInHeld ti.id || P.eqGuardType P.depth ti.id)
def TOk (P : Program) (tt : List TI) : Prop :=
  ∀ ti ∈ tt, P.underlying ti.id = some ti.und ∧ (∃ inf, P.info? ti.id = some inf ∧ inf.size = ti.size ∧ inf.bytes = ti.bytes ∧ inf.zero = ti.zero) ∧ cmpOk P tt ti = false

theorem tok_of {P : Program} {tt : List TI}
    (h : tt.map (fun ti => (P.underlying ti.id, (P.info? ti.id).map (fun i => (i.size, i.bytes, i.zero)), cmpOk P tt ti)) = tt.map (fun ti => (some ti.und, some (ti.size, ti.bytes, ti.zero), false))) : TOk P tt := by
  intro ti hti
  have := List.map_inj_left.1 h ti hti
  simp only [Prod.mk.injEq] at this
  obtain ⟨h1, h2, h3⟩ := this
  refine ⟨h1, ?_, h3⟩
  cases hi : P.info? ti.id with
  | none => simp [hi] at h2
  | some inf =>
    simp only [hi, Option.map_some, Option.some.injEq, Prod.mk.injEq] at h2
    exact ⟨inf, rfl, h2.1, h2.2.1, h2.2.2⟩

theorem tfind_mem {tt : List TI} {i : Nat} {ti : TI} (h : tfind tt i = some ti) : ti ∈ tt ∧ ti.id = i := by
  induction tt with
  | nil => simp [tfind] at h
  | cons t r ih =>
    unfold tfind at h
    cases hb : Nat.beq t.id i with
    | true =>
      simp only [hb] at h
      obtain rfl := Option.some.inj h
      exact ⟨by simp, Nat.eq_of_beq_eq_true hb⟩
    | false =>
      simp only [hb] at h
      obtain ⟨h1, h2⟩ := ih h
      exact ⟨by simp [h1], h2⟩

structure TFact (P : Program) (i : Nat) (ti : TI) : Prop where
  und : P.underlying i = some ti.und
  inf : ∃ inf, P.info? i = some inf ∧ inf.size = ti.size ∧ inf.bytes = ti.bytes ∧ inf.zero = ti.zero

theorem TOk.fact {P : Program} {tt : List TI} (h : TOk P tt) {i : Nat} {ti : TI} (hf : tfind tt i = some ti) : TFact P i ti := by
  obtain ⟨h1, rfl⟩ := tfind_mem hf
  obtain ⟨h2, h3, _⟩ := h ti h1
  exact ⟨h2, h3⟩
theorem TOk.plain {P : Program} {tt : List TI} (h : TOk P tt) {i : Nat} {ti : TI} (hf : tfind tt i = some ti) (hp : plainT tt ti.und = true) : P.stoodInHeld i = false ∧ P.eqGuardType P.depth i = false := by
  obtain ⟨h1, rfl⟩ := tfind_mem hf
  obtain ⟨_, _, h3⟩ := h ti h1
  unfold cmpOk at h3
  rw [hp] at h3
  simpa using h3

/-! ### Typed quantifiers -/
def ex1 : Sh1 → (Value → Prop) → Prop
  | .any, Q => ∃ v, Q v
  | .bool, Q => ∃ b, Q (.bool b)
  | .int k, Q => ∃ n, Q (.int k n)
  | .str, Q => ∃ s, Q (.string s)
  | .ptr, Q => ∃ a, Q (.pointer a)
  | .sl, Q => ∃ a l c, Q (.slice a l c)
  | .map, Q => ∃ r, Q (.map r)
  | .fn, Q => ∃ f c, Q (.func (.func f) #[] c)
def exN : List Sh1 → (List Value → Prop) → Prop
  | [], Q => Q []
  | s :: r, Q => ex1 s fun v => exN r fun vs => Q (v :: vs)
def exE : ShE → (Value → Prop) → Prop
  | .one s, Q => ex1 s Q
  | .agg l, Q => exN l fun vs => Q (.agg ⟨vs⟩)
  | .arr n, Q => ∃ vs : List Value, vs.length = n ∧ Q (.agg ⟨vs⟩)
def exT : List ShE → (List Value → Prop) → Prop
  | [], Q => Q []
  | s :: r, Q => exE s fun v => exT r fun vs => Q (v :: vs)
def exS : Sh → (Value → Prop) → Prop
  | .e s, Q => exE s Q
  | .tup l, Q => exT l fun vs => Q (.tuple ⟨vs⟩)

theorem ex1_some {s : Sh1} {Q : Value → Prop} (h : ex1 s Q) : ∃ v, Q v := by
  cases s <;> simp only [ex1] at h
  case any => exact h
  case sl => obtain ⟨a, l, c, h⟩ := h; exact ⟨_, h⟩
  case fn => obtain ⟨a, l, h⟩ := h; exact ⟨_, h⟩
  all_goals (obtain ⟨a, h⟩ := h; exact ⟨_, h⟩)
theorem exN_some {l : List Sh1} : ∀ {Q : List Value → Prop}, exN l Q → ∃ vs, Q vs := by
  induction l with
  | nil => intro Q h; exact ⟨[], h⟩
  | cons s r ih => intro Q h; obtain ⟨v, hv⟩ := ex1_some h; obtain ⟨vs, hvs⟩ := ih hv; exact ⟨_, hvs⟩
theorem exE_some {s : ShE} {Q : Value → Prop} (h : exE s Q) : ∃ v, Q v := by
  cases s with
  | one s => exact ex1_some h
  | agg l => obtain ⟨vs, h⟩ := exN_some h; exact ⟨_, h⟩
  | arr n => obtain ⟨vs, _, h⟩ := h; exact ⟨_, h⟩
theorem exT_some {l : List ShE} : ∀ {Q : List Value → Prop}, exT l Q → ∃ vs, Q vs := by
  induction l with
  | nil => intro Q h; exact ⟨[], h⟩
  | cons s r ih => intro Q h; obtain ⟨v, hv⟩ := exE_some h; obtain ⟨vs, hvs⟩ := ih hv; exact ⟨_, hvs⟩
theorem exS_some {s : Sh} {Q : Value → Prop} (h : exS s Q) : ∃ v, Q v := by
  cases s with
  | e s => exact exE_some h
  | tup l => obtain ⟨vs, h⟩ := exT_some h; exact ⟨_, h⟩

/-! ### Functions of typed slots -/
def JTy (T : Type) : List Sh1 → Type
  | [] => T
  | .any :: r => Value → JTy T r
  | .bool :: r => Bool → JTy T r
  | .int _ :: r => Int → JTy T r
  | .str :: r => ByteArray → JTy T r
  | .ptr :: r => Option Addr → JTy T r
  | .sl :: r => Option Addr → Nat → Nat → JTy T r
  | .map :: r => Option Nat → JTy T r
  | .fn :: r => FuncId → Array Value → JTy T r
def jstep {T : Type} (d : T) : (s : Sh1) → (r : List Sh1) → JTy T (s :: r) → Value → (JTy T r → T) → T
  | .any, _, J, v, k => k (J v)
  | .bool, _, J, v, k => match v with | .bool b => k (J b) | _ => d
  | .int i, _, J, v, k => match v with
    | .int i' n => match decide (i = i') with
      | true => k (J n)
      | false => d
    | _ => d
  | .str, _, J, v, k => match v with | .string b => k (J b) | _ => d
  | .ptr, _, J, v, k => match v with | .pointer b => k (J b) | _ => d
  | .sl, _, J, v, k => match v with | .slice a l c => k (J a l c) | _ => d
  | .map, _, J, v, k => match v with | .map b => k (J b) | _ => d
  | .fn, _, J, v, k => match v with
    | .func f a c => match f with
      | .func f => match a with
        | ⟨[]⟩ => k (J f c)
        | _ => d
      | _ => d
    | _ => d
def japp {T : Type} (d : T) : (l : List Sh1) → JTy T l → List Value → T
  | [], J, vs => match vs with
    | [] => J
    | _ :: _ => d
  | s :: r, J, vs => match vs with
    | [] => d
    | v :: vs => jstep d s r J v fun J' => japp d r J' vs
def all1 : Sh1 → (Value → Prop) → Prop
  | .any, Q => ∀ v, Q v
  | .bool, Q => ∀ b, Q (.bool b)
  | .int k, Q => ∀ n, Q (.int k n)
  | .str, Q => ∀ s, Q (.string s)
  | .ptr, Q => ∀ a, Q (.pointer a)
  | .sl, Q => ∀ a l c, Q (.slice a l c)
  | .map, Q => ∀ r, Q (.map r)
  | .fn, Q => ∀ f c, Q (.func (.func f) #[] c)
def jall : List Sh1 → (List Value → Prop) → Prop
  | [], B => B []
  | s :: r, B => all1 s fun v => jall r fun vs => B (v :: vs)
def cur1 {T : Type} : (s : Sh1) → (r : List Sh1) → (Value → JTy T r) → JTy T (s :: r)
  | .any, _, f => f
  | .bool, _, f => fun b => f (.bool b)
  | .int k, _, f => fun n => f (.int k n)
  | .str, _, f => fun s => f (.string s)
  | .ptr, _, f => fun a => f (.pointer a)
  | .sl, _, f => fun a l c => f (.slice a l c)
  | .map, _, f => fun a => f (.map a)
  | .fn, _, f => fun i c => f (.func (.func i) #[] c)
def jmk : (l : List Sh1) → (List Value → World → Prop) → JTy (World → Prop) l
  | [], B => fun w => B [] w
  | s :: r, B => cur1 s r fun v => jmk r fun vs => B (v :: vs)

/-- The value is of the shape. -/
def fits1 (s : Sh1) (v : Value) : Prop := ∀ Q : Value → Prop, all1 s Q → Q v
def fitsL : List Sh1 → List Value → Prop
  | [], vs => vs = []
  | s :: r, vs => ∃ v us, vs = v :: us ∧ fits1 s v ∧ fitsL r us

theorem jall_fits : ∀ {l : List Sh1} {B : List Value → Prop}, jall l B → ∀ vs, fitsL l vs → B vs := by
  intro l
  induction l with
  | nil => intro B h vs hf; obtain rfl : vs = [] := hf; exact h
  | cons s r ih =>
    intro B h vs hf
    obtain ⟨v, us, rfl, h1, h2⟩ := hf
    exact ih (B := fun vs => B (v :: vs)) (h1 _ h) us h2

def nay : World → Prop := fun _ => False

/-- A step that is taken is taken at a value of the shape. -/
theorem jstep_fits {s : Sh1} {r : List Sh1} {J : JTy (World → Prop) (s :: r)} {v : Value} {k : JTy (World → Prop) r → World → Prop} {w : World}
    (h : jstep nay s r J v k w) : fits1 s v := by
  intro Q hQ
  cases s
  case any => exact hQ v
  case int i =>
    cases v
    case int i' n =>
      by_cases hi : i = i'
      · subst hi; exact hQ n
      · simp only [jstep, decide_eq_false hi] at h; exact h.elim
    all_goals exact h.elim
  case fn =>
    cases v
    case func f a c =>
      cases f
      case func f =>
        rcases a with ⟨_ | ⟨x, a⟩⟩
        · exact hQ f c
        · exact h.elim
      all_goals exact h.elim
    all_goals exact h.elim
  case sl => cases v <;> first | exact hQ _ _ _ | exact h.elim
  all_goals (cases v <;> first | exact hQ _ | exact h.elim)
theorem jstep_cur {s : Sh1} {r : List Sh1} {f : Value → JTy (World → Prop) r} {v : Value} {k : JTy (World → Prop) r → World → Prop} {w : World}
    (h : jstep nay s r (cur1 s r f) v k w) : k (f v) w := by
  cases s
  case any => exact h
  case int i =>
    cases v
    case int i' n =>
      by_cases hi : i = i'
      · subst hi; simp only [jstep, cur1, decide_true] at h; exact h
      · simp only [jstep, decide_eq_false hi] at h; exact h.elim
    all_goals exact h.elim
  case fn =>
    cases v
    case func f a c =>
      cases f
      case func f =>
        rcases a with ⟨_ | ⟨x, a⟩⟩
        · exact h
        · exact h.elim
      all_goals exact h.elim
    all_goals exact h.elim
  all_goals (cases v <;> first | exact h | exact h.elim)
theorem jstep_cur_of {s : Sh1} {r : List Sh1} {f : Value → JTy (World → Prop) r} {k : JTy (World → Prop) r → World → Prop} {B : Value → World → Prop}
    (h : ∀ v w, B v w → k (f v) w) : all1 s fun v => ∀ w, B v w → jstep nay s r (cur1 s r f) v k w := by
  cases s
  case any => exact fun v w hb => h _ _ hb
  case int i => intro n w hb; simp only [jstep, cur1, decide_true]; exact h _ _ hb
  case sl => exact fun a l c w hb => h _ _ hb
  case fn => exact fun a c w hb => h _ _ hb
  all_goals exact fun n w hb => h _ _ hb

theorem fits_of_japp : ∀ {l : List Sh1} {J : JTy (World → Prop) l} {vs : List Value} {w : World}, japp nay l J vs w → fitsL l vs := by
  intro l
  induction l with
  | nil => intro J vs w h; cases vs with
    | nil => rfl
    | cons => exact h.elim
  | cons s r ih =>
    intro J vs w h
    cases vs with
    | nil => exact h.elim
    | cons v vs =>
      have h' : jstep nay s r J v (fun J' => japp nay r J' vs) w := h
      refine ⟨v, vs, rfl, jstep_fits h', ?_⟩
      have := jstep_fits h'
      clear h
      -- the rest fits too
      cases s
      case any => exact ih h'
      case int i =>
        cases v
        case int i' n =>
          by_cases hi : i = i'
          · subst hi; simp only [jstep, decide_true] at h'; exact ih h'
          · simp only [jstep, decide_eq_false hi] at h'; exact h'.elim
        all_goals exact h'.elim
      case fn =>
        cases v
        case func f a c =>
          cases f
          case func f =>
            rcases a with ⟨_ | ⟨x, a⟩⟩
            · exact ih h'
            · exact h'.elim
          all_goals exact h'.elim
        all_goals exact h'.elim
      all_goals (cases v <;> first | exact ih h' | exact h'.elim)
theorem jmk_app : ∀ {l : List Sh1} {B : List Value → World → Prop} {vs : List Value} {w : World}, japp nay l (jmk l B) vs w → B vs w := by
  intro l
  induction l with
  | nil => intro B vs w h; cases vs with
    | nil => exact h
    | cons => exact h.elim
  | cons s r ih =>
    intro B vs w h
    cases vs with
    | nil => exact h.elim
    | cons v vs => exact ih (B := fun vs => B (v :: vs)) (jstep_cur (k := fun J' => japp nay r J' vs) h)
theorem all1_mono {s : Sh1} {Q Q' : Value → Prop} (h : ∀ v, Q v → Q' v) (hq : all1 s Q) : all1 s Q' := by
  cases s
  case sl => exact fun a l c => h _ (hq a l c)
  case fn => exact fun a c => h _ (hq a c)
  all_goals exact fun a => h _ (hq a)
theorem jall_mono : ∀ {l : List Sh1} {B B' : List Value → Prop}, (∀ vs, B vs → B' vs) → jall l B → jall l B' := by
  intro l
  induction l with
  | nil => intro B B' h hb; exact h _ hb
  | cons s r ih => intro B B' h hb; exact all1_mono (fun v hv => ih (fun vs => h (v :: vs)) hv) hb
theorem jall_swap : ∀ {l : List Sh1} {s : Sh1} {C : Value → List Value → Prop}, (∀ v, fits1 s v → jall l (C v)) → all1 s fun v => jall l (C v) := by
  intro l s C h
  cases s
  case any => exact fun v => h _ (fun Q hQ => hQ _)
  case sl => exact fun a l c => h _ (fun Q hQ => hQ _ _ _)
  case fn => exact fun a c => h _ (fun Q hQ => hQ _ _)
  all_goals exact fun v => h _ (fun Q hQ => hQ _)
theorem jmk_of : ∀ {l : List Sh1} {B : List Value → World → Prop}, jall l (fun vs => ∀ w, B vs w → japp nay l (jmk l B) vs w) := by
  intro l
  induction l with
  | nil => intro B w h; exact h
  | cons s r ih =>
    intro B
    refine jall_swap fun v hv => ?_
    refine jall_mono ?_ (ih (B := fun vs => B (v :: vs)))
    intro vs h w hb
    exact hv (fun v => ∀ w, (japp nay r (jmk r fun vs => B (v :: vs)) vs w) → jstep nay s r (jmk (s :: r) B) v (fun J' => japp nay r J' vs) w)
      (jstep_cur_of (f := fun v => jmk r fun vs => B (v :: vs)) (k := fun J' => japp nay r J' vs) (B := fun v w => japp nay r (jmk r fun vs => B (v :: vs)) vs w) (fun v w h => h)) w (h w hb)
end Go.Vc
