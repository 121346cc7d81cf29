/- Words, and the conditions of pure operations. -/
import Derived.Test.YtcpclpkcanikiaaVc1
set_option linter.unusedVariables false
namespace Go.Vc
open Go

/-! ### Environments -/
abbrev Env := List (Nat × Option Value)
def look : Env → Nat → Option Value
  | [], _ => none
  | (d, v) :: r, t => match Nat.beq d t with
    | true => v
    | false => look r t
def ev (fr : Env) : Operand → Option Value
  | .tmp t => look fr t
  | .const v => some v
  | .global g => some (.pointer (some ⟨g, 0, none⟩))
  | .func f => some (.func (.func f) #[] #[])
def evL (fr : Env) : List Operand → Option (List Value)
  | [] => some []
  | x :: r => match ev fr x with
    | none => none
    | some v => match evL fr r with
      | none => none
      | some vs => some (v :: vs)
def withV (o : Option Value) (K : Value → Prop) : Prop := match o with
  | some v => K v
  | none => False
def withL (o : Option (List Value)) (K : List Value → Prop) : Prop := match o with
  | some v => K v
  | none => False

structure Agree (n : Nat) (fr : Env) (a : Act) : Prop where
  size : a.tmps.size = n
  defers : a.defers = []
  at_ : ∀ t v, look fr t = some v → a.tmps.getD t undef = v

theorem Agree.ev {n : Nat} {fr : Env} {a : Act} (h : Agree n fr a) {x : Operand} {v : Value} (hx : ev fr x = some v) : a.eval x = v := by
  cases x with
  | tmp t => exact h.at_ t v hx
  | const c => exact Option.some.inj hx
  | global g => exact Option.some.inj hx
  | func f => exact Option.some.inj hx
theorem Agree.evL {n : Nat} {fr : Env} {a : Act} (h : Agree n fr a) : ∀ {l : List Operand} {vs : List Value}, evL fr l = some vs → l.map a.eval = vs
  | [], vs, hl => Option.some.inj hl
  | x :: r, vs, hl => by
    unfold Vc.evL at hl
    cases hx : Vc.ev fr x with
    | none => simp [hx] at hl
    | some v =>
      cases hr : Vc.evL fr r with
      | none => simp [hx, hr] at hl
      | some us =>
        simp only [hx, hr, Option.some.injEq] at hl
        rw [← hl, List.map_cons, h.ev hx, h.evL hr]
theorem withV_some {o : Option Value} {K : Value → Prop} (h : withV o K) : ∃ v, o = some v ∧ K v := by
  cases o with
  | none => exact h.elim
  | some v => exact ⟨v, rfl, h⟩
theorem withL_some {o : Option (List Value)} {K : List Value → Prop} (h : withL o K) : ∃ v, o = some v ∧ K v := by
  cases o with
  | none => exact h.elim
  | some v => exact ⟨v, rfl, h⟩

/-! ### Small words of the formulas -/
def ifB (b : Bool) (A B : Prop) : Prop := match b with
  | true => A
  | false => B
theorem ifB_iff {b : Bool} {A B : Prop} : ifB b A B ↔ (b = true → A) ∧ (b = false → B) := by cases b <;> simp [ifB]
@[simp] theorem ifB_true {A B : Prop} : ifB true A B = A := rfl
@[simp] theorem ifB_false {A B : Prop} : ifB false A B = B := rfl
def brB (b : Bool) (F : Bool → Prop) : Prop := ifB b (F true) (F false)
theorem brB_iff {b : Bool} {F : Bool → Prop} : brB b F ↔ (b = true → F true) ∧ (b = false → F false) := by
  cases b <;> simp [brB]
theorem brB_use {b : Bool} {F : Bool → Prop} (h : brB b F) : F b := by cases b <;> exact h
def derefP (a : Option Addr) (K : Addr → Prop) : Prop := match a with
  | some ad => K ad
  | none => False
theorem derefP_some {a : Option Addr} {K : Addr → Prop} (h : derefP a K) : ∃ ad, a = some ad ∧ K ad := by
  cases a with
  | none => exact h.elim
  | some v => exact ⟨v, rfl, h⟩
def InI64 (z : Int) : Prop := -9223372036854775808 ≤ z ∧ z ≤ 9223372036854775807
theorem wrap_inI64 {z : Int} (h : InI64 z) : IntKind.i64.wrap z = z := IntWalk.i64_in z h
def arVC (k : IntKind) (z : Int) (K : Value → Prop) : Prop := match k with
  | .i64 => InI64 z ∧ K (.int .i64 z)
  | k => K (.int k (k.wrap z))
theorem arVC_use {k : IntKind} {z : Int} {K : Value → Prop} (h : arVC k z K) : K (.int k (k.wrap z)) := by
  cases k <;> first | exact h | (obtain ⟨h1, h2⟩ := h; rw [wrap_inI64 h1]; exact h2)
def shlI (k : IntKind) (a b : Int) : Int := k.wrap (a * 2 ^ (min b.toNat k.bits))
def shrI (k : IntKind) (a b : Int) : Int := a.fdiv (2 ^ (min b.toNat k.bits))
/- The tests of the formulas: of a kind that the kernel does not reckon. -/
noncomputable def ltI (a b : Int) : Bool := @decide (a < b) (Classical.propDecidable _)
noncomputable def leI (a b : Int) : Bool := @decide (a ≤ b) (Classical.propDecidable _)
noncomputable def eqI (a b : Int) : Bool := @decide (a = b) (Classical.propDecidable _)
noncomputable def strEq (a b : ByteArray) : Bool := @decide (a = b) (Classical.propDecidable _)
noncomputable def strLt (a b : ByteArray) : Bool := @decide (Op.bytesLess a.toList b.toList = true) (Classical.propDecidable _)
theorem ltI_eq (a b : Int) : ltI a b = decide (a < b) := by unfold ltI; congr
theorem leI_eq (a b : Int) : leI a b = decide (a ≤ b) := by unfold leI; congr
theorem eqI_eq (a b : Int) : eqI a b = decide (a = b) := by unfold eqI; congr
theorem strEq_eq (a b : ByteArray) : strEq a b = (a.toList == b.toList) := by
  rw [Bool.eq_iff_iff]
  simp only [strEq, decide_eq_true_eq, beq_iff_eq]
  constructor
  · rintro rfl; rfl
  · intro h
    rw [ByteArray.toList_eq, ByteArray.toList_eq] at h
    cases a; cases b
    simp at h
    rw [h]
theorem strLt_eq (a b : ByteArray) : strLt a b = Op.bytesLess a.toList b.toList := by
  rw [Bool.eq_iff_iff]; simp [strLt]
@[simp] theorem ltI_true {a b : Int} : (ltI a b = true) = (a < b) := by simp [ltI]
@[simp] theorem leI_true {a b : Int} : (leI a b = true) = (a ≤ b) := by simp [leI]
@[simp] theorem eqI_true {a b : Int} : (eqI a b = true) = (a = b) := by simp [eqI]
@[simp] theorem strEq_true {a b : ByteArray} : (strEq a b = true) = (a = b) := by simp [strEq]
@[simp] theorem ltI_false {a b : Int} : (ltI a b = false) = (b ≤ a) := by simp [ltI]
@[simp] theorem leI_false {a b : Int} : (leI a b = false) = (b < a) := by simp [leI]
@[simp] theorem eqI_false {a b : Int} : (eqI a b = false) = (a ≠ b) := by simp [eqI]
@[simp] theorem strEq_false {a b : ByteArray} : (strEq a b = false) = (a ≠ b) := by simp [strEq]
def maxI (a b : Int) : Int := if b > a then b else a
def minI (a b : Int) : Int := if b < a then b else a
def slAddr (a : Option Addr) (m l size : Nat) : Option Addr := if m = l then a else a.map (·.add (l * size))

def intVC (op : BinOp) (k : IntKind) (a b : Int) (K : Value → Prop) : Prop := match op with
  | .add => arVC k (a + b) K
  | .sub => arVC k (a - b) K
  | .mul => arVC k (a * b) K
  | .quo => b ≠ 0 ∧ arVC k (a.tdiv b) K
  | .rem => b ≠ 0 ∧ K (.int k (a.tmod b))
  | .and => K (.int k (bits .and k a b))
  | .or => K (.int k (bits .or k a b))
  | .xor => K (.int k (bits .xor k a b))
  | .andNot => K (.int k (bits .andNot k a b))
  | .eql => K (.bool (eqI a b))
  | .neq => K (.bool (!eqI a b))
  | .lss => K (.bool (ltI a b))
  | .leq => K (.bool (leI a b))
  | .gtr => K (.bool (ltI b a))
  | .geq => K (.bool (leI b a))
  | _ => False
def strVC (op : BinOp) (a b : ByteArray) (K : Value → Prop) : Prop := match op with
  | .add => a.size + b.size ≤ 9223372036854775807 ∧ K (.string (a ++ b))
  | .eql => K (.bool (strEq a b))
  | .neq => K (.bool (!strEq a b))
  | .lss => K (.bool (strLt a b))
  | .leq => K (.bool (strLt a b || strEq a b))
  | .gtr => K (.bool (!(strLt a b || strEq a b)))
  | .geq => K (.bool (!strLt a b))
  | _ => False
def isIntK : BinOp → Bool
  | .shl | .shr => false
  | _ => true
/-- Comparison of a reference with nil. -/
def nilVC (op : BinOp) (isNil : Bool) (K : Value → Prop) : Prop := match op with
  | .eql => K (.bool isNil)
  | .neq => K (.bool (!isNil))
  | _ => False
noncomputable def eqV (tt : List TI) (t : Nat) (x y : Value) : Option Bool := match x with
  | .bool a => match y with
    | .bool b => match tfind tt t with
      | some ti => match ti.und with
        | .bool => some (a == b)
        | _ => none
      | none => none
    | _ => none
  | .int k a => match y with
    | .int k' b => match decide (k = k') with
      | true => match tfind tt t with
        | some ti => match ti.und with
          | .int _ => some (eqI a b)
          | _ => none
        | none => none
      | false => none
    | _ => none
  | .string a => match y with
    | .string b => match tfind tt t with
      | some ti => match ti.und with
        | .string => some (strEq a b)
        | _ => none
      | none => none
    | _ => none
  | _ => none
/-- The comparison of two structs' cells. -/
noncomputable def eqFs (tt : List TI) (xs ys : List Value) : List Field → Option Bool
  | [] => some true
  | f :: r => match decide (f.name = "_") with
    | true => none
    | false => match xs[f.offset]? with
      | some a => match ys[f.offset]? with
        | some b => match eqV tt f.type a b with
          | some e => match eqFs tt xs ys r with
            | some e' => some (e && e')
            | none => none
          | none => none
        | none => none
      | none => none
noncomputable def aggVC (tt : List TI) (op : BinOp) (xt : TypeId) (xs ys : List Value) (K : Value → Prop) : Prop := match tfind tt xt with
  | some ti => match plainT tt ti.und with
    | true => match ti.und with
      | .struct fs => match eqFs tt xs ys fs.toList with
        | some e => match op with
          | .eql => K (.bool e)
          | .neq => K (.bool (!e))
          | _ => False
        | none => False
      | _ => False
    | false => False
  | none => False
def binVC (tt : List TI) (op : BinOp) (xt : TypeId) (x y : Value) (K : Value → Prop) : Prop := match x with
  | .int k a => match y with
    | .int k' b => match op with
      | .shl => 0 ≤ b ∧ K (.int k (shlI k a b))
      | .shr => 0 ≤ b ∧ K (.int k (shrI k a b))
      | op => match decide (k = k') with
        | true => intVC op k a b K
        | false => False
    | _ => False
  | .string a => match y with
    | .string b => strVC op a b K
    | _ => False
  | .bool a => match y with
    | .bool b => match tfind tt xt with
      | some ti => match ti.und with
        | .bool => match op with
          | .eql => K (.bool (a == b))
          | .neq => K (.bool (!(a == b)))
          | _ => False
        | _ => False
      | none => False
    | _ => False
  | .slice a _ _ => match y with
    | .slice b _ _ => match b with
      | none => match tfind tt xt with
        | some ti => match ti.und with
          | .slice _ => nilVC op a.isNone K
          | _ => False
        | none => False
      | some _ => False
    | _ => False
  | .map a => match y with
    | .map b => match b with
      | none => match tfind tt xt with
        | some ti => match ti.und with
          | .map _ _ => nilVC op a.isNone K
          | _ => False
        | none => False
      | some _ => False
    | _ => False
  | .pointer a => match y with
    | .pointer b => match b with
      | none => match tfind tt xt with
        | some ti => match ti.und with
          | .pointer _ => nilVC op a.isNone K
          | _ => False
        | none => False
      | some _ => False
    | _ => False
  | .agg xs => match y with
    | .agg ys => aggVC tt op xt xs.toList ys.toList K
    | _ => False
  | _ => False
def unVC (op : UnOp) (x : Value) (K : Value → Prop) : Prop := match x with
  | .int k n => match op with
    | .neg => arVC k (0 - n) K
    | .xor => K (.int k (bits .xor k (if k.signed then -1 else k.max) n))
    | _ => False
  | .bool b => match op with
    | .not => K (.bool (!b))
    | _ => False
  | _ => False
def convVC (tt : List TI) (s d : TypeId) (x : Value) (K : Value → Prop) : Prop := match tfind tt s with
  | some si => match tfind tt d with
    | some di => match x with
      | .int _ n => match di.und with
        | .int k => match si.und with
          | .int _ => arVC k n K
          | _ => False
        | _ => False
      | .string b => match di.und with
        | .string => match si.und with
          | .string => K (.string b)
          | _ => False
        | _ => False
      | _ => False
    | none => False
  | none => False
def tsize (tt : List TI) (t : TypeId) (K : Nat → Prop) : Prop := match tfind tt t with
  | some ti => K ti.size
  | none => False
def idxVC (tt : List TI) (t : TypeId) (x i : Value) (K : Value → Prop) : Prop := match i with
  | .int _ n => match tfind tt t with
    | some ti => match ti.und with
      | .slice e => match x with
        | .slice base len _ => tsize tt e fun sz => (0 ≤ n ∧ n < (len : Int)) ∧ derefP base fun ad => K (.pointer (some (ad.add (n.toNat * sz))))
        | _ => False
      | .array len e => match x with
        | .pointer base => tsize tt e fun sz => (0 ≤ n ∧ n < (len : Int)) ∧ derefP base fun ad => K (.pointer (some (ad.add (n.toNat * sz))))
        | _ => False
      | _ => False
    | none => False
  | _ => False
def isAggD : TypeDesc → Bool
  | .struct _ => true
  | .array _ _ => true
  | _ => false
/-- An element of an array that is a value: of one cell. -/
def idxV (tt : List TI) (t : TypeId) (x i : Value) (K : Value → Prop) : Prop := match i with
  | .int _ n => match tfind tt t with
    | some ti => match ti.und with
      | .string => match x with
        | .string s => ∃ b : UInt8, (0 ≤ n ∧ s[n.toNat]? = some b) ∧ K (.int .u8 b.toNat)
        | _ => False
      | .array len e => match x with
        | .agg cs => match tfind tt e with
          | some ei => match isAggD ei.und with
            | false => match Nat.beq ei.size 1 with
              | true => match ei.sh with
                | .e (.one s) => ex1 s fun v => (0 ≤ n ∧ n < (len : Int)) ∧ cs[n.toNat]? = some v ∧ K v
                | _ => False
              | false => False
            | true => False
          | none => False
        | _ => False
      | _ => False
    | none => False
  | _ => False
def bndVC (v : Option (Option Value)) (dflt top : Nat) (K : Nat → Prop) : Prop := match v with
  | none => K dflt
  | some o => withV o fun v => match v with
    | .int _ n => (0 ≤ n ∧ n ≤ (top : Int)) ∧ K n.toNat
    | _ => False
def oev (fr : Env) : Option Operand → Option (Option Value)
  | none => none
  | some x => some (ev fr x)
def slcVC (tt : List TI) (t : TypeId) (x : Value) (lo hi mx : Option (Option Value)) (K : Value → Prop) : Prop := match tfind tt t with
  | some ti => match ti.und with
    | .slice e => match x with
      | .slice a len cap => tsize tt e fun sz =>
          bndVC mx cap cap fun m => bndVC hi len m fun h => bndVC lo 0 h fun l => K (.slice (slAddr a m l sz) (h - l) (m - l))
      | _ => False
    | .string => match x with
      | .string s => match mx with
        | none => bndVC hi s.size s.size fun h => bndVC lo 0 h fun l => K (.string (s.extract l h))
        | some _ => False
      | _ => False
    | .array n e => match x with
      | .pointer a => derefP a fun ad => tsize tt e fun sz =>
          bndVC mx n n fun m => bndVC hi n m fun h => bndVC lo 0 h fun l => K (.slice (slAddr (some ad) m l sz) (h - l) (m - l))
      | _ => False
    | _ => False
  | none => False
def lenVC (tt : List TI) (t : TypeId) (x : Value) (K : Value → Prop) : Prop := match tfind tt t with
  | some ti => match ti.und with
    | .slice _ => match x with
      | .slice _ n _ => K (.int .i64 (n : Int))
      | _ => False
    | .string => match x with
      | .string s => K (.int .i64 (s.size : Int))
      | _ => False
    | .array n _ => K (.int .i64 (n : Int))
    | _ => False
  | none => False
def capVC (tt : List TI) (t : TypeId) (x : Value) (K : Value → Prop) : Prop := match tfind tt t with
  | some ti => match ti.und with
    | .slice _ => match x with
      | .slice _ _ c => K (.int .i64 (c : Int))
      | _ => False
    | _ => False
  | none => False
def mmVC (f : Int → Int → Int) (l : List Value) (K : Value → Prop) : Prop := match l with
  | [x, y] => match x with
    | .int k a => match y with
      | .int k' b => match decide (k = k') with
        | true => K (.int k (f a b))
        | false => False
      | _ => False
    | _ => False
  | _ => False
def fieldVC (tt : List TI) (t : TypeId) (x : Value) (f : Nat) (K : Value → Prop) : Prop := match tfind tt t with
  | some ti => match ti.und with
    | .struct fs => match fs[f]? with
      | some fd => match x with
        | .agg cs => match tfind tt fd.type with
          | some fi => match isAggD fi.und with
            | true => K (.agg ⟨(cs.toList.drop fd.offset).take fi.size⟩)
            | false => withV (cs.toList[fd.offset]?) K
          | none => False
        | _ => False
      | none => False
    | _ => False
  | none => False
def fldAddrVC (tt : List TI) (t : TypeId) (x : Value) (f : Nat) (K : Value → Prop) : Prop := match tfind tt t with
  | some ti => match ti.und with
    | .struct fs => match fs[f]? with
      | some fd => match x with
        | .pointer a => tsize tt fd.type fun sz => match Nat.beq sz 0 with
          | true => False
          | false => derefP a fun ad => K (.pointer (some (ad.add fd.offset)))
        | _ => False
      | none => False
    | _ => False
  | none => False
def extVC (x : Value) (i : Nat) (K : Value → Prop) : Prop := match x with
  | .tuple vs => withV (vs.toList[i]?) K
  | _ => False
def s2apVC (tt : List TI) (t : TypeId) (x : Value) (K : Value → Prop) : Prop := match tfind tt t with
  | some ti => match ti.und with
    | .array n _ => match x with
      | .slice a len _ => n ≤ len ∧ K (.pointer a)
      | _ => False
    | _ => False
  | none => False
def nilCkVC (x : Value) (K : Value → Prop) : Prop := match x with
  | .pointer a => derefP a fun ad => K (.pointer (some ad))
  | .func f a c => match f with
    | .func f => K (.func (.func f) a c)
    | _ => False
  | .map r => K (.map r)
  | .slice a l c => K (.slice a l c)
  | _ => False
def mkIfVC (tt : List TI) (t : TypeId) (x : Value) (K : Value → Prop) : Prop := match tfind tt t with
  | some ti => match ti.und with
    | .interface _ => False
    | _ => K (.iface t x)
  | none => False

/-- What an operation that neither reads nor writes memory yields. -/
def pureVC (tt : List TI) (fr : Env) (o : Oper) (K : Value → Prop) : Prop := match o.op with
  | .move x => withV (ev fr x) K
  | .assign x => withV (ev fr x) K
  | .pick c a b => withV (ev fr c) fun v => match v with
    | .bool t => brB t fun t' => match t' with
      | true => withV (ev fr a) K
      | false => withV (ev fr b) K
    | _ => False
  | .binOp op t x y _ => withV (ev fr x) fun a => withV (ev fr y) fun b => binVC tt op t a b K
  | .unOp op _ x => withV (ev fr x) fun a => unVC op a K
  | .convert s d x => withV (ev fr x) fun a => convVC tt s d a K
  | .makeInterface t x => withV (ev fr x) fun a => mkIfVC tt t a K
  | .makeFunc f a c => withL (evL fr a.toList) fun as => withL (evL fr c.toList) fun cs => K (.func f ⟨as⟩ ⟨cs⟩)
  | .nilCheck x => withV (ev fr x) fun a => nilCkVC a K
  | .fieldAddr t x f => withV (ev fr x) fun a => fldAddrVC tt t a f K
  | .field t x f => withV (ev fr x) fun a => fieldVC tt t a f K
  | .indexAddr t x i => withV (ev fr x) fun a => withV (ev fr i) fun b => idxVC tt t a b K
  | .index t x i => withV (ev fr x) fun a => withV (ev fr i) fun b => idxV tt t a b K
  | .slice t x lo hi mx => withV (ev fr x) fun a => match hi with
    | none => match mx with
      | none => slcVC tt t a (oev fr lo) none none K
      | some _ => False
    | some h => slcVC tt t a (oev fr lo) (some (ev fr h)) (oev fr mx) K
  | .sliceToArrayPointer t x => withV (ev fr x) fun a => s2apVC tt t a K
  | .extract x i => withV (ev fr x) fun a => extVC a i K
  | .call c => match c.callee with
    | .builtin .len => withL (evL fr c.args.toList) fun l => match l with
      | [x] => match c.argTypes.toList with
        | t :: _ => lenVC tt t x K
        | [] => False
      | _ => False
    | .builtin .cap => withL (evL fr c.args.toList) fun l => match l with
      | [x] => match c.argTypes.toList with
        | t :: _ => capVC tt t x K
        | [] => False
      | _ => False
    | .builtin .max => withL (evL fr c.args.toList) fun l => mmVC maxI l K
    | .builtin .min => withL (evL fr c.args.toList) fun l => mmVC minI l K
    | _ => False
  | _ => False
end Go.Vc
