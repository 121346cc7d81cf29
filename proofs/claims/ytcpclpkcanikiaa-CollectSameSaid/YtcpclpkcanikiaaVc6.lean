/- The conditions of operations with effects. -/
import Derived.Test.YtcpclpkcanikiaaVc5
set_option linter.unusedVariables false
namespace Go.Vc
open Go

abbrev Pn := Option (List PanicEntry → World → Prop)
def cellsL (v : Value) : List Value := match v with
  | .agg cs => cs.toList
  | v => [v]
def oneC (v : Value) (Q : Prop) : Prop := match v with
  | .agg _ => False
  | .tuple _ => False
  | _ => Q
/-- The cells from number i on behind the address hold these values. -/
def cellsAt (w : World) (a : Addr) : Nat → List Value → Prop → Prop
  | _, [], Q => Q
  | i, v :: r, Q => w.cell? (a.add i) = some v ∧ cellsAt w a (i + 1) r Q
def cellsOn (w : World) (a : Addr) (vs : List Value) : Prop := ∀ i v, vs[i]? = some v → w.cell? (a.add i) = some v
def stL (a : Addr) : Nat → List Value → World → World
  | _, [], w => w
  | i, v :: r, w => stL a (i + 1) r (w.setCell (a.add i) v)
def stOk (w : World) (a : Addr) (n : Nat) : Prop := ∀ i, i < n → (w.cell? (a.add i)).isSome = true ∧ w.frozen? (a.add i) = false
def stOk1 (w : World) (a : Addr) : Prop := (w.cell? a).isSome = true ∧ w.frozen? a = false
/-- A world under a name. -/
def letW (w : World) (K : World → Prop) : Prop := ∀ x, x = w → K x
def ones : List Value → Prop → Prop
  | [], Q => Q
  | v :: r, Q => oneC v (ones r Q)
def loadVC (tt : List TI) (t : TypeId) (a : Addr) (w : World) (K : Value → Prop) : Prop := match tfind tt t with
  | some ti => match isAggD ti.und with
    | false => match ti.sh with
      | .e (.one s) => ex1 s fun v => w.cell? a = some v ∧ K v
      | _ => False
    | true => match ti.sh with
      | .e (.agg l) => match Nat.beq l.length ti.size with
        | true => exN l fun vs => cellsAt w a 0 vs (K (.agg ⟨vs⟩))
        | false => False
      | .e (.arr n) => match Nat.beq n ti.size with
        | true => ∃ vs : List Value, vs.length = n ∧ cellsOn w a vs ∧ K (.agg ⟨vs⟩)
        | false => False
      | _ => False
  | none => False
def storeVC (tt : List TI) (t : TypeId) (a : Addr) (v : Value) (w : World) (K : World → Prop) : Prop := match tfind tt t with
  | some ti => match ti.sh with
    | .e (.arr n) => (cellsL v).length = ti.size ∧ stOk w a ti.size ∧ (∀ u ∈ cellsL v, u.oneCell' = true) ∧ letW (stL a 0 (cellsL v) w) K
    | .e (.one _) => match Nat.beq ti.size 1 with
      | true => match cellsL v with
        | [u] => oneC u (stOk1 w a ∧ letW (w.setCell a u) K)
        | _ => False
      | false => False
    | _ => match Nat.beq (cellsL v).length ti.size with
      | true => ones (cellsL v) (stOk w a ti.size ∧ letW (stL a 0 (cellsL v) w) K)
      | false => False
  | none => False
def setsAt : List Value → Nat → List Value → List Value
  | cs, _, [] => cs
  | cs, o, v :: r => setsAt (cs.set o v) (o + 1) r
def fillL (place : Nat → Option (Nat × Nat)) : List Value → List (Nat × Value) → Option (List Value)
  | cs, [] => some cs
  | cs, (i, v) :: r => match place i with
    | none => none
    | some (off, size) => match Nat.beq (cellsL v).length size && Nat.ble (off + (cellsL v).length) cs.length with
      | true => fillL place (setsAt cs off (cellsL v)) r
      | false => none
def evP (fr : Env) : List (Nat × Operand) → Option (List (Nat × Value))
  | [] => some []
  | (i, x) :: r => match ev fr x with
    | none => none
    | some v => match evP fr r with
      | none => none
      | some vs => some ((i, v) :: vs)
def withP (o : Option (List (Nat × Value))) (K : List (Nat × Value) → Prop) : Prop := match o with
  | some v => K v
  | none => False
def zeroV (tt : List TI) (t : TypeId) (K : Value → Prop) : Prop := match tfind tt t with
  | some ti => withV ti.zero K
  | none => False
def placeS (tt : List TI) (fs : List Field) (i : Nat) : Option (Nat × Nat) := match fs[i]? with
  | none => none
  | some f => match tfind tt f.type with
    | none => none
    | some ti => some (f.offset, ti.size)
def allSz (tt : List TI) : List Field → Bool
  | [] => true
  | f :: r => match tfind tt f.type with
    | none => false
    | some _ => allSz tt r
def zl0 (z : List Value) (n : Nat) : List Value := match Nat.beq n 0 with
  | true => []
  | false => z
def zeroL (z : List Value) (n : Nat) : List Value := (List.range n).map fun j => z.getD (j % z.length) default
def buildVC (tt : List TI) (t : TypeId) (parts : List (Nat × Value)) (K : Value → Prop) : Prop := match tfind tt t with
  | some ti => withV ti.zero fun z => match ti.und with
    | .struct fs => match allSz tt fs.toList with
      | true => withL (fillL (placeS tt fs.toList) (cellsL z) parts) fun cs => K (.agg ⟨cs⟩)
      | false => False
    | .array _ e => tsize tt e fun sz => withL (fillL (fun i => some (i * sz, sz)) (cellsL z) parts) fun cs => K (.agg ⟨cs⟩)
    | _ => False
  | none => False
def bSliceVC (tt : List TI) (t : TypeId) (len : Nat) (parts : List (Nat × Value)) (w : World) (K : Value → World → Prop) : Prop := match tfind tt t with
  | some ti => match ti.und with
    | .slice e => match tfind tt e with
      | some ei => withV ei.zero fun z => match Nat.ble (len * ei.size) 16777216 with
        | true => withL (fillL (fun i => some (i * ei.size, ei.size)) (zeroL (zl0 (cellsL z) (len * ei.size)) (len * ei.size)) parts) fun cs =>
            letW (w.alloc (.cells ⟨cs⟩ e)) fun w' => K (.slice (some ⟨w.heap.size, 0, none⟩) len len) w'
        | false => False
      | none => False
    | _ => False
  | none => False

def RetP (sh : Sh) (pn : Pn) (K : Value → World → Prop) : Ending → World → Prop := fun e w' => match pn with
  | none => exS sh fun v => e = .returned v ∧ K v w'
  | some p => (exS sh fun v => e = .returned v ∧ K v w') ∨ ∃ c, e = .panicked c ∧ p c w'
def Enters (P : Program) (k : FuncId) : Prop := ∃ fn, P.funcs[k]? = some fn ∧ (fn.name == "runtime.NumGoroutine") = false ∧ fn.body.isNone = false
def memN : List Nat → Nat → Bool
  | [], _ => false
  | x :: r, k => match Nat.beq x k with
    | true => true
    | false => memN r k
def RunV (P : Program) (s : Sem Value) (sh : Sh) (w : World) (K : Value → World → Prop) : Prop := exS sh fun v => ∃ w', s.run P w = .ok v w' ∧ K v w'
def RunN (P : Program) (s : Sem Next) (sh : Sh) (w : World) (K : Value → World → Prop) : Prop := exS sh fun v => ∃ w', s.run P w = .ok (.value v) w' ∧ K v w'
def RunU (P : Program) (s : Sem Unit) (w : World) (K : World → Prop) : Prop := ∃ w', s.run P w = .ok () w' ∧ K w'
def shOf (tt : List TI) (t : TypeId) (K : Sh → Prop) : Prop := match tfind tt t with
  | some ti => K ti.sh
  | none => False

def isEff : Op → Bool
  | .alloc _ | .box .. | .build .. | .buildSlice .. | .load .. | .store .. | .makeMap .. | .makeSlice .. | .lookup .. | .mapUpdate .. | .insert .. | .mapEntry .. | .entryStore .. | .range .. | .next .. | .entry .. | .panic _ => true
  | .call c => match c.callee with
    | .builtin b => match b with
      | .len | .cap | .max | .min => false
      | _ => true
    | _ => true
  | _ => false
/-- A conversion between strings and slices. -/
def convEff (tt : List TI) (s d : TypeId) : Bool := match tfind tt s with
  | some si => match si.und with
    | .slice _ => true
    | _ => match tfind tt d with
      | some di => match di.und with
        | .slice _ => true
        | _ => false
      | none => false
  | none => false

def callVC (P : Program) (tt : List TI) (fns : List Nat) (fr : Env) (c : Call) (type : TypeId) (w : World) (pn : Pn) (K : Value → World → Prop) : Prop := match c.callee with
  | .value f => match f with
    | .func k => withL (evL fr c.args.toList) fun vs => shOf tt type fun sh => match memN fns k with
      | true => Calls P k ⟨vs⟩ w (RetP sh pn K)
      | false => RunN P (callFunc k ⟨vs⟩) sh w K
    | f => withV (ev fr f) fun v => match v with
      | .func fn first cap => match fn with
        | .func k => match first with
          | ⟨[]⟩ => withL (evL fr c.args.toList) fun vs => shOf tt type fun sh => Enters P k ∧ Calls P k (⟨vs⟩ ++ cap) w (RetP sh pn K)
          | _ => False
        | _ => False
      | _ => False
  | .builtin b => match b with
    | .append => withL (evL fr c.args.toList) fun vs => shOf tt type fun sh => RunV P (Builtin.append_ c.argTypes type ⟨vs⟩) sh w K
    | .copy => withL (evL fr c.args.toList) fun vs => RunV P (Builtin.copy_ c.argTypes type ⟨vs⟩) (.e (.one (.int .i64))) w K
    | .delete => withL (evL fr c.args.toList) fun vs => RunV P (Builtin.delete_ c.argTypes type ⟨vs⟩) (.tup []) w K
    | .len => withL (evL fr c.args.toList) fun vs => RunV P (Builtin.len_ c.argTypes type ⟨vs⟩) (.e (.one (.int .i64))) w K
    | _ => False
  | _ => False

/-- What an operation that reads or writes memory, or calls, does. -/
def effVC (P : Program) (tt : List TI) (fns : List Nat) (fr : Env) (o : Oper) (w : World) (pn : Pn) (K : Value → World → Prop) : Prop := match o.op with
  | .alloc e => zeroV tt e fun z => letW (w.alloc (.cells ⟨cellsL z⟩ e)) fun w' => K (.pointer (some ⟨w.heap.size, 0, none⟩)) w'
  | .box e x => withV (ev fr x) fun v => letW (w.alloc (.cells ⟨cellsL v⟩ e)) fun w' => K (.pointer (some ⟨w.heap.size, 0, none⟩)) w'
  | .build t parts => withP (evP fr parts.toList) fun ps => buildVC tt t ps fun v => K v w
  | .buildSlice t len parts => withP (evP fr parts.toList) fun ps => bSliceVC tt t len ps w K
  | .load t x => withV (ev fr x) fun v => match v with
    | .pointer a => derefP a fun ad => loadVC tt t ad w fun v => K v w
    | _ => False
  | .store t x y => withV (ev fr x) fun v => withV (ev fr y) fun u => match v with
    | .pointer a => derefP a fun ad => storeVC tt t ad u w fun w' => K undef w'
    | _ => False
  | .makeMap _ r => match r with
    | none => letW (w.alloc (.map #[] 0)) fun w' => K (.map (some w.heap.size)) w'
    | some _ => False
  | .makeSlice t l c => withV (ev fr l) fun vl => withV (ev fr c) fun vc => RunV P (Instr.makeSlice t vl vc) (.e (.one .sl)) w K
  | .lookup t x i ok => withV (ev fr x) fun a => withV (ev fr i) fun b => shOf tt o.type fun sh => RunV P (Instr.lookup t a b ok) sh w K
  | .mapUpdate t m k x => withV (ev fr m) fun a => withV (ev fr k) fun b => withV (ev fr x) fun c => RunU P (Instr.mapUpdate t a b c) w fun w' => K undef w'
  | .insert t m k x => withV (ev fr m) fun a => withV (ev fr k) fun b => withV (ev fr x) fun c => RunU P (Instr.mapUpdate t a b c) w fun w' => K undef w'
  | .mapEntry t m k => withV (ev fr m) fun a => withV (ev fr k) fun b => shOf tt o.type fun sh => RunV P (Instr.mapEntry t a b) sh w K
  | .entryStore t m s x => withV (ev fr m) fun a => withV (ev fr s) fun b => withV (ev fr x) fun c => RunU P (Instr.entryStore t a b c) w fun w' => K undef w'
  | .range t x => withV (ev fr x) fun a => RunV P (Instr.range t a) (.e (.one .ptr)) w K
  | .next x s => withV (ev fr x) fun a => ∃ v w', (Instr.next a s o.type).run P w = .ok v w' ∧ K v w'
  | .entry x => withV (ev fr x) fun a => shOf tt o.type fun sh => RunV P (Instr.entry a) sh w K
  | .convert s d x => withV (ev fr x) fun a => shOf tt d fun sh => RunV P (convert s d a) sh w K
  | .panic x => withV (ev fr x) fun v => match v with
    | .iface t u => match pn with
      | some p => p [{ v := .iface t u, recovered := false }] w
      | none => False
    | _ => False
  | .call c => callVC P tt fns fr c o.type w pn K
  | _ => False

def opVC (P : Program) (tt : List TI) (fns : List Nat) (fr : Env) (o : Oper) (w : World) (pn : Pn) (K : Value → World → Prop) : Prop :=
  match (match o.op with
    | .convert s d _ => convEff tt s d
    | .call c => match c.callee with
      | .builtin .len => match c.argTypes.toList with
        | t :: _ => match tfind tt t with
          | some ti => match ti.und with
            | .map _ _ => true
            | _ => false
          | none => false
        | [] => false
      | _ => isEff o.op
    | op => isEff op) with
  | true => effVC P tt fns fr o w pn K
  | false => pureVC tt fr o fun v => K v w
end Go.Vc
