/- Joined texts. -/
import Derived.Test.YthlcdgpemjdgnaaGreatDoorVca
/- The conditions of operations with effects. -/
set_option linter.unusedVariables false
namespace Go.Vc
open Go
abbrev Pn := Option (List PanicEntry → World → Prop)
def cellsL (v : Value) : List Value := match v with
  | .agg cs => cs.toList
  | v => [v]
def oneC (v : Value) (Q : Prop) : Prop := match v with
  | .agg _ => False
  | .tuple _ => False
  | _ => Q
def cellsAt (w : World) (a : Addr) : Nat → List Value → Prop → Prop
  | _, [], Q => Q
  | i, v :: r, Q => w.cell? (a.add i) = some v ∧ cellsAt w a (i + 1) r Q
def cellsOn (w : World) (a : Addr) (vs : List Value) : Prop := ∀ i v, vs[i]? = some v → w.cell? (a.add i) = some v
def stL (a : Addr) : Nat → List Value → World → World
  | _, [], w => w
  | i, v :: r, w => stL a (i + 1) r (w.setCell (a.add i) v)
def stOk (w : World) (a : Addr) (n : Nat) : Prop := ∀ i, i < n → (w.cell? (a.add i)).isSome = true ∧ w.frozen? (a.add i) = false
def stOk1 (w : World) (a : Addr) : Prop := (w.cell? a).isSome = true ∧ w.frozen? a = false
def letW (w : World) (K : World → Prop) : Prop := ∀ x, x = w → K x
def ones : List Value → Prop → Prop
  | [], Q => Q
  | v :: r, Q => oneC v (ones r Q)
def loadVC (tt : List TI) (t : TypeId) (a : Addr) (w : World) (K : Value → Prop) : Prop := match tfind tt t with
  | some ti => match isAggD ti.und with
    | false => match ti.sh with
      | .e (.one s) => ex1 s fun v => w.cell? a = some v ∧ K v
      | _ => False
    | true => match ti.sh with
      | .e (.agg l) => match Nat.beq l.length ti.size with
        | true => exN l fun vs => cellsAt w a 0 vs (K (.agg ⟨vs⟩))
        | false => False
      | .e (.arr n) => match Nat.beq n ti.size with
        | true => ∃ vs : List Value, vs.length = n ∧ cellsOn w a vs ∧ K (.agg ⟨vs⟩)
        | false => False
      | _ => False
  | none => False
def storeVC (tt : List TI) (t : TypeId) (a : Addr) (v : Value) (w : World) (K : World → Prop) : Prop := match tfind tt t with
  | some ti => match ti.sh with
    | .e (.arr n) => (cellsL v).length = ti.size ∧ stOk w a ti.size ∧ (∀ u ∈ cellsL v, u.oneCell' = true) ∧ letW (stL a 0 (cellsL v) w) K
    | .e (.one _) => match Nat.beq ti.size 1 with
      | true => match cellsL v with
        | [u] => oneC u (stOk1 w a ∧ letW (w.setCell a u) K)
        | _ => False
      | false => False
    | _ => match Nat.beq (cellsL v).length ti.size with
      | true => ones (cellsL v) (stOk w a ti.size ∧ letW (stL a 0 (cellsL v) w) K)
      | false => False
  | none => False
def setsAt : List Value → Nat → List Value → List Value
  | cs, _, [] => cs
  | cs, o, v :: r => setsAt (cs.set o v) (o + 1) r
def fillL (place : Nat → Option (Nat × Nat)) : List Value → List (Nat × Value) → Option (List Value)
  | cs, [] => some cs
  | cs, (i, v) :: r => match place i with
    | none => none
    | some (off, size) => match Nat.beq (cellsL v).length size && Nat.ble (off + (cellsL v).length) cs.length with
      | true => fillL place (setsAt cs off (cellsL v)) r
      | false => none
def evP (fr : Env) : List (Nat × Operand) → Option (List (Nat × Value))
  | [] => some []
  | (i, x) :: r => match ev fr x with
    | none => none
    | some v => match evP fr r with
      | none => none
      | some vs => some ((i, v) :: vs)
def withP (o : Option (List (Nat × Value))) (K : List (Nat × Value) → Prop) : Prop := match o with
  | some v => K v
  | none => False
def zeroV (tt : List TI) (t : TypeId) (K : Value → Prop) : Prop := match tfind tt t with
  | some ti => withV ti.zero K
  | none => False
def placeS (tt : List TI) (fs : List Field) (i : Nat) : Option (Nat × Nat) := match fs[i]? with
  | none => none
  | some f => match tfind tt f.type with
    | none => none
    | some ti => some (f.offset, ti.size)
def allSz (tt : List TI) : List Field → Bool
  | [] => true
  | f :: r => match tfind tt f.type with
    | none => false
    | some _ => allSz tt r
def zl0 (z : List Value) (n : Nat) : List Value := match Nat.beq n 0 with
  | true => []
  | false => z
def zeroL (z : List Value) (n : Nat) : List Value := (List.range n).map fun j => z.getD (j % z.length) default
def buildVC (tt : List TI) (t : TypeId) (parts : List (Nat × Value)) (K : Value → Prop) : Prop := match tfind tt t with
  | some ti => withV ti.zero fun z => match ti.und with
    | .struct fs => match allSz tt fs.toList with
      | true => withL (fillL (placeS tt fs.toList) (cellsL z) parts) fun cs => K (.agg ⟨cs⟩)
      | false => False
    | .array _ e => tsize tt e fun sz => withL (fillL (fun i => some (i * sz, sz)) (cellsL z) parts) fun cs => K (.agg ⟨cs⟩)
    | _ => False
  | none => False
def bSliceVC (tt : List TI) (t : TypeId) (len : Nat) (parts : List (Nat × Value)) (w : World) (K : Value → World → Prop) : Prop := match tfind tt t with
  | some ti => match ti.und with
    | .slice e => match tfind tt e with
      | some ei => withV ei.zero fun z => match Nat.ble (len * ei.size) 16777216 with
        | true => withL (fillL (fun i => some (i * ei.size, ei.size)) (zeroL (zl0 (cellsL z) (len * ei.size)) (len * ei.size)) parts) fun cs =>
            letW (w.alloc (.cells ⟨cs⟩ e)) fun w' => K (.slice (some ⟨w.heap.size, 0, none⟩) len len) w'
        | false => False
      | none => False
    | _ => False
  | none => False
def RetP (sh : Sh) (pn : Pn) (K : Value → World → Prop) : Ending → World → Prop := fun e w' => match pn with
  | none => exS sh fun v => e = .returned v ∧ K v w'
  | some p => (exS sh fun v => e = .returned v ∧ K v w') ∨ ∃ c, e = .panicked c ∧ p c w'
def Enters (P : Program) (k : FuncId) : Prop := ∃ fn, P.funcs[k]? = some fn ∧ (fn.name == "runtime.NumGoroutine") = false ∧ fn.body.isNone = false
def memN : List Nat → Nat → Bool
  | [], _ => false
  | x :: r, k => match Nat.beq x k with
    | true => true
    | false => memN r k
def RunV (P : Program) (s : Sem Value) (sh : Sh) (w : World) (K : Value → World → Prop) : Prop := exS sh fun v => ∃ w', s.run P w = .ok v w' ∧ K v w'
def RunN (P : Program) (s : Sem Next) (sh : Sh) (w : World) (K : Value → World → Prop) : Prop := exS sh fun v => ∃ w', s.run P w = .ok (.value v) w' ∧ K v w'
def RunU (P : Program) (s : Sem Unit) (w : World) (K : World → Prop) : Prop := ∃ w', s.run P w = .ok () w' ∧ K w'
def shOf (tt : List TI) (t : TypeId) (K : Sh → Prop) : Prop := match tfind tt t with
  | some ti => K ti.sh
  | none => False
def isEff : Op → Bool
  | .alloc _ | .box .. | .build .. | .buildSlice .. | .load .. | .store .. | .makeMap .. | .makeSlice .. | .lookup .. | .mapUpdate .. | .insert .. | .mapEntry .. | .entryStore .. | .range .. | .next .. | .entry .. | .panic _ => true
  | .call c => match c.callee with
    | .builtin b => match b with
      | .len | .cap | .max | .min => false
      | _ => true
    | _ => true
  | _ => false
def convEff (tt : List TI) (s d : TypeId) : Bool := match tfind tt s with
  | some si => match si.und with
    | .slice _ => true
    | _ => match tfind tt d with
      | some di => match di.und with
        | .slice _ => true
        | _ => false
      | none => false
  | none => false
def callVC (P : Program) (tt : List TI) (fns : List Nat) (fr : Env) (c : Call) (type : TypeId) (w : World) (pn : Pn) (K : Value → World → Prop) : Prop := match c.callee with
  | .value f => match f with
    | .func k => withL (evL fr c.args.toList) fun vs => shOf tt type fun sh => match memN fns k with
      | true => Calls P k ⟨vs⟩ w (RetP sh pn K)
      | false => RunN P (callFunc k ⟨vs⟩) sh w K
    | f => withV (ev fr f) fun v => match v with
      | .func fn first cap => match fn with
        | .func k => match first with
          | ⟨[]⟩ => withL (evL fr c.args.toList) fun vs => shOf tt type fun sh => Enters P k ∧ Calls P k (⟨vs⟩ ++ cap) w (RetP sh pn K)
          | _ => False
        | _ => False
      | _ => False
  | .builtin b => match b with
    | .append => withL (evL fr c.args.toList) fun vs => shOf tt type fun sh => RunV P (Builtin.append_ c.argTypes type ⟨vs⟩) sh w K
    | .copy => withL (evL fr c.args.toList) fun vs => RunV P (Builtin.copy_ c.argTypes type ⟨vs⟩) (.e (.one (.int .i64))) w K
    | .delete => withL (evL fr c.args.toList) fun vs => RunV P (Builtin.delete_ c.argTypes type ⟨vs⟩) (.tup []) w K
    | .clear => withL (evL fr c.args.toList) fun vs => RunV P (Builtin.clear_ c.argTypes type ⟨vs⟩) (.tup []) w K
    | .len => withL (evL fr c.args.toList) fun vs => RunV P (Builtin.len_ c.argTypes type ⟨vs⟩) (.e (.one (.int .i64))) w K
    | _ => False
  | _ => False
def effVC (P : Program) (tt : List TI) (fns : List Nat) (fr : Env) (o : Oper) (w : World) (pn : Pn) (K : Value → World → Prop) : Prop := match o.op with
  | .alloc e => zeroV tt e fun z => letW (w.alloc (.cells ⟨cellsL z⟩ e)) fun w' => K (.pointer (some ⟨w.heap.size, 0, none⟩)) w'
  | .box e x => withV (ev fr x) fun v => letW (w.alloc (.cells ⟨cellsL v⟩ e)) fun w' => K (.pointer (some ⟨w.heap.size, 0, none⟩)) w'
  | .build t parts => withP (evP fr parts.toList) fun ps => buildVC tt t ps fun v => K v w
  | .buildSlice t len parts => withP (evP fr parts.toList) fun ps => bSliceVC tt t len ps w K
  | .load t x => withV (ev fr x) fun v => match v with
    | .pointer a => derefP a fun ad => loadVC tt t ad w fun v => K v w
    | _ => False
  | .store t x y => withV (ev fr x) fun v => withV (ev fr y) fun u => match v with
    | .pointer a => derefP a fun ad => storeVC tt t ad u w fun w' => K undef w'
    | _ => False
  | .makeMap _ r => match r with
    | none => letW (w.alloc (.map #[] 0)) fun w' => K (.map (some w.heap.size)) w'
    | some _ => False
  | .makeSlice t l c => withV (ev fr l) fun vl => withV (ev fr c) fun vc => RunV P (Instr.makeSlice t vl vc) (.e (.one .sl)) w K
  | .lookup t x i ok => withV (ev fr x) fun a => withV (ev fr i) fun b => shOf tt o.type fun sh => RunV P (Instr.lookup t a b ok) sh w K
  | .mapUpdate t m k x => withV (ev fr m) fun a => withV (ev fr k) fun b => withV (ev fr x) fun c => RunU P (Instr.mapUpdate t a b c) w fun w' => K undef w'
  | .insert t m k x => withV (ev fr m) fun a => withV (ev fr k) fun b => withV (ev fr x) fun c => RunU P (Instr.mapUpdate t a b c) w fun w' => K undef w'
  | .mapEntry t m k => withV (ev fr m) fun a => withV (ev fr k) fun b => shOf tt o.type fun sh => RunV P (Instr.mapEntry t a b) sh w K
  | .entryStore t m s x => withV (ev fr m) fun a => withV (ev fr s) fun b => withV (ev fr x) fun c => RunU P (Instr.entryStore t a b c) w fun w' => K undef w'
  | .range t x => withV (ev fr x) fun a => RunV P (Instr.range t a) (.e (.one .ptr)) w K
  | .next x s => withV (ev fr x) fun a => (∃ w', (Instr.next a s o.type).run P w = .ok (.tuple ⟨[.bool false]⟩) w' ∧ K (.tuple ⟨[.bool false]⟩) w') ∨ shOf tt o.type fun sh => RunV P (Instr.next a s o.type) sh w K
  | .entry x => withV (ev fr x) fun a => shOf tt o.type fun sh => RunV P (Instr.entry a) sh w K
  | .convert s d x => withV (ev fr x) fun a => shOf tt d fun sh => RunV P (convert s d a) sh w K
  | .panic x => withV (ev fr x) fun v => match v with
    | .iface t u => match pn with
      | some p => p [{ v := .iface t u, recovered := false }] w
      | none => False
    | _ => False
  | .call c => callVC P tt fns fr c o.type w pn K
  | _ => False
end Go.Vc
/- The conditions of operations with effects are sound, part 1. -/
set_option linter.unusedVariables false
namespace Go.Vc
open Go
section
variable {P : Program} {tt : List TI}
theorem cellsL_eq (v : Value) : cellsL v = v.cells.toList := by cases v <;> rfl
theorem oneC_use {v : Value} {Q : Prop} (h : oneC v Q) : v.oneCell' = true ∧ Q := by
  cases v <;> first | exact h.elim | exact ⟨rfl, h⟩
theorem cellsAt_use {w : World} {a : Addr} : ∀ {vs : List Value} {i : Nat} {Q : Prop}, cellsAt w a i vs Q → (∀ j v, vs[j]? = some v → w.cell? (a.add (i + j)) = some v) ∧ Q
  | [], i, Q, h => ⟨fun j v hv => by simp at hv, h⟩
  | u :: r, i, Q, h => by
    obtain ⟨h1, h2⟩ := h
    obtain ⟨h3, h4⟩ := cellsAt_use h2
    refine ⟨fun j v hv => ?_, h4⟩
    cases j with
    | zero => simp at hv; subst hv; exact h1
    | succ j => have := h3 j v (by simpa using hv); rwa [show i + 1 + j = i + (j + 1) by omega] at this
theorem loadVC_sound (T : TOk P tt) {t : TypeId} {a : Addr} {w : World} {K : Value → Prop} (h : loadVC tt t a w K) :
    ∃ v, (Instr.loadAt t (.pointer (some a))).run P w = .ok v w ∧ K v ∧ ∀ w' : World, (∀ p u, p.block = a.block → w.cell? p = some u → w'.cell? p = some u) → (Instr.loadAt t (.pointer (some a))).run P w' = .ok v w' := by
  unfold loadVC at h
  cases hs : tfind tt t <;> simp only [hs] at h
  rename_i ti
  have F := T.fact hs
  cases ha : isAggD ti.und <;> simp only [ha] at h
  · cases hsh : ti.sh <;> simp only [hsh] at h
    rename_i se
    cases se <;> simp only at h
    obtain ⟨v, hv, hK⟩ := ex1_some h
    have key : ∀ w' : World, (∀ p u, p.block = a.block → w.cell? p = some u → w'.cell? p = some u) → (Instr.loadAt t (.pointer (some a))).run P w' = .ok v w' := by
      intro w' hw'
      have e := hw' a v rfl hv
      simp [Instr.loadAt, Instr.sureAddr, loadVar, F.run_agg, ha, e]
    exact ⟨v, key w (fun _ _ _ h => h), hK, key⟩
  · have row : ∀ vs : List Value, vs.length = ti.size → (∀ j v, vs[j]? = some v → w.cell? (a.add j) = some v) →
        ∀ w' : World, (∀ p u, p.block = a.block → w.cell? p = some u → w'.cell? p = some u) → (Instr.loadAt t (.pointer (some a))).run P w' = .ok (.agg ⟨vs⟩) w' := by
      intro vs hl hc w' hw'
      have hadd : ∀ j, (a.add j).block = a.block := by intro j; unfold Addr.add; split <;> rfl
      have := run_loadCells_list (P := P) w' a vs (fun j v hv => hw' _ _ (hadd j) (hc j v hv))
      rw [hl] at this
      simp [Instr.loadAt, Instr.sureAddr, loadVar, F.run_agg, ha, F.run_size, this]
    cases hsh : ti.sh <;> simp only [hsh] at h
    rename_i se
    cases se <;> simp only at h
    · rename_i l
      cases hz : Nat.beq l.length ti.size <;> simp only [hz] at h
      have hz' := Nat.eq_of_beq_eq_true hz
      have hlen : ∀ {l : List Sh1} {Q : List Value → Prop}, exN l Q → ∃ vs, vs.length = l.length ∧ Q vs := by
        intro l
        induction l with
        | nil => intro Q h; exact ⟨[], rfl, h⟩
        | cons s r ih => intro Q h; obtain ⟨v, hv⟩ := ex1_some h; obtain ⟨vs, h1, h2⟩ := ih hv; exact ⟨v :: vs, by simp [h1], h2⟩
      obtain ⟨vs, h1, h2⟩ := hlen h
      obtain ⟨h3, h4⟩ := cellsAt_use h2
      have key := row vs (h1.trans hz') (fun j v hv => by have := h3 j v hv; rwa [Nat.zero_add] at this)
      exact ⟨_, key w (fun _ _ _ h => h), h4, key⟩
    · rename_i n
      cases hz : Nat.beq n ti.size <;> simp only [hz] at h
      have hz' := Nat.eq_of_beq_eq_true hz
      obtain ⟨vs, h1, h2, h3⟩ := h
      have key := row vs (h1.trans hz') h2
      exact ⟨_, key w (fun _ _ _ h => h), h3, key⟩
theorem ones_use : ∀ {vs : List Value} {Q : Prop}, ones vs Q → (∀ u ∈ vs, u.oneCell' = true) ∧ Q
  | [], Q, h => ⟨fun u hu => (by cases hu), h⟩
  | v :: r, Q, h => by
    obtain ⟨h1, h2⟩ := oneC_use h
    obtain ⟨h3, h4⟩ := ones_use h2
    exact ⟨fun u hu => (List.mem_cons.1 hu).elim (fun e => e ▸ h1) (h3 u), h4⟩
theorem stL_sound {a : Addr} : ∀ {vs : List Value} {i : Nat} {w : World}, (∀ j, j < vs.length → (w.cell? (a.add (i + j))).isSome = true ∧ w.frozen? (a.add (i + j)) = false) → (∀ u ∈ vs, u.oneCell' = true) →
    (storeCells a vs i).run P w = .ok () (stL a i vs w)
  | [], i, w, _, _ => rfl
  | v :: r, i, w, hc, h1 => by
    obtain ⟨h2, h3⟩ := hc 0 (by simp)
    obtain ⟨u, hu⟩ := Option.isSome_iff_exists.1 h2
    have ih := stL_sound (a := a) (vs := r) (i := i + 1) (w := w.setCell (a.add i) v) (fun j hj => by
      have := hc (j + 1) (by simp; omega)
      rw [show i + (j + 1) = i + 1 + j by omega] at this
      refine ⟨?_, by rw [World.frozen?_setCell]; exact this.2⟩
      by_cases e : a.add i = a.add (i + 1 + j)
      · rw [← e]; simp at hu; rw [World.cell?_setCell_same _ _ _ hu]; rfl
      · rw [World.cell?_setCell_other _ _ _ _ e]; exact this.1) (fun x hx => h1 x (by simp [hx]))
    simp only [storeCells, Sem.run_bind, stL]
    rw [run_store P w _ v _ (h1 v (by simp))]
    simp at hu h3
    simp [hu, h3, ih]
theorem storeVC_sound (T : TOk P tt) {t : TypeId} {a : Addr} {v : Value} {w : World} {K : World → Prop} (h : storeVC tt t a v w K) :
    ∃ w', (Instr.storeAt t (.pointer (some a)) v).run P w = .ok () w' ∧ K w' := by
  unfold storeVC at h
  cases hs : tfind tt t <;> simp only [hs] at h
  rename_i ti
  have F := T.fact hs
  have go : ∀ w' : World, (cellsL v).length = ti.size → (storeCells a (cellsL v)).run P w = .ok () w' → (Instr.storeAt t (.pointer (some a)) v).run P w = .ok () w' := by
    intro w' hl hr
    rw [cellsL_eq] at hl hr
    have hl' : v.cells.size = ti.size := by simpa using hl
    simp [Instr.storeAt, Instr.sureAddr, storeVar, F.run_size, hl', hr]
  have row : (cellsL v).length = ti.size → stOk w a ti.size → (∀ u ∈ cellsL v, u.oneCell' = true) → letW (stL a 0 (cellsL v) w) K → ∃ w', (Instr.storeAt t (.pointer (some a)) v).run P w = .ok () w' ∧ K w' := by
    intro h1 h2 h3 h4
    exact ⟨_, go _ h1 (stL_sound (fun j hj => by rw [Nat.zero_add]; exact h2 j (by omega)) h3), h4 _ rfl⟩
  have lit : (match Nat.beq (cellsL v).length ti.size with | true => ones (cellsL v) (stOk w a ti.size ∧ letW (stL a 0 (cellsL v) w) K) | false => False) → ∃ w', (Instr.storeAt t (.pointer (some a)) v).run P w = .ok () w' ∧ K w' := by
    intro h
    cases hz : Nat.beq (cellsL v).length ti.size <;> simp only [hz] at h
    have hz' := Nat.eq_of_beq_eq_true hz
    obtain ⟨h1, h2, h3⟩ := ones_use h
    exact row hz' h2 h1 h3
  cases hsh : ti.sh <;> simp only [hsh] at h
  · rename_i se
    cases se <;> simp only at h
    · cases hz : Nat.beq ti.size 1 <;> simp only [hz] at h
      have hz' := Nat.eq_of_beq_eq_true hz
      split at h
      · rename_i u hu
        obtain ⟨h1, ⟨h2, h3⟩, h4⟩ := oneC_use h
        refine ⟨_, go _ (by rw [hu, hz']; rfl) ?_, h4 _ rfl⟩
        rw [hu]
        obtain ⟨x, hx⟩ := Option.isSome_iff_exists.1 h2
        simp only [storeCells, Sem.run_bind, Addr.add_zero']
        rw [run_store P w _ u _ h1]
        simp [hx, h3]
      · exact h.elim
    · exact lit h
    · exact row h.1 h.2.1 h.2.2.1 h.2.2.2
  · exact lit h
theorem setsAt_foldl (f : List Value → Nat → Value → List Value) (hf : ∀ l i v, f l i v = l.set i v) : ∀ (vs : List Value) (k off : Nat) (cs : List Value),
    (vs.zipIdx k).foldl (fun cs p => f cs (off + p.2) p.1) cs = setsAt cs (off + k) vs
  | [], _, _, _ => rfl
  | v :: r, k, off, cs => by
    simp only [List.zipIdx_cons, List.foldl_cons, hf, setsAt]
    have := setsAt_foldl f hf r (k + 1) off (cs.set (off + k) v)
    simp only [hf] at this
    rw [this, show off + (k + 1) = off + k + 1 by omega]
theorem foldl_setIf (l : List (Value × Nat)) (off : Nat) : ∀ (cells : Array Value),
    (l.foldl (fun (cs : Array Value) p => cs.setIfInBounds (off + p.2) p.1) cells).toList = l.foldl (fun cs p => cs.set (off + p.2) p.1) cells.toList := by
  induction l with
  | nil => intro cells; rfl
  | cons p l ih => intro cells; simp only [List.foldl_cons]; rw [ih]; simp
theorem fold_setIf (vs : Array Value) (off : Nat) (cells : Array Value) :
    (vs.zipIdx.foldl (fun (cs : Array Value) (p : Value × Nat) => cs.setIfInBounds (off + p.2) p.1) cells).toList = setsAt cells.toList off vs.toList := by
  rw [← Array.foldl_toList, Array.toList_zipIdx]
  have := setsAt_foldl (fun l i v => l.set i v) (fun _ _ _ => rfl) vs.toList 0 off cells.toList
  rw [Nat.add_zero] at this
  rw [← this]
  exact foldl_setIf _ _ _
theorem fill_eq {place : Nat → Option (Nat × Nat)} : ∀ {parts : List (Nat × Value)} {cells : Array Value} {cs : List Value}, fillL place cells.toList parts = some cs →
    Instr.fill place cells parts = some ⟨cs⟩
  | [], cells, cs, h => by
    simp only [fillL, Option.some.injEq] at h
    simp only [Instr.fill, Option.some.injEq]
    exact Array.ext' h
  | (i, v) :: r, cells, cs, h => by
    unfold fillL at h
    cases hp : place i with
    | none => simp only [hp] at h; cases h
    | some q =>
      obtain ⟨off, size⟩ := q
      simp only [hp] at h
      cases hb : (Nat.beq (cellsL v).length size && Nat.ble (off + (cellsL v).length) cells.toList.length) <;> simp only [hb] at h
      · cases h
      · simp only [Bool.and_eq_true] at hb
        have h1 := Nat.eq_of_beq_eq_true hb.1
        have h2 := Nat.le_of_ble_eq_true hb.2
        rw [cellsL_eq] at h1 h2 h
        have h1' : v.cells.size = size := by simpa using h1
        have h2' : off + v.cells.size ≤ cells.size := by simpa using h2
        rw [← fold_setIf] at h
        have := fill_eq h
        simp only [Instr.fill, hp]
        rw [if_neg (by simp [h1']; omega)]
        exact this
theorem evP_map {n : Nat} {fr : Env} {a : Act} (hA : Agree n fr a) : ∀ {l : List (Nat × Operand)} {ps : List (Nat × Value)}, evP fr l = some ps → l.map (fun x => (x.1, a.eval x.2)) = ps
  | [], ps, h => Option.some.inj h
  | (i, x) :: r, ps, h => by
    unfold evP at h
    cases hx : ev fr x with
    | none => simp [hx] at h
    | some v =>
      cases hr : evP fr r with
      | none => simp [hx, hr] at h
      | some us =>
        simp only [hx, hr, Option.some.injEq] at h
        rw [← h, List.map_cons, hA.ev hx, evP_map hA hr]
theorem evP_arr {n : Nat} {fr : Env} {a : Act} (hA : Agree n fr a) {l : Array (Nat × Operand)} {ps : List (Nat × Value)} (h : evP fr l.toList = some ps) : (l.map fun (i, x) => (i, a.eval x)) = ⟨ps⟩ := by
  apply Array.ext'
  simpa using evP_map hA h
theorem withP_some {o : Option (List (Nat × Value))} {K : List (Nat × Value) → Prop} (h : withP o K) : ∃ v, o = some v ∧ K v := by
  cases o with
  | none => exact h.elim
  | some v => exact ⟨v, rfl, h⟩
theorem allSz_use (T : TOk P tt) : ∀ {fs : List Field}, allSz tt fs = true → ∀ (w : World), (fs.mapM fun f => do pure (f.offset, ← sizeOf f.type) : Sem (List (Nat × Nat))).run P w = .ok (fs.map fun f => (f.offset, match tfind tt f.type with | some ti => ti.size | none => 0)) w
  | [], _, w => rfl
  | f :: r, h, w => by
    unfold allSz at h
    cases hs : tfind tt f.type <;> simp only [hs] at h
    · cases h
    · rename_i ti
      have := allSz_use T h w
      rw [List.mapM_cons]
      simp only [Sem.run_bind, (T.fact hs).run_size, Result.andThen_ok, Sem.run_pure, this]
      simp [hs]
theorem buildVC_sound (T : TOk P tt) {t : TypeId} {parts : List (Nat × Value)} {K : Value → Prop} (h : buildVC tt t parts K) : Yl P (Instr.build t ⟨parts⟩) K := by
  unfold buildVC at h
  cases hs : tfind tt t <;> simp only [hs] at h
  rename_i ti
  have F := T.fact hs
  obtain ⟨z, hz, h⟩ := withV_some h
  cases hu : ti.und <;> simp only [hu] at h
  case struct fs =>
    cases ha : allSz tt fs.toList <;> simp only [ha] at h
    obtain ⟨cs, hf, hK⟩ := withL_some h
    refine ⟨_, fun w => ?_, hK⟩
    rw [cellsL_eq] at hf
    have hf' := fill_eq hf
    have hm := allSz_use (P := P) T ha w
    have hm2 : (fs.mapM fun f => do pure (f.offset, ← sizeOf f.type) : Sem (Array (Nat × Nat))).run P w = .ok (fs.map fun f => (f.offset, match tfind tt f.type with | some ti => ti.size | none => 0)) w := by
      rw [Array.mapM_eq_mapM_toList]
      simp only [Sem.run_map, hm, Result.andThen_ok]
      congr 1
      apply Array.ext'
      simp
    have hpl : ∀ i, (fs.map fun f => (f.offset, match tfind tt f.type with | some ti => ti.size | none => 0))[i]? = placeS tt fs.toList i := by
      intro i
      unfold placeS
      have hall : ∀ {l : List Field}, allSz tt l = true → ∀ f ∈ l, ∃ ti, tfind tt f.type = some ti := by
        intro l
        induction l with
        | nil => intro _ f hf; cases hf
        | cons g r ih =>
          intro hl f hf
          unfold allSz at hl
          cases hg : tfind tt g.type <;> simp only [hg] at hl
          · cases hl
          · rcases List.mem_cons.1 hf with rfl | hf
            · exact ⟨_, hg⟩
            · exact ih hl f hf
      simp only [Array.getElem?_map, Array.getElem?_toList]
      cases hfi : fs[i]? with
      | none => rfl
      | some f =>
        obtain ⟨ti, hti⟩ := hall ha f (by simpa using Array.mem_of_getElem? hfi)
        simp [hti]
    have hfun : (fun i => (fs.map fun f => (f.offset, match tfind tt f.type with | some ti => ti.size | none => 0))[i]?) = placeS tt fs.toList := funext hpl
    simp only [Instr.build, Sem.run_bind, F.run_zero hz, Result.andThen_ok, F.run_und, hu, hm2, hfun, hf']
    rfl
  case array k e =>
    obtain ⟨sz, h1, h⟩ := tsize_use T h
    obtain ⟨cs, hf, hK⟩ := withL_some h
    rw [cellsL_eq] at hf
    have hf' := fill_eq hf
    exact ⟨_, fun w => by simp [Instr.build, F.run_zero hz, F.run_und, hu, h1, hf'], hK⟩
theorem bSliceVC_sound (T : TOk P tt) {t : TypeId} {len : Nat} {parts : List (Nat × Value)} {w : World} {K : Value → World → Prop} (h : bSliceVC tt t len parts w K) :
    ∃ v w', (Instr.buildSlice t len ⟨parts⟩).run P w = .ok v w' ∧ K v w' := by
  unfold bSliceVC at h
  cases hs : tfind tt t <;> simp only [hs] at h
  rename_i ti
  have F := T.fact hs
  cases hu : ti.und <;> simp only [hu] at h
  rename_i e
  cases he : tfind tt e <;> simp only [he] at h
  rename_i ei
  have G := T.fact he
  obtain ⟨z, hz, h⟩ := withV_some h
  cases hb : Nat.ble (len * ei.size) 16777216 <;> simp only [hb] at h
  have hb' := Nat.le_of_ble_eq_true hb
  obtain ⟨cs, hf, hK⟩ := withL_some h
  refine ⟨_, _, ?_, hK _ rfl⟩
  have hz0 : ∀ w : World, (if len * ei.size = 0 then pure #[] else do pure (← zeroValue e).cells : Sem (Array Value)).run P w = .ok (if len * ei.size = 0 then #[] else z.cells) w := by
    intro w; split
    · rfl
    · simp [G.run_zero hz]
  have hzl : zeroL (zl0 (cellsL z) (len * ei.size)) (len * ei.size) = ((Array.range (len * ei.size)).map ((if len * ei.size = 0 then #[] else z.cells)[· % (if len * ei.size = 0 then #[] else z.cells).size]!)).toList := by
    by_cases h0 : len * ei.size = 0
    · simp [h0, zeroL, zl0]
    · have : Nat.beq (len * ei.size) 0 = false := by cases hq : Nat.beq (len * ei.size) 0 with | true => exact absurd (Nat.eq_of_beq_eq_true hq) h0 | false => rfl
      simp only [zl0, this, h0, if_false, zeroL, cellsL_eq]
      rw [Array.toList_map, Array.toList_range]
      refine List.map_congr_left fun j _ => ?_
      rw [Array.getElem!_eq_getD]
      simp
  rw [hzl] at hf
  have hf' := fill_eq hf
  have hlt : ¬ (len * ei.size > 2 ^ 24) := by omega
  simp only [Instr.buildSlice, Sem.run_bind, F.run_und, hu, Result.andThen_ok, G.run_size, hlt, if_false]
  by_cases h0 : len * ei.size = 0
  · simp only [h0, if_true] at hf'
    simp only [h0, if_true, Sem.run_bind, Sem.run_pure, Result.andThen_ok, hf']
    rfl
  · simp only [h0, if_false] at hf'
    simp only [h0, if_false, Sem.run_bind, Sem.run_pure, Result.andThen_ok, G.run_zero hz, hf']
    rfl
end
end Go.Vc
/- The conditions of operations with effects are sound, part 2. -/
set_option linter.unusedVariables false
namespace Go.Vc
open Go
section
variable {P : Program} {tt : List TI} {fns : List Nat}
def FOk (P : Program) (fns : List Nat) : Prop := ∀ k ∈ fns, Enters P k
theorem fok_of {P : Program} {fns : List Nat} (h : fns.map (fun k => (P.funcs[k]?).map fun fn => (fn.name == "runtime.NumGoroutine", fn.body.isNone)) = fns.map (fun _ => some (false, false))) : FOk P fns := by
  intro k hk
  have := List.map_inj_left.1 h k hk
  cases hf : P.funcs[k]? with
  | none => simp [hf] at this
  | some fn =>
    simp only [hf, Option.map_some, Option.some.injEq, Prod.mk.injEq] at this
    exact ⟨fn, hf, this.1, this.2⟩
theorem memN_mem : ∀ {l : List Nat} {k : Nat}, memN l k = true → k ∈ l
  | [], _, h => by simp [memN] at h
  | x :: r, k, h => by
    unfold memN at h
    cases hb : Nat.beq x k <;> simp only [hb] at h
    · exact List.mem_cons_of_mem _ (memN_mem h)
    · exact List.mem_cons.2 (.inl (Nat.eq_of_beq_eq_true hb).symm)
theorem Enters.run {k : FuncId} (h : Enters P k) (args : Array Value) (w : World) : (callFunc k args).run P w = .ok (.enter k args) w := by
  obtain ⟨fn, h1, h2, h3⟩ := h
  simp only [callFunc, Sem.run_bind, run_program, Result.andThen_ok, h1, h2, h3, Bool.false_eq_true, if_false, Sem.run_pure]
def Nx (o : Oper) (a : Act) (K : Value → World → Prop) : Act → World → Prop := fun a' w' => ∃ v, a' = a.put o.dst v ∧ K v w'
def QPn (pn : Pn) (Q : Exit → Act → World → Prop) (a : Act) : Prop := ∀ p c w, pn = some p → p c w → Q (.panic c) a w
theorem upon_of_value {o : Oper} {a : Act} {w w' : World} {K : Value → World → Prop} {Q : Exit → Act → World → Prop} {v : Value} (h : (execOp a.eval o).run P w = .ok (.value v) w') (hK : K v w') : o.wp P a w (Nx o a K) Q := by
  unfold Oper.wp; rw [h]; exact ⟨v, rfl, hK⟩
theorem upon_of_skip {o : Oper} {a : Act} {w w' : World} {K : Value → World → Prop} {Q : Exit → Act → World → Prop} (h : (execOp a.eval o).run P w = .ok .skip w') (hK : K undef w') : o.wp P a w (Nx o a K) Q := by
  unfold Oper.wp; rw [h]; exact ⟨_, rfl, hK⟩
theorem upon_of_call {o : Oper} {a : Act} {w : World} {K : Value → World → Prop} {Q : Exit → Act → World → Prop} {k : FuncId} {args : Array Value} {sh : Sh} {pn : Pn} (h : (execOp a.eval o).run P w = .ok (.enter k args) w)
    (hc : Calls P k args w (RetP sh pn K)) (hQ : QPn pn Q a) : o.wp P a w (Nx o a K) Q := by
  unfold Oper.wp; rw [h]
  refine hc.mono fun e w' he => ?_
  have he' : (exS sh fun v => e = .returned v ∧ K v w') ∨ ∃ p c, pn = some p ∧ e = .panicked c ∧ p c w' := by
    unfold RetP at he
    cases pn with
    | none => exact .inl he
    | some p =>
      rcases he with he | ⟨c, h1, h2⟩
      · exact .inl he
      · exact .inr ⟨p, c, rfl, h1, h2⟩
  rcases he' with he | ⟨p, c, h1, rfl, h2⟩
  · obtain ⟨v, rfl, hK⟩ := exS_some he
    exact ⟨v, rfl, hK⟩
  · exact hQ p c w' h1 h2
theorem eff_sound (T : TOk P tt) (F : FOk P fns) {n : Nat} {fr : Env} {a : Act} (hA : Agree n fr a) {o : Oper} {w : World} {pn : Pn} {K : Value → World → Prop} {Q : Exit → Act → World → Prop}
    (h : effVC P tt fns fr o w pn K) (hQ : QPn pn Q a) : o.wp P a w (Nx o a K) Q := by
  obtain ⟨dst, op, type, pos, after, guard⟩ := o
  cases op <;> simp only [effVC] at h
  case alloc e =>
    unfold zeroV at h
    cases hs : tfind tt e <;> simp only [hs] at h
    obtain ⟨z, hz, hK⟩ := withV_some h
    refine upon_of_value ?_ (hK _ rfl)
    simp [execOp, Instr.alloc, (T.fact hs).run_zero hz, newVar, newRow, cellsL_eq]
  case box e x =>
    obtain ⟨v, hv, hK⟩ := withV_some h
    refine upon_of_value ?_ (hK _ rfl)
    simp [execOp, Instr.box, newVar, newRow, cellsL_eq, hA.ev hv]
  case build t parts =>
    obtain ⟨ps, hp, h⟩ := withP_some h
    obtain ⟨v, h1, h2⟩ := buildVC_sound (P := P) T h
    refine upon_of_value ?_ h2
    simp [execOp, evP_arr hA hp, h1]
  case buildSlice t len parts =>
    obtain ⟨ps, hp, h⟩ := withP_some h
    obtain ⟨v, w', h1, h2⟩ := bSliceVC_sound (P := P) T h
    refine upon_of_value ?_ h2
    simp [execOp, evP_arr hA hp, h1]
  case load t x =>
    obtain ⟨v, hv, h⟩ := withV_some h
    cases v <;> simp only at h
    obtain ⟨ad, rfl, h⟩ := derefP_some h
    obtain ⟨v, h1, h2, _⟩ := loadVC_sound (P := P) T h
    refine upon_of_value ?_ h2
    simp [execOp, hA.ev hv, h1]
  case store t x y =>
    obtain ⟨v, hv, h⟩ := withV_some h
    obtain ⟨u, hu, h⟩ := withV_some h
    cases v <;> simp only at h
    obtain ⟨ad, rfl, h⟩ := derefP_some h
    obtain ⟨w', h1, h2⟩ := storeVC_sound (P := P) T h
    refine upon_of_skip ?_ h2
    simp [execOp, hA.ev hv, hA.ev hu, h1]
  case convert s d x =>
    obtain ⟨v, hv, h⟩ := withV_some h
    unfold shOf at h
    cases hs : tfind tt d <;> simp only [hs] at h
    obtain ⟨v', w', h1, h2⟩ := exS_some h
    refine upon_of_value ?_ h2
    simp [execOp, hA.ev hv, h1]
  case makeMap t r =>
    cases r <;> simp only at h
    refine upon_of_value ?_ (h _ rfl)
    simp [execOp, Instr.makeMap]
  case makeSlice t l c =>
    obtain ⟨v, hv, h⟩ := withV_some h
    obtain ⟨u, hu, h⟩ := withV_some h
    obtain ⟨v', w', h1, h2⟩ := exS_some h
    refine upon_of_value ?_ h2
    simp [execOp, hA.ev hv, hA.ev hu, h1]
  case lookup t x i ok =>
    obtain ⟨v, hv, h⟩ := withV_some h
    obtain ⟨u, hu, h⟩ := withV_some h
    unfold shOf at h
    cases hs : tfind tt type <;> simp only [hs] at h
    obtain ⟨v', w', h1, h2⟩ := exS_some h
    refine upon_of_value ?_ h2
    simp [execOp, hA.ev hv, hA.ev hu, h1]
  case mapUpdate t m k x =>
    obtain ⟨v, hv, h⟩ := withV_some h
    obtain ⟨u, hu, h⟩ := withV_some h
    obtain ⟨y, hy, h⟩ := withV_some h
    obtain ⟨w', h1, h2⟩ := h
    refine upon_of_skip ?_ h2
    simp [execOp, hA.ev hv, hA.ev hu, hA.ev hy, h1]
  case insert t m k x =>
    obtain ⟨v, hv, h⟩ := withV_some h
    obtain ⟨u, hu, h⟩ := withV_some h
    obtain ⟨y, hy, h⟩ := withV_some h
    obtain ⟨w', h1, h2⟩ := h
    refine upon_of_skip ?_ h2
    simp [execOp, hA.ev hv, hA.ev hu, hA.ev hy, h1]
  case mapEntry t m k =>
    obtain ⟨v, hv, h⟩ := withV_some h
    obtain ⟨u, hu, h⟩ := withV_some h
    unfold shOf at h
    cases hs : tfind tt type <;> simp only [hs] at h
    obtain ⟨v', w', h1, h2⟩ := exS_some h
    refine upon_of_value ?_ h2
    simp [execOp, hA.ev hv, hA.ev hu, h1]
  case entryStore t m k x =>
    obtain ⟨v, hv, h⟩ := withV_some h
    obtain ⟨u, hu, h⟩ := withV_some h
    obtain ⟨y, hy, h⟩ := withV_some h
    obtain ⟨w', h1, h2⟩ := h
    refine upon_of_skip ?_ h2
    simp [execOp, hA.ev hv, hA.ev hu, hA.ev hy, h1]
  case range t x =>
    obtain ⟨v, hv, h⟩ := withV_some h
    obtain ⟨v', w', h1, h2⟩ := exS_some h
    refine upon_of_value ?_ h2
    simp [execOp, hA.ev hv, h1]
  case next x s =>
    obtain ⟨v, hv, h⟩ := withV_some h
    rcases h with ⟨w', h1, h2⟩ | h
    · refine upon_of_value ?_ h2
      simp [execOp, hA.ev hv, h1]
    · unfold shOf at h
      cases hs : tfind tt type <;> simp only [hs] at h
      obtain ⟨v', w', h1, h2⟩ := exS_some h
      refine upon_of_value ?_ h2
      simp [execOp, hA.ev hv, h1]
  case entry x =>
    obtain ⟨v, hv, h⟩ := withV_some h
    unfold shOf at h
    cases hs : tfind tt type <;> simp only [hs] at h
    obtain ⟨v', w', h1, h2⟩ := exS_some h
    refine upon_of_value ?_ h2
    simp [execOp, hA.ev hv, h1]
  case panic x =>
    obtain ⟨v, hv, h⟩ := withV_some h
    cases v <;> simp only at h
    rename_i t u
    cases hp : pn with
    | none => simp only [hp] at h
    | some p =>
      simp only [hp] at h
      unfold Oper.wp
      have : (execOp a.eval { dst, op := .panic x, type, pos, after, guard }).run P w = .halt (.panic (.iface t u)) w := by
        simp [execOp, hA.ev hv, Instr.panic]
      rw [this]
      exact hQ p _ _ hp h
  case call c =>
    unfold callVC at h
    obtain ⟨callee, args, argTypes⟩ := c
    cases callee <;> simp only at h
    case value f =>
      have closure : (withV (ev fr f) fun v => match v with
          | .func fn first cap => match fn with
            | .func k => match first with
              | ⟨[]⟩ => withL (evL fr args.toList) fun vs => shOf tt type fun sh => Enters P k ∧ Calls P k (⟨vs⟩ ++ cap) w (RetP sh pn K)
              | _ => False
            | _ => False
          | _ => False) → Oper.wp P { dst, op := .call { callee := .value f, args, argTypes }, type, pos, after, guard } a w (Nx { dst, op := .call { callee := .value f, args, argTypes }, type, pos, after, guard } a K) Q := by
        intro h
        obtain ⟨v, hv, h⟩ := withV_some h
        cases v <;> simp only at h
        rename_i fn first cap
        cases fn <;> simp only at h
        rename_i k
        rcases first with ⟨_ | ⟨x, xs⟩⟩
        · simp only at h
          obtain ⟨vs, hvs, h⟩ := withL_some h
          unfold shOf at h
          cases hs : tfind tt type <;> simp only [hs] at h
          obtain ⟨he, hc⟩ := h
          refine upon_of_call ?_ hc hQ
          simp only [execOp, resolve, evL_arr hA hvs, hA.ev hv, Deferred.ofValue, Sem.run_bind, Sem.run_pure, Result.andThen_ok, invoke]
          have e : (#[] : Array Value) ++ (⟨vs⟩ : Array Value) = ⟨vs⟩ := by simp
          show (callFunc k ((#[] ++ ⟨vs⟩) ++ cap)).run P w = _
          rw [e]
          exact he.run _ _
        · exact h.elim
      cases f <;> simp only at h
      case func k =>
        obtain ⟨vs, hvs, h⟩ := withL_some h
        unfold shOf at h
        cases hs : tfind tt type <;> simp only [hs] at h
        have hx : (execOp a.eval { dst, op := .call { callee := .value (.func k), args, argTypes }, type, pos, after, guard }).run P w = (callFunc k ⟨vs⟩).run P w := by
          simp only [execOp, resolve, evL_arr hA hvs, Act.eval, Deferred.ofValue, Sem.run_bind, Sem.run_pure, Result.andThen_ok, invoke]
          congr 2
          simp
        cases hm : memN fns k <;> simp only [hm] at h
        · obtain ⟨v', w', h1, h2⟩ := exS_some h
          exact upon_of_value (hx.trans h1) h2
        · exact upon_of_call (hx.trans ((F k (memN_mem hm)).run _ _)) h hQ
      all_goals exact closure h
    case builtin b =>
      cases b <;> simp only at h
      case append =>
        obtain ⟨vs, hvs, h⟩ := withL_some h
        unfold shOf at h
        cases hs : tfind tt type <;> simp only [hs] at h
        obtain ⟨v', w', h1, h2⟩ := exS_some h
        refine upon_of_value ?_ h2
        simp [execOp, resolve, evL_arr hA hvs, invoke, builtin, h1]
      case copy =>
        obtain ⟨vs, hvs, h⟩ := withL_some h
        obtain ⟨v', w', h1, h2⟩ := exS_some h
        refine upon_of_value ?_ h2
        simp [execOp, resolve, evL_arr hA hvs, invoke, builtin, h1]
      case delete =>
        obtain ⟨vs, hvs, h⟩ := withL_some h
        obtain ⟨v', w', h1, h2⟩ := exS_some h
        refine upon_of_value ?_ h2
        simp [execOp, resolve, evL_arr hA hvs, invoke, builtin, h1]
      case clear =>
        obtain ⟨vs, hvs, h⟩ := withL_some h
        obtain ⟨v', w', h1, h2⟩ := exS_some h
        refine upon_of_value ?_ h2
        simp [execOp, resolve, evL_arr hA hvs, invoke, builtin, h1]
      case len =>
        obtain ⟨vs, hvs, h⟩ := withL_some h
        obtain ⟨v', w', h1, h2⟩ := exS_some h
        refine upon_of_value ?_ h2
        simp [execOp, resolve, evL_arr hA hvs, invoke, builtin, h1]
end
end Go.Vc
/- The condition of a list of operations is sound. -/
set_option linter.unusedVariables false
namespace Go.Vc
open Go
def putE (d : Option Tmp) (v : Option Value) (fr : Env) : Env := match d with
  | none => fr
  | some d => (d, v) :: fr
def dOk (n : Nat) (d : Option Tmp) : Bool := match d with
  | none => true
  | some d => Nat.blt d n
def gslot (ops : List Oper) (j : Nat) : Option Tmp := match ops[j]? with
  | some o => o.dst
  | none => none
def guardVC (ops : List Oper) (o : Oper) (fr : Env) (Y N : Env → Prop) : Prop := match o.guard with
  | none => Y fr
  | some (j, want) => match gslot ops j with
    | none => False
    | some d => withV (look fr d) fun gv => match gv with
      | .bool b => brB b fun b' => match (b' == want) with
        | true => Y ((d, some (.bool b')) :: fr)
        | false => N ((d, some (.bool b')) :: fr)
      | .tuple _ => N fr
      | _ => False
def ExtE (W : List Nat) (fr fr' : Env) : Prop := ∀ t v, t ∉ W → look fr t = some v → look fr' t = some v
theorem ExtE.refl (W : List Nat) (fr : Env) : ExtE W fr fr := fun _ _ _ h => h
theorem ExtE.trans {W W' : List Nat} {a b c : Env} (h : ExtE W a b) (h' : ExtE W' b c) : ExtE (W ++ W') a c := fun t v ht hv =>
  h' t v (fun m => ht (List.mem_append.2 (.inr m))) (h t v (fun m => ht (List.mem_append.2 (.inl m))) hv)
theorem ExtE.mono {W W' : List Nat} {a b : Env} (h : ExtE W a b) (hs : ∀ t, t ∈ W → t ∈ W') : ExtE W' a b := fun t v ht hv => h t v (fun m => ht (hs t m)) hv
theorem look_cons (d : Nat) (v : Option Value) (fr : Env) (t : Nat) : look ((d, v) :: fr) t = if d = t then v else look fr t := by
  show (match Nat.beq d t with | true => v | false => look fr t) = _
  by_cases h : d = t
  · subst h; simp
  · have : Nat.beq d t = false := by
      cases hb : Nat.beq d t with
      | false => rfl
      | true => exact absurd (Nat.eq_of_beq_eq_true hb) h
    simp [this, h]
theorem ExtE.put (d : Option Tmp) (v : Option Value) (fr : Env) : ExtE d.toList fr (putE d v fr) := fun t u ht hu => by
  cases d with
  | none => exact hu
  | some d =>
    have : ¬ d = t := fun e => ht (by simp [e])
    simp only [putE, look_cons, this, if_false]
    exact hu
theorem Agree.put {n : Nat} {fr : Env} {a : Act} (h : Agree n fr a) {d : Option Tmp} (hd : dOk n d = true) (v : Value) : Agree n (putE d (some v) fr) (a.put d v) := by
  cases d with
  | none => exact h
  | some d =>
    have hd' : d < a.tmps.size := by
      have : d < n := by simpa [dOk] using hd
      rw [h.size]; exact this
    refine ⟨by simp [Act.put, h.size], h.defers, fun t u hu => ?_⟩
    simp only [putE, look_cons] at hu
    by_cases e : d = t
    · subst e
      simp only [if_true] at hu
      obtain rfl := Option.some.inj hu
      simp [Act.put, hd']
    · simp only [e, if_false] at hu
      have := h.at_ t u hu
      simpa [Act.put, Array.getElem?_setIfInBounds_ne e] using this
theorem Agree.forget {n : Nat} {fr : Env} {a : Act} (h : Agree n fr a) {d : Option Tmp} (v : Value) : Agree n (putE d none fr) (a.put d v) := by
  cases d with
  | none => exact h
  | some d =>
    refine ⟨by simp [Act.put, h.size], h.defers, fun t u hu => ?_⟩
    simp only [putE, look_cons] at hu
    by_cases e : d = t
    · subst e
      simp at hu
    · simp only [e, if_false] at hu
      have := h.at_ t u hu
      simpa [Act.put, Array.getElem?_setIfInBounds_ne e] using this
theorem Agree.knows {n : Nat} {fr : Env} {a : Act} (h : Agree n fr a) {d : Nat} {v : Value} (hd : look fr d = some v) : Agree n ((d, some v) :: fr) a :=
  ⟨h.size, h.defers, fun t u hu => by
    rw [look_cons] at hu
    by_cases e : d = t
    · subst e; simp only [if_true] at hu; rw [← Option.some.inj hu]; exact h.at_ _ _ hd
    · simp only [e, if_false] at hu; exact h.at_ t u hu⟩
theorem ExtE.knows {fr : Env} {d : Nat} {v : Value} (hd : look fr d = some v) (W : List Nat) : ExtE W fr ((d, some v) :: fr) := fun t u _ hu => by
  rw [look_cons]
  by_cases e : d = t
  · subst e; simp only [if_true]; rw [← hd]; exact hu
  · simp only [e, if_false]; exact hu
section
variable {P : Program} {tt : List TI} {fns : List Nat}
theorem guard_use {n : Nat} {ops : List Oper} {o : Oper} {fr : Env} {a : Act} {Y N : Env → Prop} (hA : Agree n fr a) (h : guardVC ops o fr Y N) :
    ∃ fr', Agree n fr' a ∧ (∀ W, ExtE W fr fr') ∧ ((Region.wanted o (yielded ops.toArray a.tmps) = true ∧ Y fr') ∨ (Region.wanted o (yielded ops.toArray a.tmps) = false ∧ N fr')) := by
  unfold guardVC at h
  cases hg : o.guard with
  | none =>
    simp only [hg] at h
    exact ⟨fr, hA, fun W => ExtE.refl W fr, .inl ⟨by simp [Region.wanted, hg], h⟩⟩
  | some gw =>
    obtain ⟨j, want⟩ := gw
    simp only [hg] at h
    cases hs : gslot ops j with
    | none => simp only [hs] at h
    | some d =>
      simp only [hs] at h
      obtain ⟨gv, hgv, h⟩ := withV_some h
      have hd : (((ops.toArray)[j]?).bind (·.dst)) = some d := by
        unfold gslot at hs
        cases ho : ops[j]? with
        | none => simp [ho] at hs
        | some o' => simp only [ho] at hs; simp [ho, hs]
      cases gv <;> simp only at h
      case tuple vs =>
        refine ⟨fr, hA, fun W => ExtE.refl W fr, .inr ⟨?_, h⟩⟩
        have hy : yielded ops.toArray a.tmps j = none := by
          unfold yielded
          rw [hd]
          have := hA.at_ d _ hgv
          cases ha : a.tmps[d]? with
          | none => simp [ha]
          | some u => simp only [Array.getD_eq_getD_getElem?, ha, Option.getD_some] at this; simp [ha, this]
        simp [Region.wanted, hg, hy]
      rename_i b
      have h := brB_use h
      have hy : yielded ops.toArray a.tmps j = some b := by
        unfold yielded
        rw [hd]
        have := hA.at_ d _ hgv
        have h2 : a.tmps[d]? = some (.bool b) := by
          cases ha : a.tmps[d]? with
          | none => simp [ha, undef] at this
          | some u => simp only [Array.getD_eq_getD_getElem?, ha, Option.getD_some] at this; rw [this]
        simp [h2]
      refine ⟨(d, some (.bool b)) :: fr, hA.knows hgv, ExtE.knows hgv, ?_⟩
      have hw : Region.wanted o (yielded ops.toArray a.tmps) = (b == want) := by
        simp only [Region.wanted, hg, hy]
        cases b <;> cases want <;> rfl
      rw [hw]
      cases hb : (b == want) <;> simp only [hb] at h
      · exact .inr ⟨rfl, h⟩
      · exact .inl ⟨rfl, h⟩
def Beh (n : Nat) (W : List Nat) (fr : Env) (N : Env → World → Prop) (a : Act) (w : World) : Prop := ∃ fr', Agree n fr' a ∧ ExtE W fr fr' ∧ N fr' w
def dstsL (l : List Oper) : List Nat := l.flatMap fun o => o.dst.toList
theorem Beh.from {n : Nat} {W W' : List Nat} {fr fr0 : Env} {N : Env → World → Prop} {a : Act} {w : World} (h : Beh n W fr N a w) (h0 : ExtE W' fr0 fr) : Beh n (W' ++ W) fr0 N a w :=
  let ⟨fr', h1, h2, h3⟩ := h
  ⟨fr', h1, h0.trans h2, h3⟩
end
end Go.Vc
