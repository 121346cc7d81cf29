/- Frames with private variables: the conditions of operations, and that they are sound. -/
import Derived.Test.YtlofbfbcnlgmaaaVd1
set_option linter.unusedVariables false
namespace Go.Vc
open Go Go.RowKit

/-- What a function's condition is reckoned with: types, functions that are entered, private variables, the variable that a pointer is to, variables that are laid for good, functions that turn more than new blocks. -/
structure Cfg where
  P : Program
  tt : List TI
  fns : List Nat
  pv : List Nat
  pt : List (Nat × Nat)
  pub : List Nat
  tch : List Nat
  tchV : Bool
  pubAll : Bool

abbrev PE := List (Nat × Option (Nat × Nat))
abbrev PS := List (Nat × List Value)
def plook : PE → Nat → Option (Nat × Nat)
  | [], _ => none
  | (d, e) :: r, t => match Nat.beq d t with
    | true => e
    | false => plook r t
def slook : PS → Nat → Option (List Value)
  | [], _ => none
  | (d, e) :: r, t => match Nat.beq d t with
    | true => some e
    | false => slook r t
def killE (p : Nat) : Option (Nat × Nat) → Option (Nat × Nat)
  | none => none
  | some (q, o) => match Nat.beq q p with
    | true => none
    | false => some (q, o)
def killP (p : Nat) : PE → PE
  | [] => []
  | (t, e) :: r => (t, killE p e) :: killP p r
structure St where
  fr : Env
  pe : PE
  ps : PS
  dirty : Bool
def putPE (d : Option Tmp) (e : Option (Nat × Nat)) (pe : PE) : PE := match d with
  | none => pe
  | some d => (d, e) :: pe
def St.put (st : St) (d : Option Tmp) (v : Value) : St := ⟨putE d (some v) st.fr, putPE d none st.pe, st.ps, st.dirty⟩
def St.ptr (st : St) (d : Option Tmp) (p o : Nat) : St := ⟨putE d none st.fr, putPE d (some (p, o)) st.pe, st.ps, st.dirty⟩
def St.newP (st : St) (d : Nat) (L : List Value) : St := ⟨(d, none) :: st.fr, (d, some (d, 0)) :: killP d st.pe, (d, L) :: st.ps, true⟩
def St.setP (st : St) (p : Nat) (L : List Value) : St := ⟨st.fr, st.pe, (p, L) :: st.ps, true⟩
def oneB : Value → Bool
  | .agg _ => false
  | .tuple _ => false
  | _ => true
def onesB : List Value → Bool
  | [] => true
  | v :: r => oneB v && onesB r

def loadP (tt : List TI) (t : TypeId) (cs : List Value) (off : Nat) : Option Value := match tfind tt t with
  | some ti => match isAggD ti.und with
    | true => match Nat.beq ((cs.drop off).take ti.size).length ti.size with
      | true => some (.agg ⟨(cs.drop off).take ti.size⟩)
      | false => none
    | false => cs[off]?
  | none => none
def stP (tt : List TI) (t : TypeId) (cs : List Value) (off : Nat) (v : Value) : Option (List Value) := match tfind tt t with
  | some ti => match Nat.beq (cellsL v).length ti.size && (Nat.ble (off + (cellsL v).length) cs.length && onesB (cellsL v)) with
    | true => some (setsAt cs off (cellsL v))
    | false => none
  | none => none
def fldP (tt : List TI) (t : TypeId) (f : Nat) : Option Nat := match tfind tt t with
  | some ti => match ti.und with
    | .struct fs => match fs[f]? with
      | some fd => match tfind tt fd.type with
        | some fi => match Nat.beq fi.size 0 with
          | true => none
          | false => some fd.offset
        | none => none
      | none => none
    | _ => none
  | none => none
def zeroC (tt : List TI) (t : TypeId) : Option (List Value) := match tfind tt t with
  | some ti => match ti.zero with
    | some z => some (cellsL z)
    | none => none
  | none => none
def ptOf : List (Nat × Nat) → Nat → Option Nat
  | [], _ => none
  | (d, e) :: r, t => match Nat.beq d t with
    | true => some e
    | false => ptOf r t
def eqO (a : Option Nat) (b : Nat) : Bool := match a with
  | some a => Nat.beq a b
  | none => false
def plookO (pe : PE) (x : Operand) : Option (Nat × Nat) := match x with
  | .tmp s => plook pe s
  | _ => none
def tmpO (x : Operand) : Nat := match x with
  | .tmp s => s
  | _ => 0

/-- An operation on a private variable: none if it is no such; some none if it is barred. -/
def prvOp (c : Cfg) (o : Oper) (st : St) : Option (Option St) := match o.op with
  | .alloc e => match o.dst with
    | some d => match memN c.pv d with
      | true => match zeroC c.tt e with
        | some L => some (some (st.newP d L))
        | none => some none
      | false => none
    | none => none
  | .box e x => match o.dst with
    | some d => match memN c.pv d with
      | true => match ev st.fr x with
        | some v => some (some (st.newP d (cellsL v)))
        | none => some none
      | false => none
    | none => none
  | .load t x => match plookO st.pe x with
    | some (p, off) => match slook st.ps p with
      | some cs => match loadP c.tt t cs off with
        | some v => some (some (st.put o.dst v))
        | none => some none
      | none => some none
    | none => none
  | .store t x y => match plookO st.pe x with
    | some (p, off) => match slook st.ps p with
      | some cs => match ev st.fr y with
        | some v => match stP c.tt t cs off v with
          | some L => match eqO (ptOf c.pt (tmpO x)) p with
            | true => some (some ((st.setP p L).put o.dst undef))
            | false => some none
          | none => some none
        | none => some none
      | none => some none
    | none => none
  | .fieldAddr t x f => match plookO st.pe x with
    | some (p, off) => match fldP c.tt t f with
      | some k => some (some (st.ptr o.dst p (off + k)))
      | none => some none
    | none => none
  | .nilCheck x => match plookO st.pe x with
    | some (p, off) => some (some (st.ptr o.dst p off))
    | none => none
  | .move x => match plookO st.pe x with
    | some (p, off) => some (some (st.ptr o.dst p off))
    | none => none
  | .assign x => match plookO st.pe x with
    | some (p, off) => some (some (st.ptr o.dst p off))
    | none => none
  | _ => none

def effB (tt : List TI) (o : Oper) : Bool := match o.op with
  | .convert s d _ => convEff tt s d
  | .call c => match c.callee with
    | .builtin .len => match c.argTypes.toList with
      | t :: _ => match tfind tt t with
        | some ti => match ti.und with
          | .map _ _ => true
          | _ => false
        | none => false
      | [] => false
    | _ => isEff o.op
  | op => isEff op

def storeG (tt : List TI) (B : Nat) (M : Nat → Prop) (pub : Bool) (t : TypeId) (ad : Addr) (v : Value) (g : G) (K : G → Prop) : Prop := match tfind tt t with
  | some ti => match Nat.beq (cellsL v).length ti.size && onesB (cellsL v) with
    | true => stOk g.w ad ti.size ∧ ¬ g.X ad.block ∧ mutAt g ad ti.size ∧ (ad.block < B → M ad.block) ∧ ∀ g', StG pub g ad (cellsL v) g' → K g'
    | false => False
  | none => False
def bSliceG (tt : List TI) (t : TypeId) (len : Nat) (parts : List (Nat × Value)) (g : G) (K : Value → G → Prop) : Prop := match tfind tt t with
  | some ti => match ti.und with
    | .slice e => match tfind tt e with
      | some ei => withV ei.zero fun z => match Nat.ble (len * ei.size) 16777216 with
        | true => withL (fillL (fun i => some (i * ei.size, ei.size)) (zeroL (zl0 (cellsL z) (len * ei.size)) (len * ei.size)) parts) fun cs =>
            ∀ g', NewL g g' e cs → K (.slice (some ⟨g.w.heap.size, 0, none⟩) len len) g'
        | false => False
      | none => False
    | _ => False
  | none => False
def retG (sh : Sh) (K : Value → G → Prop) : Value → G → Prop := fun v g' => exS sh fun u => v = u ∧ K u g'
def othG (c : Cfg) (B : Nat) (M : Nat → Prop) (fr : Env) (o : Oper) (g : G) (K : Value → G → Prop) : Prop :=
  effVC c.P c.tt c.fns fr o g.w none fun v w' => ∃ g', g'.w = w' ∧ Stp B M g g' ∧ K v g'
def callK (c : Cfg) (B : Nat) (M : Nat → Prop) (touch : Bool) (k : FuncId) (args : Array Value) (g : G) (Q : Value → G → Prop) : Prop := match touch with
  | false => CallsP c.P k args g Q
  | true => ∃ M1 : Nat → Prop, (∀ b, b < B → M1 b → M b) ∧ CallsG c.P k args g M1 Q
def callG (c : Cfg) (B : Nat) (M : Nat → Prop) (fr : Env) (o : Oper) (cl : Call) (g : G) (K : Value → G → Prop) : Prop := match cl.callee with
  | .value f => match f with
    | .func k => match memN c.fns k with
      | true => withL (evL fr cl.args.toList) fun vs => shOf c.tt o.type fun sh => callK c B M (memN c.tch k) k ⟨vs⟩ g (retG sh K)
      | false => othG c B M fr o g K
    | f => withV (ev fr f) fun v => match v with
      | .func fn first cap => match fn with
        | .func k => match first with
          | ⟨[]⟩ => withL (evL fr cl.args.toList) fun vs => shOf c.tt o.type fun sh => Enters c.P k ∧ callK c B M c.tchV k (⟨vs⟩ ++ cap) g (retG sh K)
          | _ => False
        | _ => False
      | _ => False
  | _ => othG c B M fr o g K
def dstO (o : Option Tmp) : Nat := match o with
  | some d => d
  | none => 0
def effG (c : Cfg) (B : Nat) (M : Nat → Prop) (fr : Env) (o : Oper) (g : G) (K : Value → G → Prop) : Prop := match o.op with
  | .alloc e => zeroV c.tt e fun z => ∀ g', NewD g g' e (cellsL z) → K (.pointer (some ⟨g.w.heap.size, 0, none⟩)) g'
  | .box e x => withV (ev fr x) fun v => match memN c.pub (dstO o.dst) with
    | true => ∀ g', NewL g g' e (cellsL v) → K (.pointer (some ⟨g.w.heap.size, 0, none⟩)) g'
    | false => ∀ g', NewD g g' e (cellsL v) → K (.pointer (some ⟨g.w.heap.size, 0, none⟩)) g'
  | .build t parts => withP (evP fr parts.toList) fun ps => buildVC c.tt t ps fun v => K v g
  | .buildSlice t len parts => withP (evP fr parts.toList) fun ps => bSliceG c.tt t len ps g K
  | .load t x => withV (ev fr x) fun v => match v with
    | .pointer a => derefP a fun ad => loadVC c.tt t ad g.w fun v => K v g
    | _ => False
  | .store t x y => withV (ev fr x) fun v => withV (ev fr y) fun u => match v with
    | .pointer a => derefP a fun ad => storeG c.tt B M (memN c.pub (tmpO x)) t ad u g fun g' => K undef g'
    | _ => False
  | .makeMap _ r => match r with
    | none => ∀ g', NewM g g' → K (.map (some g.w.heap.size)) g'
    | some _ => False
  | .call cl => callG c B M fr o cl g K
  | _ => othG c B M fr o g K

def flushG (st : St) (g : G) (K : St → G → Prop) : Prop := match st.dirty with
  | true => ∀ g', Ex g g' → K ⟨st.fr, st.pe, st.ps, false⟩ g'
  | false => K st g
def opG (c : Cfg) (B : Nat) (M : Nat → Prop) (o : Oper) (st : St) (g : G) (K : St → G → Prop) : Prop := match prvOp c o st with
  | some r => match r with
    | some st' => K st' g
    | none => False
  | none => match effB c.tt o with
    | false => pureVC c.tt st.fr o fun v => K (st.put o.dst v) g
    | true => flushG st g fun st g => effG c B M st.fr o g fun v g' => K (st.put o.dst v) g'

/-! ### Soundness of effects -/
section
variable {c : Cfg} {B : Nat} {M : Nat → Prop}

theorem onesB_use : ∀ {l : List Value}, onesB l = true → ∀ u ∈ l, u.oneCell' = true
  | [], _, _, h => by cases h
  | v :: r, h, u, hu => by
    simp only [onesB, Bool.and_eq_true] at h
    rcases List.mem_cons.1 hu with rfl | hu
    · have := h.1
      cases u <;> first | rfl | cases this
    · exact onesB_use h.2 u hu

theorem storeAt_run {P : Program} {tt : List TI} (T : TOk P tt) {t : TypeId} {ti : TI} (ht : tfind tt t = some ti) {a : Addr} {v : Value} {w : World} (hl : (cellsL v).length = ti.size) (hs : stOk w a ti.size) (h1 : ∀ u ∈ cellsL v, u.oneCell' = true) :
    (Instr.storeAt t (.pointer (some a)) v).run P w = .ok () (stL a 0 (cellsL v) w) := by
  have F := T.fact ht
  have hr : (storeCells a (cellsL v)).run P w = .ok () (stL a 0 (cellsL v) w) := stL_sound (fun j hj => by rw [Nat.zero_add]; exact hs j (by omega)) h1
  rw [cellsL_eq] at hl hr ⊢
  have hl' : v.cells.size = ti.size := by simpa using hl
  simp [Instr.storeAt, Instr.sureAddr, storeVar, F.run_size, hl', hr]

theorem loadAt_run {P : Program} {tt : List TI} (T : TOk P tt) {t : TypeId} {ad : Addr} {v : Value} {w : World} {cs : List Value} {off : Nat} (h : loadP tt t cs off = some v) (hc : ∀ j u, cs[off + j]? = some u → w.cell? (ad.add j) = some u) :
    (Instr.loadAt t (.pointer (some ad))).run P w = .ok v w := by
  unfold loadP at h
  cases hs : tfind tt t <;> simp only [hs] at h
  · cases h
  · rename_i ti
    have F := T.fact hs
    cases ha : isAggD ti.und <;> simp only [ha] at h
    · have e := hc 0 v (by simpa using h)
      rw [Addr.add_zero'] at e
      simp [Instr.loadAt, Instr.sureAddr, loadVar, F.run_agg, ha, e]
    · cases hl : Nat.beq ((cs.drop off).take ti.size).length ti.size <;> simp only [hl] at h
      · cases h
      · have hl' := Nat.eq_of_beq_eq_true hl
        obtain rfl := Option.some.inj h
        have := run_loadCells_list (P := P) w ad ((cs.drop off).take ti.size) (fun j u hu => by
          have hj : j < ti.size := by
            have := (List.getElem?_eq_some_iff.1 hu).1
            omega
          rw [List.getElem?_take, if_pos hj, List.getElem?_drop] at hu
          exact hc j u hu)
        rw [hl'] at this
        simp [Instr.loadAt, Instr.sureAddr, loadVar, F.run_agg, ha, F.run_size, this]

/-- What stands behind an operation with effects. -/
def NxG (B : Nat) (M : Nat → Prop) (o : Oper) (a : Act) (g : G) (K : Value → G → Prop) : Act → World → Prop := Nx o a fun v w' => ∃ g', g'.w = w' ∧ Stp B M g g' ∧ K v g'

theorem oth_sound (T : TOk c.P c.tt) (F : FOk c.P c.fns) {n : Nat} {fr : Env} {a : Act} (hA : Agree n fr a) {o : Oper} {g : G} {K : Value → G → Prop} {Q : Exit → Act → World → Prop} (h : othG c B M fr o g K) : o.wp c.P a g.w (NxG B M o a g K) Q :=
  eff_sound T F hA h (fun p c w hp => by cases hp)

theorem calls_ret {P : Program} {k : FuncId} {args : Array Value} {g : G} {M1 : Nat → Prop} {sh : Sh} {K : Value → G → Prop} (hB : B ≤ g.size) (hM : ∀ b, b < B → M1 b → M b) (h : CallsG P k args g M1 (retG sh K)) :
    Calls P k args g.w (RetP sh none fun v w' => ∃ g', g'.w = w' ∧ Stp B M g g' ∧ K v g') := by
  refine Calls.mono h fun e w' he => ?_
  obtain ⟨v, g', rfl, rfl, hs, hr⟩ := he
  have hs' : Stp B M g g' := hs.mono hB hM
  have key : ∀ {sh : Sh} {Q Q' : Value → Prop}, (∀ v, Q v → Q' v) → exS sh Q → exS sh Q' := by
    have k1 : ∀ {s : Sh1} {Q Q' : Value → Prop}, (∀ v, Q v → Q' v) → ex1 s Q → ex1 s Q' := by
      intro s Q Q' hq h
      cases s
      case sl => obtain ⟨a, l, c, h⟩ := h; exact ⟨a, l, c, hq _ h⟩
      case fn => obtain ⟨a, c, h⟩ := h; exact ⟨a, c, hq _ h⟩
      all_goals (obtain ⟨a, h⟩ := h; exact ⟨a, hq _ h⟩)
    have kN : ∀ {l : List Sh1} {Q Q' : List Value → Prop}, (∀ v, Q v → Q' v) → exN l Q → exN l Q' := by
      intro l
      induction l with
      | nil => intro Q Q' hq h; exact hq _ h
      | cons s r ih => intro Q Q' hq h; exact k1 (fun v hv => ih (fun vs => hq (v :: vs)) hv) h
    have kE : ∀ {s : ShE} {Q Q' : Value → Prop}, (∀ v, Q v → Q' v) → exE s Q → exE s Q' := by
      intro s Q Q' hq h
      cases s with
      | one s => exact k1 hq h
      | agg l => exact kN (fun vs => hq _) h
      | arr n => obtain ⟨vs, hl, h⟩ := h; exact ⟨vs, hl, hq _ h⟩
    have kT : ∀ {l : List ShE} {Q Q' : List Value → Prop}, (∀ v, Q v → Q' v) → exT l Q → exT l Q' := by
      intro l
      induction l with
      | nil => intro Q Q' hq h; exact hq _ h
      | cons s r ih => intro Q Q' hq h; exact kE (fun v hv => ih (fun vs => hq (v :: vs)) hv) h
    intro sh Q Q' hq h
    cases sh with
    | e s => exact kE hq h
    | tup l => exact kT (fun vs => hq _) h
  exact key (fun u hu => ⟨by rw [hu.1], g', rfl, hs', hu.2⟩) hr

theorem callK_use {P : Program} {k : FuncId} {args : Array Value} {g : G} {sh : Sh} {K : Value → G → Prop} {touch : Bool} (hP : c.P = P) (hB : B ≤ g.size) (h : callK c B M touch k args g (retG sh K)) :
    Calls P k args g.w (RetP sh none fun v w' => ∃ g', g'.w = w' ∧ Stp B M g g' ∧ K v g') := by
  subst hP
  cases touch with
  | false => exact calls_ret hB (fun b _ h => h.elim) h
  | true => obtain ⟨M1, hM, h⟩ := h; exact calls_ret hB hM h

theorem effG_sound (T : TOk c.P c.tt) (F : FOk c.P c.fns) {n : Nat} {fr : Env} {a : Act} (hA : Agree n fr a) {o : Oper} {g : G} (hB : B ≤ g.size) {K : Value → G → Prop} {Q : Exit → Act → World → Prop}
    (h : effG c B M fr o g K) : o.wp c.P a g.w (NxG B M o a g K) Q := by
  obtain ⟨dst, op, type, pos, after, guard⟩ := o
  cases op
  case alloc e =>
    simp only [effG, zeroV] at h
    cases hs : tfind c.tt e <;> simp only [hs] at h
    obtain ⟨z, hz, hK⟩ := withV_some h
    refine upon_of_value ?_ ⟨_, rfl, push_stp hB _ _ _, hK _ (push_newD _ _ _)⟩
    simp [execOp, Instr.alloc, (T.fact hs).run_zero hz, newVar, newRow, cellsL_eq, G.push]
  case box e x =>
    simp only [effG] at h
    obtain ⟨v, hv, hK⟩ := withV_some h
    cases hp : memN c.pub (dstO dst) <;> simp only [hp] at hK
    · refine upon_of_value ?_ ⟨_, rfl, push_stp hB _ _ _, hK _ (push_newD _ _ _)⟩
      simp [execOp, Instr.box, newVar, newRow, cellsL_eq, hA.ev hv, G.push]
    · refine upon_of_value ?_ ⟨_, rfl, push_stp hB _ _ _, hK _ (push_newL _ _ _)⟩
      simp [execOp, Instr.box, newVar, newRow, cellsL_eq, hA.ev hv, G.push]
  case build t parts =>
    simp only [effG] at h
    obtain ⟨ps, hp, h⟩ := withP_some h
    obtain ⟨v, h1, h2⟩ := buildVC_sound (P := c.P) T h
    refine upon_of_value ?_ ⟨g, rfl, Stp.refl _ _ _, h2⟩
    simp [execOp, evP_arr hA hp, h1]
  case buildSlice t len parts =>
    simp only [effG] at h
    obtain ⟨ps, hp, h⟩ := withP_some h
    have h' : bSliceVC c.tt t len ps g.w fun v w' => ∃ g', g'.w = w' ∧ Stp B M g g' ∧ K v g' := by
      unfold bSliceG at h
      unfold bSliceVC
      cases hs : tfind c.tt t <;> simp only [hs] at h ⊢
      rename_i ti
      cases hu : ti.und <;> simp only [hu] at h ⊢
      rename_i e
      cases he : tfind c.tt e <;> simp only [he] at h ⊢
      rename_i ei
      obtain ⟨z, hz, h⟩ := withV_some h
      rw [hz]
      show match Nat.ble (len * ei.size) 16777216 with | true => _ | false => False
      cases hb : Nat.ble (len * ei.size) 16777216 <;> simp only [hb] at h ⊢
      obtain ⟨cs, hf, hK⟩ := withL_some h
      rw [hf]
      intro w' hw'
      subst hw'
      exact ⟨_, rfl, push_stp hB (.cells ⟨cs⟩ e) _ _, hK _ (push_newL _ _ _)⟩
    obtain ⟨v, w', h1, h2⟩ := bSliceVC_sound (P := c.P) T h'
    refine upon_of_value ?_ h2
    simp [execOp, evP_arr hA hp, h1]
  case load t x =>
    simp only [effG] at h
    obtain ⟨v, hv, h⟩ := withV_some h
    cases v <;> simp only at h
    obtain ⟨ad, rfl, h⟩ := derefP_some h
    obtain ⟨v, h1, h2, _⟩ := loadVC_sound (P := c.P) T h
    refine upon_of_value ?_ ⟨g, rfl, Stp.refl _ _ _, h2⟩
    simp [execOp, hA.ev hv, h1]
  case store t x y =>
    simp only [effG] at h
    replace h := withV_some h
    obtain ⟨v, hv, h⟩ := h
    replace h := withV_some h
    obtain ⟨u, hu, h⟩ := h
    cases v <;> simp only at h
    replace h := derefP_some h
    obtain ⟨ad, rfl, h⟩ := h
    unfold storeG at h
    cases hs : tfind c.tt t <;> simp only [hs] at h
    rename_i ti
    cases hb : (Nat.beq (cellsL u).length ti.size && onesB (cellsL u)) <;> simp only [hb] at h
    simp only [Bool.and_eq_true] at hb
    have hl := Nat.eq_of_beq_eq_true hb.1
    obtain ⟨h1, h2, h3, h4, h5⟩ := h
    have hr := storeAt_run T hs hl h1 (onesB_use hb.2)
    refine upon_of_skip ?_ ⟨_, rfl, store_stp (pub := memN c.pub (tmpO x)) h2 (by rw [hl]; exact h3) h4, h5 _ (store_stG _ _ _ _)⟩
    simp [execOp, hA.ev hv, hA.ev hu, hr, G.store]
  case makeMap t r =>
    simp only [effG] at h
    cases r <;> simp only at h
    refine upon_of_value ?_ ⟨_, rfl, push_stp hB _ _ _, h _ (push_newM _)⟩
    simp [execOp, Instr.makeMap, G.push]
  case call cl =>
    replace h : callG c B M fr { dst, op := .call cl, type, pos, after, guard } cl g K := h
    have Q0 : QPn none Q a := fun p c w hp => by cases hp
    obtain ⟨callee, args, argTypes⟩ := cl
    unfold callG at h
    cases callee <;> simp only at h
    case value f =>
      have closure : (withV (ev fr f) fun v => match v with
          | .func fn first cap => match fn with
            | .func k => match first with
              | ⟨[]⟩ => withL (evL fr args.toList) fun vs => shOf c.tt type fun sh => Enters c.P k ∧ callK c B M c.tchV k (⟨vs⟩ ++ cap) g (retG sh K)
              | _ => False
            | _ => False
          | _ => False) → (match f with
            | .func k => False
            | f => True) → Oper.wp c.P { dst, op := .call { callee := .value f, args, argTypes }, type, pos, after, guard } a g.w (NxG B M { dst, op := .call { callee := .value f, args, argTypes }, type, pos, after, guard } a g K) Q := by
        intro h hf
        refine eff_sound (n := n) (pn := none) T F hA (o := { dst, op := .call { callee := .value f, args, argTypes }, type, pos, after, guard }) ?_ Q0
        have : callVC c.P c.tt c.fns fr { callee := .value f, args, argTypes } type g.w none fun v w' => ∃ g', g'.w = w' ∧ Stp B M g g' ∧ K v g' := by
          unfold callVC
          cases f
          case func k => exact hf.elim
          all_goals
            obtain ⟨v, hv, h⟩ := withV_some h
            show withV _ _
            rw [hv]
            cases v <;> simp only at h
            rename_i fn first cap
            cases fn <;> simp only at h
            rename_i k
            rcases first with ⟨_ | ⟨x, xs⟩⟩
            · simp only at h
              obtain ⟨vs, hvs, h⟩ := withL_some h
              unfold shOf at h
              cases hs : tfind c.tt type <;> simp only [hs] at h
              obtain ⟨he, hc⟩ := h
              show withL _ _
              rw [hvs]
              simp only [withL, shOf, hs]
              exact ⟨he, callK_use rfl hB hc⟩
            · exact h.elim
        exact this
      cases f <;> simp only at h
      case func k =>
        cases hm : memN c.fns k <;> simp only [hm] at h
        · exact oth_sound T F hA h
        · obtain ⟨vs, hvs, h⟩ := withL_some h
          unfold shOf at h
          cases hs : tfind c.tt type <;> simp only [hs] at h
          refine eff_sound (n := n) (pn := none) T F hA (o := { dst, op := .call { callee := .value (.func k), args, argTypes }, type, pos, after, guard }) ?_ Q0
          have : callVC c.P c.tt c.fns fr { callee := .value (.func k), args, argTypes } type g.w none fun v w' => ∃ g', g'.w = w' ∧ Stp B M g g' ∧ K v g' := by
            unfold callVC
            show withL _ _
            rw [hvs]
            simp only [withL, shOf, hs, hm]
            exact callK_use rfl hB h
          exact this
      all_goals exact closure h trivial
    all_goals exact oth_sound T F hA h
  all_goals exact oth_sound T F hA h
end
end Go.Vc
