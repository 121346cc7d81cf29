/- The conditions of operations with effects are sound, part 2. -/
import Derived.Test.YtcpclpkcanikiaaVc7
set_option linter.unusedVariables false
namespace Go.Vc
open Go

section
variable {P : Program} {tt : List TI} {fns : List Nat}

def FOk (P : Program) (fns : List Nat) : Prop := ∀ k ∈ fns, Enters P k
theorem fok_of {P : Program} {fns : List Nat} (h : fns.map (fun k => (P.funcs[k]?).map fun fn => (fn.name == "runtime.NumGoroutine", fn.body.isNone)) = fns.map (fun _ => some (false, false))) : FOk P fns := by
  intro k hk
  have := List.map_inj_left.1 h k hk
  cases hf : P.funcs[k]? with
  | none => simp [hf] at this
  | some fn =>
    simp only [hf, Option.map_some, Option.some.injEq, Prod.mk.injEq] at this
    exact ⟨fn, hf, this.1, this.2⟩
theorem memN_mem : ∀ {l : List Nat} {k : Nat}, memN l k = true → k ∈ l
  | [], _, h => by simp [memN] at h
  | x :: r, k, h => by
    unfold memN at h
    cases hb : Nat.beq x k <;> simp only [hb] at h
    · exact List.mem_cons_of_mem _ (memN_mem h)
    · exact List.mem_cons.2 (.inl (Nat.eq_of_beq_eq_true hb).symm)
theorem Enters.run {k : FuncId} (h : Enters P k) (args : Array Value) (w : World) : (callFunc k args).run P w = .ok (.enter k args) w := by
  obtain ⟨fn, h1, h2, h3⟩ := h
  simp only [callFunc, Sem.run_bind, run_program, Result.andThen_ok, h1, h2, h3, Bool.false_eq_true, if_false, Sem.run_pure]

/-- What stands behind an operation. -/
def Nx (o : Oper) (a : Act) (K : Value → World → Prop) : Act → World → Prop := fun a' w' => ∃ v, a' = a.put o.dst v ∧ K v w'
def QPn (pn : Pn) (Q : Exit → Act → World → Prop) (a : Act) : Prop := ∀ p c w, pn = some p → p c w → Q (.panic c) a w

theorem upon_of_value {o : Oper} {a : Act} {w w' : World} {K : Value → World → Prop} {Q : Exit → Act → World → Prop} {v : Value} (h : (execOp a.eval o).run P w = .ok (.value v) w') (hK : K v w') : o.wp P a w (Nx o a K) Q := by
  unfold Oper.wp; rw [h]; exact ⟨v, rfl, hK⟩
theorem upon_of_skip {o : Oper} {a : Act} {w w' : World} {K : Value → World → Prop} {Q : Exit → Act → World → Prop} (h : (execOp a.eval o).run P w = .ok .skip w') (hK : K undef w') : o.wp P a w (Nx o a K) Q := by
  unfold Oper.wp; rw [h]; exact ⟨_, rfl, hK⟩
theorem upon_of_call {o : Oper} {a : Act} {w : World} {K : Value → World → Prop} {Q : Exit → Act → World → Prop} {k : FuncId} {args : Array Value} {sh : Sh} {pn : Pn} (h : (execOp a.eval o).run P w = .ok (.enter k args) w)
    (hc : Calls P k args w (RetP sh pn K)) (hQ : QPn pn Q a) : o.wp P a w (Nx o a K) Q := by
  unfold Oper.wp; rw [h]
  refine hc.mono fun e w' he => ?_
  have he' : (exS sh fun v => e = .returned v ∧ K v w') ∨ ∃ p c, pn = some p ∧ e = .panicked c ∧ p c w' := by
    unfold RetP at he
    cases pn with
    | none => exact .inl he
    | some p =>
      rcases he with he | ⟨c, h1, h2⟩
      · exact .inl he
      · exact .inr ⟨p, c, rfl, h1, h2⟩
  rcases he' with he | ⟨p, c, h1, rfl, h2⟩
  · obtain ⟨v, rfl, hK⟩ := exS_some he
    exact ⟨v, rfl, hK⟩
  · exact hQ p c w' h1 h2

theorem eff_sound (T : TOk P tt) (F : FOk P fns) {n : Nat} {fr : Env} {a : Act} (hA : Agree n fr a) {o : Oper} {w : World} {pn : Pn} {K : Value → World → Prop} {Q : Exit → Act → World → Prop}
    (h : effVC P tt fns fr o w pn K) (hQ : QPn pn Q a) : o.wp P a w (Nx o a K) Q := by
  obtain ⟨dst, op, type, pos, after, guard⟩ := o
  cases op <;> simp only [effVC] at h
  case alloc e =>
    unfold zeroV at h
    cases hs : tfind tt e <;> simp only [hs] at h
    obtain ⟨z, hz, hK⟩ := withV_some h
    refine upon_of_value ?_ (hK _ rfl)
    simp [execOp, Instr.alloc, (T.fact hs).run_zero hz, newVar, newRow, cellsL_eq]
  case box e x =>
    obtain ⟨v, hv, hK⟩ := withV_some h
    refine upon_of_value ?_ (hK _ rfl)
    simp [execOp, Instr.box, newVar, newRow, cellsL_eq, hA.ev hv]
  case build t parts =>
    obtain ⟨ps, hp, h⟩ := withP_some h
    obtain ⟨v, h1, h2⟩ := buildVC_sound (P := P) T h
    refine upon_of_value ?_ h2
    simp [execOp, evP_arr hA hp, h1]
  case buildSlice t len parts =>
    obtain ⟨ps, hp, h⟩ := withP_some h
    obtain ⟨v, w', h1, h2⟩ := bSliceVC_sound (P := P) T h
    refine upon_of_value ?_ h2
    simp [execOp, evP_arr hA hp, h1]
  case load t x =>
    obtain ⟨v, hv, h⟩ := withV_some h
    cases v <;> simp only at h
    obtain ⟨ad, rfl, h⟩ := derefP_some h
    obtain ⟨v, h1, h2, _⟩ := loadVC_sound (P := P) T h
    refine upon_of_value ?_ h2
    simp [execOp, hA.ev hv, h1]
  case store t x y =>
    obtain ⟨v, hv, h⟩ := withV_some h
    obtain ⟨u, hu, h⟩ := withV_some h
    cases v <;> simp only at h
    obtain ⟨ad, rfl, h⟩ := derefP_some h
    obtain ⟨w', h1, h2⟩ := storeVC_sound (P := P) T h
    refine upon_of_skip ?_ h2
    simp [execOp, hA.ev hv, hA.ev hu, h1]
  case convert s d x =>
    obtain ⟨v, hv, h⟩ := withV_some h
    unfold shOf at h
    cases hs : tfind tt d <;> simp only [hs] at h
    obtain ⟨v', w', h1, h2⟩ := exS_some h
    refine upon_of_value ?_ h2
    simp [execOp, hA.ev hv, h1]
  case makeMap t r =>
    cases r <;> simp only at h
    refine upon_of_value ?_ (h _ rfl)
    simp [execOp, Instr.makeMap]
  case makeSlice t l c =>
    obtain ⟨v, hv, h⟩ := withV_some h
    obtain ⟨u, hu, h⟩ := withV_some h
    obtain ⟨v', w', h1, h2⟩ := exS_some h
    refine upon_of_value ?_ h2
    simp [execOp, hA.ev hv, hA.ev hu, h1]
  case lookup t x i ok =>
    obtain ⟨v, hv, h⟩ := withV_some h
    obtain ⟨u, hu, h⟩ := withV_some h
    unfold shOf at h
    cases hs : tfind tt type <;> simp only [hs] at h
    obtain ⟨v', w', h1, h2⟩ := exS_some h
    refine upon_of_value ?_ h2
    simp [execOp, hA.ev hv, hA.ev hu, h1]
  case mapUpdate t m k x =>
    obtain ⟨v, hv, h⟩ := withV_some h
    obtain ⟨u, hu, h⟩ := withV_some h
    obtain ⟨y, hy, h⟩ := withV_some h
    obtain ⟨w', h1, h2⟩ := h
    refine upon_of_skip ?_ h2
    simp [execOp, hA.ev hv, hA.ev hu, hA.ev hy, h1]
  case insert t m k x =>
    obtain ⟨v, hv, h⟩ := withV_some h
    obtain ⟨u, hu, h⟩ := withV_some h
    obtain ⟨y, hy, h⟩ := withV_some h
    obtain ⟨w', h1, h2⟩ := h
    refine upon_of_skip ?_ h2
    simp [execOp, hA.ev hv, hA.ev hu, hA.ev hy, h1]
  case mapEntry t m k =>
    obtain ⟨v, hv, h⟩ := withV_some h
    obtain ⟨u, hu, h⟩ := withV_some h
    unfold shOf at h
    cases hs : tfind tt type <;> simp only [hs] at h
    obtain ⟨v', w', h1, h2⟩ := exS_some h
    refine upon_of_value ?_ h2
    simp [execOp, hA.ev hv, hA.ev hu, h1]
  case entryStore t m k x =>
    obtain ⟨v, hv, h⟩ := withV_some h
    obtain ⟨u, hu, h⟩ := withV_some h
    obtain ⟨y, hy, h⟩ := withV_some h
    obtain ⟨w', h1, h2⟩ := h
    refine upon_of_skip ?_ h2
    simp [execOp, hA.ev hv, hA.ev hu, hA.ev hy, h1]
  case range t x =>
    obtain ⟨v, hv, h⟩ := withV_some h
    obtain ⟨v', w', h1, h2⟩ := exS_some h
    refine upon_of_value ?_ h2
    simp [execOp, hA.ev hv, h1]
  case next x s =>
    obtain ⟨v, hv, h⟩ := withV_some h
    obtain ⟨v', w', h1, h2⟩ := h
    refine upon_of_value ?_ h2
    simp [execOp, hA.ev hv, h1]
  case entry x =>
    obtain ⟨v, hv, h⟩ := withV_some h
    unfold shOf at h
    cases hs : tfind tt type <;> simp only [hs] at h
    obtain ⟨v', w', h1, h2⟩ := exS_some h
    refine upon_of_value ?_ h2
    simp [execOp, hA.ev hv, h1]
  case panic x =>
    obtain ⟨v, hv, h⟩ := withV_some h
    cases v <;> simp only at h
    rename_i t u
    cases hp : pn with
    | none => simp only [hp] at h
    | some p =>
      simp only [hp] at h
      unfold Oper.wp
      have : (execOp a.eval { dst, op := .panic x, type, pos, after, guard }).run P w = .halt (.panic (.iface t u)) w := by
        simp [execOp, hA.ev hv, Instr.panic]
      rw [this]
      exact hQ p _ _ hp h
  case call c =>
    unfold callVC at h
    obtain ⟨callee, args, argTypes⟩ := c
    cases callee <;> simp only at h
    case value f =>
      have closure : (withV (ev fr f) fun v => match v with
          | .func fn first cap => match fn with
            | .func k => match first with
              | ⟨[]⟩ => withL (evL fr args.toList) fun vs => shOf tt type fun sh => Enters P k ∧ Calls P k (⟨vs⟩ ++ cap) w (RetP sh pn K)
              | _ => False
            | _ => False
          | _ => False) → Oper.wp P { dst, op := .call { callee := .value f, args, argTypes }, type, pos, after, guard } a w (Nx { dst, op := .call { callee := .value f, args, argTypes }, type, pos, after, guard } a K) Q := by
        intro h
        obtain ⟨v, hv, h⟩ := withV_some h
        cases v <;> simp only at h
        rename_i fn first cap
        cases fn <;> simp only at h
        rename_i k
        rcases first with ⟨_ | ⟨x, xs⟩⟩
        · simp only at h
          obtain ⟨vs, hvs, h⟩ := withL_some h
          unfold shOf at h
          cases hs : tfind tt type <;> simp only [hs] at h
          obtain ⟨he, hc⟩ := h
          refine upon_of_call ?_ hc hQ
          simp only [execOp, resolve, evL_arr hA hvs, hA.ev hv, Deferred.ofValue, Sem.run_bind, Sem.run_pure, Result.andThen_ok, invoke]
          have e : (#[] : Array Value) ++ (⟨vs⟩ : Array Value) = ⟨vs⟩ := by simp
          show (callFunc k ((#[] ++ ⟨vs⟩) ++ cap)).run P w = _
          rw [e]
          exact he.run _ _
        · exact h.elim
      cases f <;> simp only at h
      case func k =>
        obtain ⟨vs, hvs, h⟩ := withL_some h
        unfold shOf at h
        cases hs : tfind tt type <;> simp only [hs] at h
        have hx : (execOp a.eval { dst, op := .call { callee := .value (.func k), args, argTypes }, type, pos, after, guard }).run P w = (callFunc k ⟨vs⟩).run P w := by
          simp only [execOp, resolve, evL_arr hA hvs, Act.eval, Deferred.ofValue, Sem.run_bind, Sem.run_pure, Result.andThen_ok, invoke]
          congr 2
          simp
        cases hm : memN fns k <;> simp only [hm] at h
        · obtain ⟨v', w', h1, h2⟩ := exS_some h
          exact upon_of_value (hx.trans h1) h2
        · exact upon_of_call (hx.trans ((F k (memN_mem hm)).run _ _)) h hQ
      all_goals exact closure h
    case builtin b =>
      cases b <;> simp only at h
      case append =>
        obtain ⟨vs, hvs, h⟩ := withL_some h
        unfold shOf at h
        cases hs : tfind tt type <;> simp only [hs] at h
        obtain ⟨v', w', h1, h2⟩ := exS_some h
        refine upon_of_value ?_ h2
        simp [execOp, resolve, evL_arr hA hvs, invoke, builtin, h1]
      case copy =>
        obtain ⟨vs, hvs, h⟩ := withL_some h
        obtain ⟨v', w', h1, h2⟩ := exS_some h
        refine upon_of_value ?_ h2
        simp [execOp, resolve, evL_arr hA hvs, invoke, builtin, h1]
      case delete =>
        obtain ⟨vs, hvs, h⟩ := withL_some h
        obtain ⟨v', w', h1, h2⟩ := exS_some h
        refine upon_of_value ?_ h2
        simp [execOp, resolve, evL_arr hA hvs, invoke, builtin, h1]
      case len =>
        obtain ⟨vs, hvs, h⟩ := withL_some h
        obtain ⟨v', w', h1, h2⟩ := exS_some h
        refine upon_of_value ?_ h2
        simp [execOp, resolve, evL_arr hA hvs, invoke, builtin, h1]

theorem op_sound (T : TOk P tt) (F : FOk P fns) {n : Nat} {fr : Env} {a : Act} (hA : Agree n fr a) {o : Oper} {w : World} {pn : Pn} {K : Value → World → Prop} {Q : Exit → Act → World → Prop}
    (h : opVC P tt fns fr o w pn K) (hQ : QPn pn Q a) : o.wp P a w (Nx o a K) Q := by
  unfold opVC at h
  split at h
  · exact eff_sound T F hA h hQ
  · obtain ⟨v, h1, h2⟩ := pure_sound (P := P) T hA h
    exact upon_of_value (h1 w) h2
end
end Go.Vc
