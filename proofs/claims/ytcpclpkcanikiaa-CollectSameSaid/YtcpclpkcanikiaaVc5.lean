/- The conditions of pure operations are sound, part 3. -/
import Derived.Test.YtcpclpkcanikiaaVc4
set_option linter.unusedVariables false
namespace Go.Vc
open Go

section
variable {P : Program} {tt : List TI}

/-- An operation that yields a value in whatever world. -/
def YlOp (P : Program) (s : Sem Next) (K : Value → Prop) : Prop := ∃ v, (∀ w, s.run P w = .ok (.value v) w) ∧ K v

theorem Yl.op {s : Sem Value} {K : Value → Prop} (h : Yl P s K) : YlOp P (do pure (.value (← s))) K := by
  obtain ⟨v, h1, h2⟩ := h
  exact ⟨v, fun w => by simp [h1], h2⟩

theorem evL_arr {n : Nat} {fr : Env} {a : Act} (hA : Agree n fr a) {l : Array Operand} {vs : List Value} (h : evL fr l.toList = some vs) : l.map a.eval = ⟨vs⟩ := by
  apply Array.ext'
  simpa using hA.evL h

theorem pure_sound (T : TOk P tt) {n : Nat} {fr : Env} {a : Act} (hA : Agree n fr a) {o : Oper} {K : Value → Prop} (h : pureVC tt fr o K) :
    YlOp P (execOp a.eval o) K := by
  obtain ⟨dst, op, type, pos, after, guard⟩ := o
  cases op <;> simp only [pureVC] at h
  case move x => obtain ⟨v, hv, hK⟩ := withV_some h; exact ⟨v, fun w => by simp [execOp, hA.ev hv], hK⟩
  case assign x => obtain ⟨v, hv, hK⟩ := withV_some h; exact ⟨v, fun w => by simp [execOp, hA.ev hv], hK⟩
  case pick c x y =>
    obtain ⟨v, hv, hK⟩ := withV_some h
    cases v <;> simp only at hK
    rename_i t
    have hK := brB_use hK
    cases t <;> simp only at hK
    · obtain ⟨u, hu, hK⟩ := withV_some hK; exact ⟨u, fun w => by simp [execOp, hA.ev hv, hA.ev hu, asBool], hK⟩
    · obtain ⟨u, hu, hK⟩ := withV_some hK; exact ⟨u, fun w => by simp [execOp, hA.ev hv, hA.ev hu, asBool], hK⟩
  case binOp op t x y yt =>
    obtain ⟨v, hv, h⟩ := withV_some h
    obtain ⟨u, hu, h⟩ := withV_some h
    have := (binVC_sound (P := P) T (ox := x) (oy := y) h).op
    simp only [execOp, hA.ev hv, hA.ev hu]
    exact this
  case unOp op t x =>
    obtain ⟨v, hv, h⟩ := withV_some h
    have := (unVC_sound (P := P) h).op
    simp only [execOp, hA.ev hv]; exact this
  case convert s d x =>
    obtain ⟨v, hv, h⟩ := withV_some h
    have := (convVC_sound (P := P) T h).op
    simp only [execOp, hA.ev hv]; exact this
  case makeInterface t x =>
    obtain ⟨v, hv, h⟩ := withV_some h
    have := (mkIfVC_sound (P := P) T h).op
    simp only [execOp, hA.ev hv]; exact this
  case makeFunc f x c =>
    obtain ⟨v, hv, h⟩ := withL_some h
    obtain ⟨u, hu, h⟩ := withL_some h
    refine ⟨_, fun w => ?_, h⟩
    simp [execOp, Instr.makeFunc, evL_arr hA hv, evL_arr hA hu]
  case nilCheck x =>
    obtain ⟨v, hv, h⟩ := withV_some h
    cases v <;> simp only [nilCkVC] at h
    case pointer b =>
      obtain ⟨ad, rfl, h⟩ := derefP_some h
      exact ⟨_, fun w => by simp [execOp, hA.ev hv], h⟩
    case func f b c =>
      cases f <;> simp only at h
      exact ⟨_, fun w => by simp [execOp, hA.ev hv], h⟩
    case map r => exact ⟨_, fun w => by simp [execOp, hA.ev hv], h⟩
    case slice => exact ⟨_, fun w => by simp [execOp, hA.ev hv], h⟩
  case fieldAddr t x f =>
    obtain ⟨v, hv, h⟩ := withV_some h
    have := (fldAddrVC_sound (P := P) T h).op
    simp only [execOp, hA.ev hv]; exact this
  case field t x f =>
    obtain ⟨v, hv, h⟩ := withV_some h
    have := (fieldVC_sound (P := P) T h).op
    simp only [execOp, hA.ev hv]; exact this
  case indexAddr t x i =>
    obtain ⟨v, hv, h⟩ := withV_some h
    obtain ⟨u, hu, h⟩ := withV_some h
    have := (idxVC_sound (P := P) T h).op
    simp only [execOp, hA.ev hv, hA.ev hu]; exact this
  case index t x i =>
    obtain ⟨v, hv, h⟩ := withV_some h
    obtain ⟨u, hu, h⟩ := withV_some h
    have := (idxV_sound (P := P) T h).op
    simp only [execOp, hA.ev hv, hA.ev hu]; exact this
  case slice t x lo hi mx =>
    obtain ⟨v, hv, h⟩ := withV_some h
    simp only [execOp, hA.ev hv]
    cases hi with
    | none =>
      cases mx with
      | none => exact (slcVC_sound (P := P) T hA (lo := lo) (hi := none) (mx := none) (fun _ => rfl) h).op
      | some m => exact h.elim
    | some hi => exact (slcVC_sound (P := P) T hA (lo := lo) (hi := some hi) (mx := mx) (fun e => by simp [oev] at e) h).op
  case sliceToArrayPointer t x =>
    obtain ⟨v, hv, h⟩ := withV_some h
    have := (s2apVC_sound (P := P) T h).op
    simp only [execOp, hA.ev hv]; exact this
  case extract x i =>
    obtain ⟨v, hv, h⟩ := withV_some h
    have := (extVC_sound (P := P) h).op
    simp only [execOp, hA.ev hv]; exact this
  case call c =>
    obtain ⟨callee, args, argTypes⟩ := c
    cases callee <;> simp only at h
    rename_i b
    cases b <;> simp only at h
    case cap =>
      obtain ⟨l, hl, h⟩ := withL_some h
      split at h
      · rename_i x
        split at h
        · rename_i t ts hts
          have hts' : argTypes = ⟨t :: ts⟩ := Array.ext' hts
          have := (capVC_sound (P := P) T (ts := ts) (ty := type) h).op
          simp only [execOp, resolve, evL_arr hA hl, invoke, builtin, hts']
          exact this
        · exact h.elim
      · exact h.elim
    case len =>
      obtain ⟨l, hl, h⟩ := withL_some h
      split at h
      · rename_i x
        split at h
        · rename_i t ts hts
          have hts' : argTypes = ⟨t :: ts⟩ := Array.ext' hts
          have := (lenVC_sound (P := P) T (ts := ts) (ty := type) h).op
          simp only [execOp, resolve, evL_arr hA hl, invoke, builtin, hts']
          exact this
        · exact h.elim
      · exact h.elim
    case max =>
      obtain ⟨l, hl, h⟩ := withL_some h
      have := (max_sound (P := P) (ts := argTypes) (ty := type) h).op
      simp only [execOp, resolve, evL_arr hA hl, invoke, builtin]
      exact this
    case min =>
      obtain ⟨l, hl, h⟩ := withL_some h
      have := (min_sound (P := P) (ts := argTypes) (ty := type) h).op
      simp only [execOp, resolve, evL_arr hA hl, invoke, builtin]
      exact this
end
end Go.Vc
