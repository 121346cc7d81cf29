/- The condition of a list of operations is sound. -/
import Derived.Test.YtcpclpkcanikiaaVc8
set_option linter.unusedVariables false
namespace Go.Vc
open Go

def putE (d : Option Tmp) (v : Option Value) (fr : Env) : Env := match d with
  | none => fr
  | some d => (d, v) :: fr
def dOk (n : Nat) (d : Option Tmp) : Bool := match d with
  | none => true
  | some d => Nat.blt d n
def gslot (ops : List Oper) (j : Nat) : Option Tmp := match ops[j]? with
  | some o => o.dst
  | none => none
def guardVC (ops : List Oper) (o : Oper) (fr : Env) (Y N : Env → Prop) : Prop := match o.guard with
  | none => Y fr
  | some (j, want) => match gslot ops j with
    | none => False
    | some d => withV (look fr d) fun gv => match gv with
      | .bool b => brB b fun b' => match (b' == want) with
        | true => Y ((d, some (.bool b')) :: fr)
        | false => N ((d, some (.bool b')) :: fr)
      | .tuple _ => N fr
      | _ => False
def vcOps (P : Program) (tt : List TI) (fns : List Nat) (n : Nat) (ops : List Oper) (pn : Pn) (N : Env → World → Prop) : List Oper → Env → World → Prop
  | [], fr, w => N fr w
  | o :: r, fr, w => match dOk n o.dst with
    | false => False
    | true => guardVC ops o fr (fun fr => opVC P tt fns fr o w pn fun v w' => vcOps P tt fns n ops pn N r (putE o.dst (some v) fr) w') fun fr =>
        vcOps P tt fns n ops pn N r (putE o.dst (some undef) fr) w

/-- Outside the slots of the list nothing that was known has turned. -/
def ExtE (W : List Nat) (fr fr' : Env) : Prop := ∀ t v, t ∉ W → look fr t = some v → look fr' t = some v
theorem ExtE.refl (W : List Nat) (fr : Env) : ExtE W fr fr := fun _ _ _ h => h
theorem ExtE.trans {W W' : List Nat} {a b c : Env} (h : ExtE W a b) (h' : ExtE W' b c) : ExtE (W ++ W') a c := fun t v ht hv =>
  h' t v (fun m => ht (List.mem_append.2 (.inr m))) (h t v (fun m => ht (List.mem_append.2 (.inl m))) hv)
theorem ExtE.mono {W W' : List Nat} {a b : Env} (h : ExtE W a b) (hs : ∀ t, t ∈ W → t ∈ W') : ExtE W' a b := fun t v ht hv => h t v (fun m => ht (hs t m)) hv
theorem look_cons (d : Nat) (v : Option Value) (fr : Env) (t : Nat) : look ((d, v) :: fr) t = if d = t then v else look fr t := by
  show (match Nat.beq d t with | true => v | false => look fr t) = _
  by_cases h : d = t
  · subst h; simp
  · have : Nat.beq d t = false := by
      cases hb : Nat.beq d t with
      | false => rfl
      | true => exact absurd (Nat.eq_of_beq_eq_true hb) h
    simp [this, h]
theorem ExtE.put (d : Option Tmp) (v : Option Value) (fr : Env) : ExtE d.toList fr (putE d v fr) := fun t u ht hu => by
  cases d with
  | none => exact hu
  | some d =>
    have : ¬ d = t := fun e => ht (by simp [e])
    simp only [putE, look_cons, this, if_false]
    exact hu

theorem Agree.put {n : Nat} {fr : Env} {a : Act} (h : Agree n fr a) {d : Option Tmp} (hd : dOk n d = true) (v : Value) : Agree n (putE d (some v) fr) (a.put d v) := by
  cases d with
  | none => exact h
  | some d =>
    have hd' : d < a.tmps.size := by
      have : d < n := by simpa [dOk] using hd
      rw [h.size]; exact this
    refine ⟨by simp [Act.put, h.size], h.defers, fun t u hu => ?_⟩
    simp only [putE, look_cons] at hu
    by_cases e : d = t
    · subst e
      simp only [if_true] at hu
      obtain rfl := Option.some.inj hu
      simp [Act.put, hd']
    · simp only [e, if_false] at hu
      have := h.at_ t u hu
      simpa [Act.put, Array.getElem?_setIfInBounds_ne e] using this
theorem Agree.forget {n : Nat} {fr : Env} {a : Act} (h : Agree n fr a) {d : Option Tmp} (v : Value) : Agree n (putE d none fr) (a.put d v) := by
  cases d with
  | none => exact h
  | some d =>
    refine ⟨by simp [Act.put, h.size], h.defers, fun t u hu => ?_⟩
    simp only [putE, look_cons] at hu
    by_cases e : d = t
    · subst e
      simp at hu
    · simp only [e, if_false] at hu
      have := h.at_ t u hu
      simpa [Act.put, Array.getElem?_setIfInBounds_ne e] using this
theorem Agree.knows {n : Nat} {fr : Env} {a : Act} (h : Agree n fr a) {d : Nat} {v : Value} (hd : look fr d = some v) : Agree n ((d, some v) :: fr) a :=
  ⟨h.size, h.defers, fun t u hu => by
    rw [look_cons] at hu
    by_cases e : d = t
    · subst e; simp only [if_true] at hu; rw [← Option.some.inj hu]; exact h.at_ _ _ hd
    · simp only [e, if_false] at hu; exact h.at_ t u hu⟩
theorem ExtE.knows {fr : Env} {d : Nat} {v : Value} (hd : look fr d = some v) (W : List Nat) : ExtE W fr ((d, some v) :: fr) := fun t u _ hu => by
  rw [look_cons]
  by_cases e : d = t
  · subst e; simp only [if_true]; rw [← hd]; exact hu
  · simp only [e, if_false]; exact hu

section
variable {P : Program} {tt : List TI} {fns : List Nat}

/-- The guard, decided. -/
theorem guard_use {n : Nat} {ops : List Oper} {o : Oper} {fr : Env} {a : Act} {Y N : Env → Prop} (hA : Agree n fr a) (h : guardVC ops o fr Y N) :
    ∃ fr', Agree n fr' a ∧ (∀ W, ExtE W fr fr') ∧ ((Region.wanted o (yielded ops.toArray a.tmps) = true ∧ Y fr') ∨ (Region.wanted o (yielded ops.toArray a.tmps) = false ∧ N fr')) := by
  unfold guardVC at h
  cases hg : o.guard with
  | none =>
    simp only [hg] at h
    exact ⟨fr, hA, fun W => ExtE.refl W fr, .inl ⟨by simp [Region.wanted, hg], h⟩⟩
  | some gw =>
    obtain ⟨j, want⟩ := gw
    simp only [hg] at h
    cases hs : gslot ops j with
    | none => simp only [hs] at h
    | some d =>
      simp only [hs] at h
      obtain ⟨gv, hgv, h⟩ := withV_some h
      have hd : (((ops.toArray)[j]?).bind (·.dst)) = some d := by
        unfold gslot at hs
        cases ho : ops[j]? with
        | none => simp [ho] at hs
        | some o' => simp only [ho] at hs; simp [ho, hs]
      cases gv <;> simp only at h
      case tuple vs =>
        refine ⟨fr, hA, fun W => ExtE.refl W fr, .inr ⟨?_, h⟩⟩
        have hy : yielded ops.toArray a.tmps j = none := by
          unfold yielded
          rw [hd]
          have := hA.at_ d _ hgv
          cases ha : a.tmps[d]? with
          | none => simp [ha]
          | some u => simp only [Array.getD_eq_getD_getElem?, ha, Option.getD_some] at this; simp [ha, this]
        simp [Region.wanted, hg, hy]
      rename_i b
      have h := brB_use h
      have hy : yielded ops.toArray a.tmps j = some b := by
        unfold yielded
        rw [hd]
        have := hA.at_ d _ hgv
        have h2 : a.tmps[d]? = some (.bool b) := by
          cases ha : a.tmps[d]? with
          | none => simp [ha, undef] at this
          | some u => simp only [Array.getD_eq_getD_getElem?, ha, Option.getD_some] at this; rw [this]
        simp [h2]
      refine ⟨(d, some (.bool b)) :: fr, hA.knows hgv, ExtE.knows hgv, ?_⟩
      have hw : Region.wanted o (yielded ops.toArray a.tmps) = (b == want) := by
        simp only [Region.wanted, hg, hy]
        cases b <;> cases want <;> rfl
      rw [hw]
      cases hb : (b == want) <;> simp only [hb] at h
      · exact .inr ⟨rfl, h⟩
      · exact .inl ⟨rfl, h⟩

/-- What is asked behind a piece of code. -/
def Beh (n : Nat) (W : List Nat) (fr : Env) (N : Env → World → Prop) (a : Act) (w : World) : Prop := ∃ fr', Agree n fr' a ∧ ExtE W fr fr' ∧ N fr' w
def dstsL (l : List Oper) : List Nat := l.flatMap fun o => o.dst.toList

theorem Beh.from {n : Nat} {W W' : List Nat} {fr fr0 : Env} {N : Env → World → Prop} {a : Act} {w : World} (h : Beh n W fr N a w) (h0 : ExtE W' fr0 fr) : Beh n (W' ++ W) fr0 N a w :=
  let ⟨fr', h1, h2, h3⟩ := h
  ⟨fr', h1, h0.trans h2, h3⟩

theorem vcOps_sound (T : TOk P tt) (F : FOk P fns) {n : Nat} {ops : List Oper} {pn : Pn} {N : Env → World → Prop} {Q : Exit → Act → World → Prop} (hQ : ∀ a : Act, a.defers = [] → QPn pn Q a) :
    ∀ {l : List Oper} {fr : Env} {a : Act} {w : World} {fr0 : Env} {W0 : List Nat}, (∀ a w, Beh n (W0 ++ dstsL l) fr0 N a w → Q .normal a w) → Agree n fr a → ExtE W0 fr0 fr → vcOps P tt fns n ops pn N l fr w → wpList P ops.toArray Q l a w
  | [], fr, a, w, fr0, W0, hN, hA, hE, h => hN a w ⟨fr, hA, by simpa [dstsL] using hE, h⟩
  | o :: r, fr, a, w, fr0, W0, hN, hA, hE, h => by
    unfold vcOps at h
    cases hd : dOk n o.dst <;> simp only [hd] at h
    obtain ⟨fr', hA', hE', h⟩ := guard_use hA h
    have hN' : ∀ a w, Beh n ((W0 ++ o.dst.toList) ++ dstsL r) fr0 N a w → Q .normal a w := fun a w hb => hN a w (by
      simpa [dstsL, List.append_assoc] using hb)
    have hE2 : ExtE W0 fr0 fr' := (hE.trans (hE' [])).mono (by simp)
    unfold wpList
    rcases h with ⟨hw, h⟩ | ⟨hw, h⟩
    · rw [if_pos hw]
      refine .inl (Oper.wp_mono ?_ (op_sound T F hA' h (hQ a hA.defers)))
      rintro a' w' ⟨v, rfl, hK⟩
      exact vcOps_sound T F hQ hN' (hA'.put hd v) (hE2.trans (ExtE.put _ _ _)) hK
    · rw [if_neg (by simp [hw])]
      exact vcOps_sound T F hQ hN' (hA'.put hd undef) (hE2.trans (ExtE.put _ _ _)) h
end
end Go.Vc
