/- More fuel changes nothing. -/
import Derived.Test.YthlcdgpemjdgnaaGreatDoorLamA
set_option linter.unusedVariables false
namespace Go.Lam
open Go Go.Vc Go.RowKit Go.Syn
def Res.out {α : Type} : Res α → List Lab
  | .ok _ _ o => o
  | .stop _ _ _ o => o
def Res.left {α : Type} : Res α → Nat
  | .ok _ l _ => l
  | .stop _ _ l _ => l
def ext {α : Type} (left : Nat) (out : List Lab) (r : Res α) : Prop := out <+: r.out ∧ r.left ≤ left
theorem ext.bind {α β : Type} {left : Nat} {out : List Lab} {r : Res α} {f : α → Nat → List Lab → Res β} (h : ext left out r) (hf : ∀ v l o, ext l o (f v l o)) : ext left out (r.bind f) := by
  cases r with
  | ok v l o => exact ⟨h.1.trans (hf v l o).1, Nat.le_trans (hf v l o).2 h.2⟩
  | stop => exact h
theorem ext_ok {α : Type} (v : α) (left : Nat) (out : List Lab) : ext left out (.ok v left out) := ⟨List.prefix_refl _, Nat.le_refl _⟩
theorem ext_stop {α : Type} (op code : Int) (left : Nat) (out : List Lab) : ext left out (.stop op code left out : Res α) := ⟨List.prefix_refl _, Nat.le_refl _⟩
def rel {α : Type} (δ : Nat) (r r' : Res α) : Prop := match r with
  | .ok v left out => r' = .ok v (left + δ) out
  | .stop op code left out => (op = 3 → code = 0 ∧ left = 0 ∧ out <+: r'.out ∧ (0 < δ → r'.left < δ)) ∧ (op ≠ 3 → r' = .stop op code (left + δ) out)
theorem rel.bind {α β : Type} {δ l : Nat} {r r' : Res α} {f f' : α → Nat → List Lab → Res β} (h : rel δ r r') (hl : r.left ≤ l) (hf : ∀ v left o, left ≤ l → rel δ (f v left o) (f' v (left + δ) o)) (he : ∀ v left o, ext left o (f' v left o)) : rel δ (r.bind f) (r'.bind f') := by
  cases r with
  | ok v left o =>
    have e : r' = .ok v (left + δ) o := h
    subst e
    exact hf v left o hl
  | stop op code left o =>
    obtain ⟨h1, h2⟩ := h
    refine ⟨fun e => ?_, fun e => ?_⟩
    · obtain ⟨k1, k2, k3, k4⟩ := h1 e
      refine ⟨k1, k2, ?_, ?_⟩
      · cases r' with
        | ok v' l' o' => exact k3.trans (he v' l' o').1
        | stop => exact k3
      · intro hd
        have k5 := k4 hd
        cases r' with
        | ok v' l' o' => exact Nat.lt_of_le_of_lt (he v' l' o').2 k5
        | stop => exact k5
    · have e2 := h2 e
      subst e2
      rfl
def EvExt (ev : Ev) : Prop := ∀ x env left out, ext left out (ev x env left out)
theorem evL_ext {ev : Ev} (H : EvExt ev) : ∀ l env left out, ext left out (evL ev l env left out)
  | [], env, left, out => ext_ok _ _ _
  | y :: r, env, left, out => ext.bind (H y env left out) fun t l o => ext.bind (evL_ext H r env l o) fun ts l o => ext_ok _ _ _
theorem number_ext (n : Int) (left : Nat) (out : List Lab) : ext left out (numberN n left out) := by
  unfold numberN; split
  · exact ext_stop _ _ _ _
  · exact ext_ok _ _ _
theorem prim_ext (n : Int) (l : List Th) (left : Nat) (out : List Lab) : ext left out (primN n l left out) := by
  unfold primN
  by_cases q : textual n
  · rw [if_pos q, if_pos q]
    unfold textsN
    repeat' (first | exact number_ext _ _ _ | exact ext_ok _ _ _ | exact ext_stop _ _ _ _ | exact ⟨List.prefix_append _ _, Nat.le_refl _⟩ | split)
  · rw [if_neg q, if_neg q]
    unfold numbersN
    repeat' (first | exact number_ext _ _ _ | exact ext_ok _ _ _ | exact ext_stop _ _ _ _ | split)
theorem comb_ext {ev : Ev} (H : EvExt ev) (x : E) (l : List Th) (left : Nat) (out : List Lab) : ext left out (combN ev x l left out) := by
  unfold combN
  repeat' (first | exact H _ _ _ _ | exact prim_ext _ _ _ _ | exact ext_ok _ _ _ | exact ext_stop _ _ _ _ | split)
theorem step_ext {ev : Ev} (H : EvExt ev) (x : E) (env : List Th) (left : Nat) (out : List Lab) : ext left out (stepN ev x env left out) := by
  unfold stepN
  split
  · exact ext_ok _ _ _
  split
  · exact ext_ok _ _ _
  split
  · exact ext_ok _ _ _
  split
  · exact ext_ok _ _ _
  split
  · split
    · exact ⟨List.prefix_refl _, Nat.zero_le _⟩
    · exact ⟨List.prefix_refl _, Nat.sub_le _ _⟩
  split
  · exact ext_stop _ _ _ _
  split
  · exact ext.bind (H _ _ _ _) fun t l o => H _ _ _ _
  split
  · refine ext.bind (H _ _ _ _) fun t l o => ?_
    split
    · exact H _ _ _ _
    · exact ext_stop _ _ _ _
  · exact ext.bind (evL_ext H _ _ _ _) fun ts l o => comb_ext H _ _ _ _
theorem eval_ext : ∀ d, EvExt (evalN d)
  | 0 => fun x env left out => ⟨List.prefix_refl _, Nat.zero_le _⟩
  | d + 1 => fun x env left out => by
    unfold evalN
    split
    · exact ⟨List.prefix_refl _, Nat.zero_le _⟩
    · have := step_ext (eval_ext d) x env (left - 1) out
      exact ⟨this.1, by have := this.2; omega⟩
def EvRel (δ b : Nat) (ev ev' : Ev) : Prop := ∀ x env left out, left ≤ b → rel δ (ev x env left out) (ev' x env (left + δ) out)
section
variable {δ b : Nat} {ev ev' : Ev} (H : EvRel δ b ev ev') (h0 : EvExt ev) (h1 : EvExt ev')
include H h0 h1
end
end Go.Lam
