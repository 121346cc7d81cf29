/- More fuel changes nothing. -/
import Derived.Test.YtfmjipgcbecamaaDoorLamA
set_option linter.unusedVariables false
namespace Go.Lam
open Go Go.Vc Go.RowKit Go.Syn

def Res.out {α : Type} : Res α → List Lab
  | .ok _ _ o => o
  | .stop _ _ _ o => o
def Res.left {α : Type} : Res α → Nat
  | .ok _ l _ => l
  | .stop _ _ l _ => l
/-- What was printed goes on; no step comes back. -/
def ext {α : Type} (left : Nat) (out : List Lab) (r : Res α) : Prop := out <+: r.out ∧ r.left ≤ left
theorem ext.bind {α β : Type} {left : Nat} {out : List Lab} {r : Res α} {f : α → Nat → List Lab → Res β} (h : ext left out r) (hf : ∀ v l o, ext l o (f v l o)) : ext left out (r.bind f) := by
  cases r with
  | ok v l o => exact ⟨h.1.trans (hf v l o).1, Nat.le_trans (hf v l o).2 h.2⟩
  | stop => exact h
/-- What more steps change. -/
def rel {α : Type} (δ : Nat) (r r' : Res α) : Prop := match r with
  | .ok v left out => r' = .ok v (left + δ) out
  | .stop op code left out => (op = 3 → code = 0 ∧ left = 0 ∧ out <+: r'.out ∧ (0 < δ → r'.left < δ)) ∧ (op ≠ 3 → r' = .stop op code (left + δ) out)
theorem rel.bind {α β : Type} {δ l : Nat} {r r' : Res α} {f f' : α → Nat → List Lab → Res β} (h : rel δ r r') (hl : r.left ≤ l) (hf : ∀ v left o, left ≤ l → rel δ (f v left o) (f' v (left + δ) o)) (he : ∀ v left o, ext left o (f' v left o)) : rel δ (r.bind f) (r'.bind f') := by
  cases r with
  | ok v left o =>
    have e : r' = .ok v (left + δ) o := h
    subst e
    exact hf v left o hl
  | stop op code left o =>
    obtain ⟨h1, h2⟩ := h
    refine ⟨fun e => ?_, fun e => ?_⟩
    · obtain ⟨k1, k2, k3, k4⟩ := h1 e
      refine ⟨k1, k2, ?_, ?_⟩
      · cases r' with
        | ok v' l' o' => exact k3.trans (he v' l' o').1
        | stop => exact k3
      · intro hd
        have k5 := k4 hd
        cases r' with
        | ok v' l' o' => exact Nat.lt_of_le_of_lt (he v' l' o').2 k5
        | stop => exact k5
    · have e2 := h2 e
      subst e2
      rfl
def EvExt (ev : Ev) : Prop := ∀ x env left out, ext left out (ev x env left out)
/-- Two ways to evaluate, the second one with more steps. -/
def EvRel (δ b : Nat) (ev ev' : Ev) : Prop := ∀ x env left out, left ≤ b → rel δ (ev x env left out) (ev' x env (left + δ) out)
section
variable {δ b : Nat} {ev ev' : Ev} (H : EvRel δ b ev ev') (h0 : EvExt ev) (h1 : EvExt ev')
include H h0 h1
end
end Go.Lam
