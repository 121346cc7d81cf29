/- The depth to which an evaluation goes does not matter. -/
import Derived.Test.YtfmjipgcbecamaaDoorLfuel
set_option linter.unusedVariables false
namespace Go.Lam
open Go Go.Vc Go.RowKit Go.Syn

def EvEq (b : Nat) (ev ev' : Ev) : Prop := ∀ x env left out, left ≤ b → ev x env left out = ev' x env left out
theorem bind_eq {α β : Type} {l : Nat} {r r' : Res α} {f f' : α → Nat → List Lab → Res β} (h : r = r') (hl : r.left ≤ l) (hf : ∀ v left o, left ≤ l → f v left o = f' v left o) : r.bind f = r'.bind f' := by
  subst h
  cases r with
  | ok v left o => exact hf v left o hl
  | stop => rfl
section
variable {b : Nat} {ev ev' : Ev} (H : EvEq b ev ev') (h0 : EvExt ev)
include H h0
theorem evL_eq : ∀ l env left out, left ≤ b → evL ev l env left out = evL ev' l env left out
  | [], env, left, out, _ => rfl
  | y :: r, env, left, out, hb => by
    refine bind_eq (l := left) (H y env left out hb) (h0 y env left out).2 (fun t l o hl => ?_)
    exact bind_eq (l := l) (evL_eq r env l o (by omega)) (evL_ext h0 r env l o).2 (fun ts l o _ => rfl)
theorem step_eq (x : E) (env : List Th) (left : Nat) (out : List Lab) (hb : left ≤ b) : stepN ev x env left out = stepN ev' x env left out := by
  have hc : ∀ l left out, left ≤ b → combN ev x l left out = combN ev' x l left out := by
    intro l left out hb
    unfold combN
    rw [H _ _ _ _ hb]
  unfold stepN
  rw [bind_eq (l := left) (H (kid x 0) env left out hb) (h0 _ _ _ _).2 (f := fun t left out => ev (kid x 1) (t :: env) left out) (f' := fun t left out => ev' (kid x 1) (t :: env) left out) (fun t l o hl => H _ _ _ _ (by omega)),
    bind_eq (l := left) (H (kid x 0) env left out hb) (h0 _ _ _ _).2 (f := fun t left out => if t.op = 4 ∧ t.n + 1 < ((x.kids.length : Nat) : Int) then ev (kid x (t.n + 1).toNat) (t.l.getD 0 unitT :: env) left out else .stop 4 0 left out)
      (f' := fun t left out => if t.op = 4 ∧ t.n + 1 < ((x.kids.length : Nat) : Int) then ev' (kid x (t.n + 1).toNat) (t.l.getD 0 unitT :: env) left out else .stop 4 0 left out) (fun t l o hl => by rw [H _ _ _ _ (show l ≤ b by omega)]),
    bind_eq (l := left) (evL_eq H h0 x.kids env left out hb) (evL_ext h0 _ _ _ _).2 (f := fun ts left out => combN ev x ts left out) (f' := fun ts left out => combN ev' x ts left out) (fun ts l o hl => hc ts l o (by omega))]
end
theorem eval_eq : ∀ d d', d ≤ d' → EvEq d (evalN d) (evalN d') := by
  intro d
  induction d with
  | zero =>
    intro d' _ x env left out hb
    have e : left = 0 := by omega
    subst e
    cases d' with
    | zero => rfl
    | succ d' => unfold evalN; rw [if_pos rfl]
  | succ d ih =>
    intro d' hd x env left out hb
    obtain ⟨d0, rfl⟩ : ∃ d0, d' = d0 + 1 := ⟨d' - 1, by omega⟩
    unfold evalN
    by_cases q : left = 0
    · rw [if_pos q, if_pos q]
    · rw [if_neg q, if_neg q]
      exact step_eq (ih d0 (by omega)) (eval_ext d) x env (left - 1) out (by omega)
/-- A step of a node. -/
theorem eval_step {d : Nat} {x : E} {env : List Th} {left : Nat} {out : List Lab} (h : left + 1 ≤ d + 1) : evalN (d + 1) x env (left + 1) out = stepN (evalN d) x env left out := by
  unfold evalN
  rw [if_neg (by omega)]
  rfl
end Go.Lam
