/- Environments are no longer than the text is deep. -/
import Derived.Test.YthlcdgpemjdgnaaGreatDoorLamA
set_option linter.unusedVariables false
namespace Go.Lam
open Go Go.Vc Go.RowKit Go.Syn
inductive OkB (C : Nat) : Th → Prop
  | int (n : Int) : OkB C (intT n)
  | text (s : Lab) : OkB C (textT s)
  | record (l : List Th) : (∀ t ∈ l, OkB C t) → OkB C (recT l)
  | inject (n : Int) (l : List Th) : (∀ t ∈ l, OkB C t) → OkB C (injT n l)
  | func (body : E) (self : Bool) (env : List Th) : env.length + (if self then 1 else 0) + 1 + depthE body ≤ C → (∀ t ∈ env, OkB C t) → OkB C (funT body self env)
def B1 (C : Nat) : Res Th → Prop
  | .ok t _ _ => OkB C t
  | .stop _ _ _ _ => True
def EvB (C : Nat) (ev : Ev) : Prop := ∀ x env left out, formE x → scopedE env.length x → env.length + depthE x ≤ C → (∀ t ∈ env, OkT t) → (∀ t ∈ env, OkB C t) → out.length ≤ 1000 → B1 C (ev x env left out)
theorem B1.bind {C left : Nat} {r : Res Th} {f : Th → Nat → List Lab → Res Th} (h1 : OkRes left r) (h2 : B1 C r) (hf : ∀ t l o, OkT t → OkB C t → o.length ≤ 1000 → B1 C (f t l o)) : B1 C (r.bind f) := by
  cases r with
  | ok t l o => exact hf t l o h1.1 h2 h1.2.2
  | stop => trivial
section
variable {C : Nat} {ev : Ev} (HO : EvOk ev) (H : EvB C ev)
include HO H
end
end Go.Lam
