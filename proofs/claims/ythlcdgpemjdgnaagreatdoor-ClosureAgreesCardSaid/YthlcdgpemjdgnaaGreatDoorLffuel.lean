/- More fuel changes nothing: flat functions. -/
import Derived.Test.YthlcdgpemjdgnaaGreatDoorLfuel
import Derived.Test.YthlcdgpemjdgnaaGreatDoorLfeval
set_option linter.unusedVariables false
namespace Go.Lam
open Go Go.Vc Go.RowKit Go.Syn
theorem combF_ext {fs : List FlatD} {ev : Ev} (H : EvExt ev) (x : E) (l : List Th) (left : Nat) (out : List Lab) : ext left out (combF fs ev x l left out) := by
  unfold combF
  repeat' (first | exact H _ _ _ _ | exact prim_ext _ _ _ _ | exact ext_ok _ _ _ | exact ext_stop _ _ _ _ | split)
theorem stepF_ext {fs : List FlatD} {ev : Ev} (H : EvExt ev) (x : E) (env : List Th) (left : Nat) (out : List Lab) : ext left out (stepF fs ev x env left out) := by
  unfold stepF
  split
  · exact ext_ok _ _ _
  split
  · exact ext_ok _ _ _
  split
  · exact ext_ok _ _ _
  split
  · exact ext_ok _ _ _
  split
  · exact ext_ok _ _ _
  split
  · exact ext_stop _ _ _ _
  split
  · exact ext.bind (H _ _ _ _) fun t l o => H _ _ _ _
  split
  · refine ext.bind (H _ _ _ _) fun t l o => ?_
    split
    · exact H _ _ _ _
    · exact ext_stop _ _ _ _
  · exact ext.bind (evL_ext H _ _ _ _) fun ts l o => combF_ext H _ _ _ _
theorem evalF_ext (fs : List FlatD) : ∀ d, EvExt (evalF fs d)
  | 0 => fun x env left out => ⟨List.prefix_refl _, Nat.zero_le _⟩
  | d + 1 => fun x env left out => by
    unfold evalF
    split
    · exact ⟨List.prefix_refl _, Nat.zero_le _⟩
    · have := stepF_ext (fs := fs) (evalF_ext fs d) x env (left - 1) out
      exact ⟨this.1, by have := this.2; omega⟩
end Go.Lam
