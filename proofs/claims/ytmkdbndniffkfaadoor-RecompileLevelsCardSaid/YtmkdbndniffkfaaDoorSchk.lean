/- Scope: the first error of a tree. -/
import Derived.Test.YtmkdbndniffkfaaDoorScomp
set_option linter.unusedVariables false
namespace Go.Syn
open Go Go.Vc

mutual
/-- The type variables of a tree. -/
def varsT : Sy → List Lab
  | .mk d l => (if d.op = 1 then [d.s] else []) ++ varsL l
def varsL : List Sy → List Lab
  | [] => []
  | t :: r => varsT t ++ varsL r
end
/-- A node that binds something twice. -/
def badP (d : SynD) (l : List Sy) : Prop := (d.op = 30 ∧ ¬ (bindsT (l.getD 0 noSy)).Nodup) ∨ (d.op = 42 ∧ ¬ d.names.Nodup) ∨ (d.op = 71 ∧ ¬ (bindsL l).Nodup)
/-- The type variables that are permitted in a node's parts. -/
def nextV (d : SynD) (V : Lab → Prop) : Lab → Prop := if d.op = 43 ∨ d.op = 44 then (· ∈ d.names) else if d.op = 61 then fun _ => True else V
mutual
noncomputable def chk : Sy → (Lab → Prop) → Int
  | .mk d l, V => @ite _ (badP d l) (Classical.propDecidable _) 9 (@ite _ (d.op = 1 ∧ ¬ V d.s) (Classical.propDecidable _) 10 (chkL l (nextV d V)))
noncomputable def chkL : List Sy → (Lab → Prop) → Int
  | [], _ => 0
  | t :: r, V => if chk t V ≠ 0 then chk t V else chkL r V
end
end Go.Syn
