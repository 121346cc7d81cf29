/- Joined texts. -/
import Derived.Test.YtmkdbndniffkfaaGreatDoorC41E
/- Syntax trees: the reference's tests of fields and lists. -/
set_option linter.unusedVariables false
namespace Go.Proofs.YtmkdbndniffkfaaGreatDoor
open Go Go.Vc Go.RowKit Go.Syn

end Go.Proofs.YtmkdbndniffkfaaGreatDoor
/- Syntax trees: for each kind, that a node is right, in the order of the reference's tests. Printed by a program (wip/tools/genforms.py). -/
set_option linter.unusedVariables false
namespace Go.Proofs.YtmkdbndniffkfaaGreatDoor
open Go Go.Vc Go.RowKit Go.Syn

/-- A node is right: its fields, its parts, and that a type behind 'with' has no name. -/
def nodeP (d : SynD) (l : List Sy) (w : Bool) : Prop := ownP d w ∧ shapeP d l ∧ (d.op = 74 → (l.getD 1 noSy).dat.s = [])
end Go.Proofs.YtmkdbndniffkfaaGreatDoor
/- Syntax trees: helpers for the forms of the reference. -/
set_option linter.unusedVariables false
namespace Go.Proofs.YtmkdbndniffkfaaGreatDoor
open Go Go.Vc Go.RowKit Go.Syn

end Go.Proofs.YtmkdbndniffkfaaGreatDoor
/- Syntax trees: the forms of the reference. Printed by a program (wip/tools/genwalk.py). -/
set_option linter.unusedVariables false
namespace Go.Proofs.YtmkdbndniffkfaaGreatDoor
open Go Go.Vc Go.RowKit Go.Syn

end Go.Proofs.YtmkdbndniffkfaaGreatDoor
/- Syntax trees: the reference's Formed, and that it says what the program's formed says. -/
set_option linter.unusedVariables false
namespace Go.Proofs.YtmkdbndniffkfaaGreatDoor
open Go Go.Vc Go.RowKit Go.Syn

mutual
def nodesR : Sy → Bool → Prop
  | .mk d l, w => nodeP d l w ∧ nodesL l (decide (d.op = 74)) 0
def nodesL : List Sy → Bool → Nat → Prop
  | [], _, _ => True
  | t :: r, b, i => nodesR t (b && decide (i = 1)) ∧ nodesL r b (i + 1)
end
end Go.Proofs.YtmkdbndniffkfaaGreatDoor
