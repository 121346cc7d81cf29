/- Scope: the reference's free. -/
import Derived.Test.YtkocjbgdmocmlaaGreatDoorC07O
set_option linter.unusedVariables false
namespace Go.Proofs.YtkocjbgdmocmlaaGreatDoor
open Go Go.Vc Go.RowKit Go.Syn

end Go.Proofs.YtkocjbgdmocmlaaGreatDoor
