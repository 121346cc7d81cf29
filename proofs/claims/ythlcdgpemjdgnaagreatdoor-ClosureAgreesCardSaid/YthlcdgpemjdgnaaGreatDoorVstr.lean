/- A slice of strings that came in. -/
import Derived.Test.YthlcdgpemjdgnaaGreatDoorVlaw
import Derived.SliceStrings
set_option linter.unusedVariables false
namespace Go.Vc
open Go Go.RowKit Go.ChangeShapes Go.WideShapes Go.ChangeAt
variable {H : Type} {enc : TypeId × Value → H} {P : Program}
end Go.Vc
