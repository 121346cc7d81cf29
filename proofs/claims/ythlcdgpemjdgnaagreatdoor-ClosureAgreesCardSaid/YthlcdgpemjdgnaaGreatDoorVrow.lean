/- Rows of one's own that the library writes in place: what a call leaves. -/
import Derived.Test.YthlcdgpemjdgnaaGreatDoorVkeys
import Derived.Shelf.Slices.CompactS
import Derived.Shelf.Slices.Cells
set_option linter.unusedVariables false
namespace Go.Vc
open Go Go.RowKit Go.Sort Go.Shelf Go.Proofs
end Go.Vc
