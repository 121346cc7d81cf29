/- Calls of the library that say 'below': what they leave; new rows of strings. -/
import Derived.Test.YthlcdgpemjdgnaaVsort
import Derived.Test.YthlcdgpemjdgnaaVt2
import Derived.Shelf.SortM.SortNone
import Derived.Shelf.SortM.Plain
import Derived.Shelf.SlIter.Nil
set_option linter.unusedVariables false
namespace Go.Vc
open Go Go.RowKit Go.Sort Go.Shelf Go.Proofs

/-- The world behind a call that turns nothing below. -/
def G.to (g : G) (w' : World) (h : g.w.heap.size ≤ w'.heap.size) : G := ⟨w', g.X, g.D, fun b hb => Nat.lt_of_lt_of_le (g.hX b hb) h, fun b i hb => Nat.lt_of_lt_of_le (g.hD b i hb) h⟩
end Go.Vc
