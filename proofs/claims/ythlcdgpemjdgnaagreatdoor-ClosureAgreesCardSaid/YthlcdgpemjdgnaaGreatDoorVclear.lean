/- clear, at the end of a row of one's own. -/
import Derived.Test.YthlcdgpemjdgnaaGreatDoorVrow
set_option linter.unusedVariables false
namespace Go.Vc
open Go Go.RowKit
theorem setsAt_len2 : ∀ (Z : List Value) (cs : List Value) (o : Nat), (setsAt cs o Z).length = cs.length
  | [], _, _ => rfl
  | v :: r, cs, o => by
    show (setsAt (cs.set o v) (o + 1) r).length = _
    rw [setsAt_len2 r, List.length_set]
end Go.Vc
