/- A copy of a slice with one more element: append(append([]T{}, l...), x), in any order of its steps. -/
import Derived.Test.YthlcdgpemjdgnaaVfa
import Derived.Test.YthlcdgpemjdgnaaVda
set_option linter.unusedVariables false
namespace Go.Vc
open Go Go.RowKit

theorem sameB_of {g0 gy g' : G} {B : Nat} (m : Ex g0 gy) (h : Stp B nobody gy g') (hB : g0.w.heap.size ≤ B) : SameB g0 g' := fun b hb hx => (h.same b (by omega) (fun hh => hh)).trans (m.same b hb hx)
section
variable {P : Program} {α : Type} {E : El α} {t e : TypeId} {bytes : Nat} {g : G} {xs : List α} {K : Option Addr → Nat → Nat → G → Prop}
end
end Go.Vc
