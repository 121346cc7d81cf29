/- A copy of a slice with one more element: append(append([]T{}, l...), x), in any order of its steps. -/
import Derived.Test.YthlcdgpemjdgnaaGreatDoorVfa
import Derived.Test.YthlcdgpemjdgnaaGreatDoorVda
set_option linter.unusedVariables false
namespace Go.Vc
open Go Go.RowKit
theorem sameB_of {g0 gy g' : G} {B : Nat} (m : Ex g0 gy) (h : Stp B nobody gy g') (hB : g0.w.heap.size ≤ B) : SameB g0 g' := fun b hb hx => (h.same b (by omega) (fun hh => hh)).trans (m.same b hb hx)
theorem stp_exB {g0 gy g' : G} {B : Nat} (h : Stp B nobody gy g') (m : Ex g0 gy) (hB : g0.w.heap.size ≤ B) : Ex g0 g' :=
  ⟨Nat.le_trans m.size h.le.size, fun b hb hx hh => m.x b hb hx ((h.x b).1 hh), fun b hb hx => sameB_of m h hB b hb hx, fun b hb hx i => (h.d b (by omega) (fun hh => hh) i).trans (m.d b hb hx i)⟩
section
variable {P : Program} {α : Type} {E : El α} {t e : TypeId} {bytes : Nat} {g : G} {xs : List α} {K : Option Addr → Nat → Nat → G → Prop}
end
end Go.Vc
