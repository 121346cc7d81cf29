/- Syntax trees: the paths that stand in a tree. -/
import Derived.Test.YthlcdgpemjdgnaaGreatDoorSsyn
set_option linter.unusedVariables false
namespace Go.Vc
open Go
def lsE {α : Type} (E : El α) : El (List α) where
  m := 1
  rep g r x := ∃ a n c, r = [.slice a n c] ∧ SlE E g a n c x
  len := by rintro g r x ⟨a, n, c, rfl, _⟩; rfl
  mono := by rintro g g' r x m ⟨a, n, c, rfl, h⟩; exact ⟨a, n, c, rfl, h.mono m⟩
  one := by
    rintro g r x ⟨a, n, c, rfl, _⟩ u hu
    simp at hu
    subst hu
    rfl
@[simp] theorem lsE_m {α : Type} (E : El α) : (lsE E).m = 1 := rfl
end Go.Vc
namespace Go.Syn
open Go Go.Vc
def bearP (op : Int) : Prop := op ∈ [2, 5, 14, 23, 24, 34, 48, 49, 66, 72, 74, 82]
instance (op : Int) : Decidable (bearP op) := by unfold bearP; infer_instance
mutual
def pathsT : Sy → List (List (List UInt8))
  | .mk d l => (if bearP d.op then [d.names] else []) ++ pathsL l
def pathsL : List Sy → List (List (List UInt8))
  | [] => []
  | t :: r => pathsT t ++ pathsL r
end
end Go.Syn
