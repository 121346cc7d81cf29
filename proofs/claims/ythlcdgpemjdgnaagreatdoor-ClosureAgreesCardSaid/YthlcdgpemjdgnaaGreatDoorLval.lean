/- Value expressions: what they evaluate to, and how that is observed. -/
import Derived.Test.YthlcdgpemjdgnaaGreatDoorLamA
set_option linter.unusedVariables false
namespace Go.Lam
open Go Go.Vc Go.RowKit Go.Syn
mutual
def valP : E → Prop
  | .mk d l => (d.op = 2 ∨ d.op = 3 ∨ d.op = 4 ∨ d.op = 10) ∨ ((d.op = 6 ∨ d.op = 8) ∧ valPL l)
def valPL : List E → Prop
  | [] => True
  | t :: r => valP t ∧ valPL r
end
def wop (op : Int) : Int := if op = 2 then 1 else if op = 3 then 2 else if op = 6 then 3 else if op = 8 then 4 else 0
mutual
def wrV : E → Sy
  | .mk d l => .mk ⟨wop d.op, d.n, d.s, []⟩ (if wop d.op = 0 then [] else wrVL l)
def wrVL : List E → List Sy
  | [] => []
  | t :: r => wrV t :: wrVL r
end
mutual
def noF : E → Prop
  | .mk d l => wop d.op ≠ 0 ∧ noFL l
def noFL : List E → Prop
  | [] => True
  | t :: r => noF t ∧ noFL r
end
structure Gives (x : E) (d left : Nat) (out : List Lab) (t : Th) (k : Nat) : Prop where
  ev : evalN d x [] left out = .ok t (left - k) out
  le : k ≤ sizeE x
  one : 1 ≤ k
  size : noF x → k = sizeE x
  obs : ∀ D m, depthE x ≤ D → sizeE x ≤ m → ∃ (y : Sy) (j : Nat), obsN D t m = some (y, m - j) ∧ j ≤ sizeE x ∧ (noF x → y = wrV x)
end Go.Lam
