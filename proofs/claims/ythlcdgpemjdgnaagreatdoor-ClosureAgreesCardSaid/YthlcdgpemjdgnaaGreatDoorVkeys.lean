/- Calls of the library that say 'below': what they leave; new rows of strings. -/
import Derived.Test.YthlcdgpemjdgnaaGreatDoorVsort
import Derived.Test.YthlcdgpemjdgnaaGreatDoorVt2
import Derived.Shelf.SortM.SortNone
import Derived.Shelf.SortM.Plain
import Derived.Shelf.SlIter.Nil
set_option linter.unusedVariables false
namespace Go.Vc
open Go Go.RowKit Go.Sort Go.Shelf Go.Proofs
def G.to (g : G) (w' : World) (h : g.w.heap.size ≤ w'.heap.size) : G := ⟨w', g.X, g.D, fun b hb => Nat.lt_of_lt_of_le (g.hX b hb) h, fun b i hb => Nat.lt_of_lt_of_le (g.hD b i hb) h⟩
theorem calls_below {P : Program} {k : FuncId} {args : Array Value} {g : G} {Q : Value → World → Prop} (h : Calls P k args g.w fun e w' => ∃ v, e = .returned v ∧ Below g.w.heap.size g.w w' ∧ Q v w') :
    CallsP P k args g fun v g' => ∃ h, Q v g'.w ∧ g' = g.to g'.w h := by
  refine Calls.mono h ?_
  rintro e w' ⟨v, rfl, hb, hq⟩
  refine ⟨v, g.to w' hb.size, rfl, rfl, ⟨?_, fun b => Iff.rfl, fun b hx => hb.block b (g.hX b hx), hb.os, hb.tape, hb.output, fun b hlt _ => hb.block b hlt, fun b hlt _ i => Iff.rfl⟩, hb.size, hq, rfl⟩
  have hex : Ex g (g.to w' hb.size) := ⟨hb.size, fun b _ hx => hx, fun b hlt _ => hb.block b hlt, fun b _ _ i => Iff.rfl⟩
  exact hex.le
theorem strs_sle {g : G} {a : Option Addr} {n c : Nat} {ss : List (List UInt8)} (h : Sl g 1 a n c (ss.map encStr)) (hn : ss.length = n) : SlE strE g a n c ss := by
  refine ⟨⟨_, h, ss.map fun x => [encStr x], ?_, ?_⟩, hn⟩
  · clear h hn
    induction ss with
    | nil => rfl
    | cons x r ih => simp only [List.map_cons, List.flatten_cons, List.singleton_append]; rw [← ih]
  · clear h hn
    induction ss with
    | nil => exact .nil
    | cons x r ih => exact .cons rfl ih
end Go.Vc
