/- Calls of the library that say 'below': what they leave; new rows of strings. -/
import Derived.Test.YtmkdbndniffkfaaDoorVsort
import Derived.Test.YtmkdbndniffkfaaDoorVt2
import Derived.Shelf.SortM.SortNone
import Derived.Shelf.SortM.Plain
import Derived.Shelf.SlIter.Nil
set_option linter.unusedVariables false
namespace Go.Vc
open Go Go.RowKit Go.Sort Go.Shelf Go.Proofs

/-- The world behind a call that turns nothing below. -/
def G.to (g : G) (w' : World) (h : g.w.heap.size ≤ w'.heap.size) : G := ⟨w', g.X, g.D, fun b hb => Nat.lt_of_lt_of_le (g.hX b hb) h, fun b i hb => Nat.lt_of_lt_of_le (g.hD b i hb) h⟩
theorem calls_below {P : Program} {k : FuncId} {args : Array Value} {g : G} {Q : Value → World → Prop} (h : Calls P k args g.w fun e w' => ∃ v, e = .returned v ∧ Below g.w.heap.size g.w w' ∧ Q v w') :
    CallsP P k args g fun v g' => ∃ h, Q v g'.w ∧ g' = g.to g'.w h := by
  refine Calls.mono h ?_
  rintro e w' ⟨v, rfl, hb, hq⟩
  refine ⟨v, g.to w' hb.size, rfl, rfl, ⟨?_, fun b => Iff.rfl, fun b hx => hb.block b (g.hX b hx), hb.os, hb.tape, hb.output, fun b hlt _ => hb.block b hlt, fun b hlt _ i => Iff.rfl⟩, hb.size, hq, rfl⟩
  have hex : Ex g (g.to w' hb.size) := ⟨hb.size, fun b _ hx => hx, fun b hlt _ => hb.block b hlt, fun b _ _ i => Iff.rfl⟩
  exact hex.le
/-- A new row that a call returned. -/
theorem own_sl {g : G} {w' : World} {h : g.w.heap.size ≤ w'.heap.size} {e : TypeId} {v : Value} {n : Nat} {L : List Value} (ho : w'.ownsRow g.w.heap.size e 1 v n L) : ∃ a c, v = .slice a n c ∧ Sl (g.to w' h) 1 a n c L := by
  obtain ⟨hl, ⟨rfl, rfl⟩ | ⟨b, cap, cur, rfl, hb, hheap, hnc, hcm, hcs, hcur⟩⟩ := ho
  · have : L = [] := List.eq_nil_of_length_eq_zero (by omega)
    subst this
    exact ⟨none, 0, rfl, Sl.zero _ _⟩
  · refine ⟨_, cap, rfl, by omega, hnc, hcm, fun h => (by cases h), ?_⟩
    rintro ad rfl2 i u hi
    cases rfl2
    rw [add_row, Nat.zero_add]
    refine ⟨?_, fun hx => ?_, fun hd => ?_⟩
    · show w'.cell? _ = _
      unfold World.cell?
      simp only
      rw [hheap]
      simp only [Option.isSome_none, Bool.false_eq_true, if_false]
      rw [← hcur, List.getElem?_take] at hi
      split at hi
      · simpa using hi
      · cases hi
    · have := g.hX b hx; omega
    · have := g.hD b i hd; omega
theorem strs_sle {g : G} {a : Option Addr} {n c : Nat} {ss : List (List UInt8)} (h : Sl g 1 a n c (ss.map encStr)) (hn : ss.length = n) : SlE strE g a n c ss := by
  refine ⟨⟨_, h, ss.map fun x => [encStr x], ?_, ?_⟩, hn⟩
  · clear h hn
    induction ss with
    | nil => rfl
    | cons x r ih => simp only [List.map_cons, List.flatten_cons, List.singleton_append]; rw [← ih]
  · clear h hn
    induction ss with
    | nil => exact .nil
    | cons x r ih => exact .cons rfl ih
end Go.Vc
