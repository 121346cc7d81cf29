/- From a law's arguments to the worlds of the conditions, and back. -/
import Derived.Test.YtlofbfbcnlgmaaaVf2
import Derived.Test.YtlofbfbcnlgmaaaVlaw
import Derived.Test.YtlofbfbcnlgmaaaVstr
import Derived.Lib.SmallJoins
set_option linter.unusedVariables false
namespace Go.Vc
open Go Go.RowKit Go.ChangeShapes Go.WideShapes Go.ChangeAt
variable {H : Type} {enc : TypeId × Value → H} {P : Program}

/-- A world without private blocks and mutable cells. -/
def G.at0 (W : World) : G := ⟨W, fun _ => False, fun _ _ => False, fun _ h => h.elim, fun _ _ h => h.elim⟩
theorem live_at0 {W : World} {a : Addr} {v : Value} (h : W.cell? a = some v) : Live (G.at0 W) a v := ⟨h, fun h => h, fun h => h⟩
theorem SlV.at0 {W : World} {a : Option Addr} {l c : Nat} {L : List Value} (h : SlV W a l L) (hc : l ≤ c) (hm : c ≤ maxLen) (hn : a = none → c = 0) : Sl (G.at0 W) 1 a l c L := by
  refine ⟨by rw [h.1]; omega, hc, hm, hn, ?_⟩
  rintro ad rfl i v hi
  rcases h.2 with h0 | ⟨ad', e, hcs⟩
  · have := h.1
    have hlt := (List.getElem?_eq_some_iff.1 hi).1
    omega
  · cases e
    exact live_at0 (hcs i v hi)
/-- A call that returns true, and turns nothing that lay there. -/
theorem CallsP.true0 {k : FuncId} {args : Array Value} {W : World} (h : CallsP P k args (G.at0 W) fun v _ => v = .bool true) : Calls P k args W fun e w' => e = .returned (.bool true) ∧ Below W.heap.size W w' := by
  refine Calls.mono h ?_
  rintro e w' ⟨v, g', rfl, rfl, hs, rfl⟩
  exact ⟨rfl, hs.os, hs.tape, hs.output, hs.le.size, fun b hb => hs.same b hb (fun h => h)⟩
variable {w : World} {base : Nat} {spare : Nat → Bool} {held : Bool}
/-- A slice of numbers, by its cell. -/
theorem open_numsC {t e : TypeId} {k : IntKind} {v : Value} {fuel : Nat} {x : DataW H × List MemPlace} (ht : P.underlying t = some (.slice e)) (he : P.underlying e = some (.int k)) (hc : P.cellsOf e = 1) (h : DataW.trod enc P w base spare held fuel t [v] = some x) :
    ∃ a l c X, v = .slice a l c ∧ Sl (G.at0 w) 1 a l c (vs k X) ∧ (∀ x ∈ X, (Lit.int k x).wf = true) := by
  rcases open_ints ht he hc h with ⟨hcs, hx⟩ | ⟨a, len, cap, zs, hcs, _, hl, hm, hz, hx, hcell, hwz⟩
  · cases hcs
    exact ⟨none, 0, 0, [], rfl, Sl.zero _ _, by simp⟩
  · cases hcs
    have hlz : len ≤ zs.length := by rw [hz]; split <;> omega
    refine ⟨some a, len, cap, zs.take len, rfl, ⟨by simp; omega, hl, hm, fun h => (by cases h), ?_⟩, fun x hx => hwz x (List.mem_of_mem_take hx)⟩
    rintro ad rfl2 i u hi
    cases rfl2
    have hlt : i < len := by
      have := (List.getElem?_eq_some_iff.1 hi).1
      simp at this
      omega
    refine live_at0 ?_
    rw [hcell i (by omega)]
    rw [vs_get (by simp; omega)] at hi
    cases hi
    simp [List.getD_eq_getElem?_getD, hlt]
theorem open_bytesC {t e : TypeId} {v : Value} {fuel : Nat} {x : DataW H × List MemPlace} (ht : P.underlying t = some (.slice e)) (he : P.underlying e = some (.int .u8)) (hc : P.cellsOf e = 1) (h : DataW.trod enc P w base spare held fuel t [v] = some x) :
    ∃ a l c L, v = .slice a l c ∧ SlB (G.at0 w) a l c L := by
  obtain ⟨a, l, c, X, rfl, hs, hx⟩ := open_numsC ht he hc h
  obtain ⟨L, rfl⟩ := nums_of_wf X hx
  exact ⟨a, l, c, L, rfl, hs⟩
theorem open_bytes {r : Reach} {b0 : Nat} {t e : TypeId} {v : Value} {d : DataW H} {ps : List MemPlace} (ht : P.underlying t = some (.slice e)) (he : P.underlying e = some (.int .u8)) (hc : P.cellsOf e = 1)
    (hval : Value.okWide P w r b0 t v) (hd : DataW.Trod enc P w base spare held t v d ps) : ∃ a l c L, v = .slice a l c ∧ SlB (G.at0 w) a l c L := by
  obtain ⟨a1, len, cap, rfl⟩ := okWide_slice ht hval
  obtain ⟨fuel, hf⟩ := hd
  exact open_bytesC ht he hc hf
theorem open_intC {t : TypeId} {k : IntKind} {v : Value} {fuel : Nat} {x : DataW H × List MemPlace} (ht : P.underlying t = some (.int k)) (h : DataW.trod enc P w base spare held fuel t [v] = some x) : ∃ n, v = .int k n ∧ (Lit.int k n).wf = true := by
  obtain ⟨n', h, hx, hw⟩ := DataW.trod_int ht h
  cases h
  exact ⟨n', rfl, hw⟩
end Go.Vc
