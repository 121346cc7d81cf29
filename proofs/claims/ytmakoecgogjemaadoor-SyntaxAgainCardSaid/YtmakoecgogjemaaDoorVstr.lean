/- A slice of strings that came in. -/
import Derived.Test.YtmakoecgogjemaaDoorVlaw
import Derived.SliceStrings
set_option linter.unusedVariables false
namespace Go.Vc
open Go Go.RowKit Go.ChangeShapes Go.WideShapes Go.ChangeAt
variable {H : Type} {enc : TypeId × Value → H} {P : Program}

theorem open_strV {r : Reach} {b0 base : Nat} {spare : Nat → Bool} {held : Bool} {w : World} {t e : TypeId} {v : Value} {d : DataW H} {ps : List MemPlace} (ht : P.underlying t = some (.slice e)) (he : P.underlying e = some .string) (hc : P.cellsOf e = 1)
    (hval : Value.okWide P w r b0 t v) (hd : DataW.Trod enc P w base spare held t v d ps) :
    ∃ a l c ss, v = .slice a l c ∧ SlV w a l ((ss : List ByteArray).map Value.string) ∧ l ≤ c ∧ c ≤ maxLen ∧ (∀ s ∈ ss, s.size ≤ maxLen) ∧ (a = none → c = 0) := by
  obtain ⟨a1, len, cap, rfl⟩ := okWide_slice ht hval
  obtain ⟨fuel, hf⟩ := hd
  rcases open_strings ht he hc hf with ⟨hcs, hx⟩ | ⟨a, len', cap', zs, hcs, _, hl, hm, hz, hx, hcell, hwz⟩
  · simp [Value.cells] at hcs
    obtain ⟨rfl, rfl, rfl⟩ := hcs
    exact ⟨none, 0, 0, [], rfl, SlV.nil _ _, Nat.le_refl _, Nat.zero_le _, by simp, fun _ => rfl⟩
  · simp [Value.cells] at hcs
    obtain ⟨rfl, rfl, rfl⟩ := hcs
    have hlz : len ≤ zs.length := by rw [hz]; split <;> omega
    refine ⟨some a, len, cap, zs.take len, rfl, ⟨by simp [List.length_take]; omega, Or.inr ⟨a, rfl, ?_⟩⟩, hl, hm, fun x hx => hwz x (List.mem_of_mem_take hx), fun h => (by cases h)⟩
    intro i u hi
    have hlt : i < len := by
      have := (List.getElem?_eq_some_iff.1 hi).1
      simp at this
      omega
    rw [hcell i (by omega)]
    simp only [List.getElem?_map, List.getElem?_take, if_pos hlt] at hi
    rw [List.getElem?_eq_getElem (by omega)] at hi
    simp at hi
    subst hi
    simp [List.getD_eq_getElem?_getD, show i < zs.length by omega]
end Go.Vc
