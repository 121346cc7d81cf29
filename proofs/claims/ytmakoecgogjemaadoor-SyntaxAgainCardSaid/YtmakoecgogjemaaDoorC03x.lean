/- Syntax trees: places that came in as arguments. -/
import Derived.Test.YtmakoecgogjemaaDoorC03t
set_option linter.unusedVariables false
set_option maxRecDepth 20000
namespace Go.Proofs.YtmakoecgogjemaaDoor
open Go Go.Vc Go.RowKit Go.Syn Go.ChangeShapes Go.WideShapes Go.ChangeAt
section
variable {H : Type} {enc : TypeId × Value → H} {w : World} {base : Nat} {spare : Nat → Bool} {held : Bool}
theorem one_int (n : Nat) (cs : List Value) (y : DataW H × List MemPlace) (hl : cs.length = 1) (h : DataW.trod enc Tryd.prog w base spare held n 3 cs = some y) : ∃ x, intE'.rep (G.at0 w) cs x := by
  obtain ⟨c0, rfl⟩ : ∃ c, cs = [c] := List.length_eq_one_iff.1 hl
  obtain ⟨i, rfl, _⟩ := open_intC Tryd.underlying3 h
  exact ⟨i, rfl⟩
theorem open_ats {r : Reach} {b0 : Nat} {v : Value} {d : DataW H} {ps : List MemPlace} (hval : Value.okWide Tryd.prog w r b0 41 v) (hd : DataW.Trod enc Tryd.prog w base spare held 41 v d ps) :
    ∃ a l c L, v = .slice a l c ∧ SlE intE' (G.at0 w) a l c L := open_sliceV intE' Tryd.underlying41 cells3 one_int hval hd
end
end Go.Proofs.YtmakoecgogjemaaDoor
