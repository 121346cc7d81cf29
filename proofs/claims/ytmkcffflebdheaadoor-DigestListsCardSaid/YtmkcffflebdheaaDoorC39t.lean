/- What the row's list gives: the table of the rounds' numbers lies in its place. -/
import Derived.Test.YtmkcffflebdheaaDoorRows
import Derived.OpenShut
import Derived.Deep.DeepHandedRow
import Derived.Lib.LaidTab
import Derived.Test.YtmkcffflebdheaaDoorVlaw
import Derived.Test.YtmkcffflebdheaaDoorC39s
set_option linter.unusedVariables false
namespace Go.Proofs.YtmkcffflebdheaaDoor
open Go Go.Vc Go.RowKit Go.ChangeShapes Go.WideShapes Go.ChangeAt

theorem own : ownKnob Tryd.prog.godebug = none := by kernel_rfl
theorem laidOut : laidOutB Tryd.prog = true := by kernel_rfl
theorem gTab : Tryd.prog.globalNamed "pilaster/digest.constants" = some 0 := by kernel_rfl
theorem gTabType : (Tryd.prog.globals[0]?).map (·.type) = some 62 := by kernel_rfl
theorem cells62 : Tryd.prog.cellsOf 62 = 64 := by kernel_rfl
theorem cells41 : Tryd.prog.cellsOf 41 = 1 := by kernel_rfl

theorem tab_of {W : World} {rest : List (String × DataW Unit)} (h : laidMet Tryd.prog (("pilaster/digest.constants", Lib.tabData .u32 kk) :: rest) W) : Tab W := by
  have ht : Lib.TabIs Tryd.prog W "pilaster/digest.constants" .u32 kk := Lib.tabIs_of_head gTab gTabType Tryd.underlying62 Tryd.underlying41 cells41 cells62 h
  intro i v hi
  have hlt : i < kk.length := by
    have := (List.getElem?_eq_some_iff.1 hi).1
    simpa using this
  rw [vs_get hlt] at hi
  rw [add_zero_row]
  have hc := ht.cell gTab i hlt
  cases hi
  rw [hc]

end Go.Proofs.YtmkcffflebdheaaDoor
