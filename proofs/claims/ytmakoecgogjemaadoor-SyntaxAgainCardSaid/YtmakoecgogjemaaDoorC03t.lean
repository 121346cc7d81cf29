/- Syntax trees: the table that the row lists. -/
import Derived.Test.YtmakoecgogjemaaDoorRows
import Derived.Test.YtmakoecgogjemaaDoorC03p
import Derived.Lib.LaidTab
set_option linter.unusedVariables false
set_option maxRecDepth 20000
namespace Go.Proofs.YtmakoecgogjemaaDoor
open Go Go.Vc Go.RowKit Go.Syn Go.ChangeShapes Go.WideShapes Go.ChangeAt

theorem laid_tab : (Rows.laid_strings_asciiSpace : DataW Unit) = Lib.tabData .u8 Lib.asciiSpaceTab := by kernel_rfl
theorem tabName : Tryd.prog.globalNamed "strings.asciiSpace" = some 0 := by kernel_rfl
theorem tabType : (Tryd.prog.globals[(0 : Nat)]?).map (·.type) = some 90 := by kernel_rfl
theorem cells5 : Tryd.prog.cellsOf 5 = 1 := by kernel_rfl
theorem cells90 : Tryd.prog.cellsOf 90 = 256 := by kernel_rfl
theorem tab_of {W : World} {x : String × DataW Unit} (h : laidMet Tryd.prog [x, ("strings.asciiSpace", Rows.laid_strings_asciiSpace)] W) : TabG (G.at0 W) := by
  obtain ⟨g, t, cs, fuel, p, hg, ht, hv, hd⟩ := Lib.laidMet.reads h (.tail _ (.head _))
  rw [laid_tab] at hd
  obtain rfl : 0 = g := Option.some.inj (tabName.symm.trans hg)
  obtain rfl : 90 = t := Option.some.inj (tabType.symm.trans ht)
  have hcs := Lib.cells_of_tab Tryd.underlying90 Tryd.underlying5 cells5 cells90 hd
  refine ⟨0, hg, ?_⟩
  unfold World.var? at hv
  rw [hg] at hv
  simp only [Option.bind_some] at hv
  rw [← hcs]
  split at hv
  · rename_i c e fr hc
    obtain rfl := Option.some.inj hv
    exact ⟨e, fr, hc, fun hh => hh, fun _ hh => hh⟩
  · cases hv
end Go.Proofs.YtmakoecgogjemaaDoor
