/- What a row's list of four variables gives: the table of the rounds' numbers, and the powers of ten. -/
import Derived.Test.YtmkcffflebdheaaDoorC39t
import Derived.Test.YtmkcffflebdheaaDoorC39i
import Derived.LaidSub
set_option linter.unusedVariables false
namespace Go.Proofs.YtmkcffflebdheaaDoor
open Go Go.Vc Go.RowKit

theorem tabs_of {W : World} (h : laidMet Tryd.prog Rows.digestValidRow.laid W) : Tab W ∧ PTab W := by
  constructor
  · have h1 := h.filter (fun x => x.1 == "pilaster/digest.constants")
    have e : (Rows.digestValidRow.laid.filter (fun x => x.1 == "pilaster/digest.constants")) = [("pilaster/digest.constants", Lib.tabData .u32 kk)] := by kernel_rfl
    rw [e] at h1
    exact tab_of h1
  · have h1 := h.filter (fun x => x.1 == "internal/strconv.uint64pow10")
    have e : (Rows.digestValidRow.laid.filter (fun x => x.1 == "internal/strconv.uint64pow10")) = [("internal/strconv.uint64pow10", Lib.tabData .u64 Lib.pow10Tab)] := by kernel_rfl
    rw [e] at h1
    exact Lib.tabIs_of_head (t := 74) (e := 47) gPow (by kernel_rfl) Tryd.underlying74 Tryd.underlying47 (by kernel_rfl) (by kernel_rfl) h1
end Go.Proofs.YtmkcffflebdheaaDoor
