/- Scope: what is free depends on which labels are bound, and on nothing else. -/
import Derived.Test.YtmkdbndniffkfaaDoorSsort
set_option linter.unusedVariables false
namespace Go.Syn
open Go Go.Vc

end Go.Syn
