/- Bits of numbers below 2^32: the same in 32 and in 64 bits. -/
import Derived.Test.YthlcdgpemjdgnaaGreatDoorVwa
set_option linter.unusedVariables false
namespace Go.Vc
open Go
end Go.Vc
