/- The pure part: what the functions compute, in plain Lean, with no program in sight; no condition. -/
import Derived.Test.YtbmeejcmbnjncaaSgPure7
namespace Go.FX
open Go Go.GL Go.RowKit
/-! a patch behind another -/
end Go.FX
