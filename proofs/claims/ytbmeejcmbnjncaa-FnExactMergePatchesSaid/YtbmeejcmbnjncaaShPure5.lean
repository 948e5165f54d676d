/- The pure part: what the functions compute, in plain Lean, with no program in sight; no condition. -/
import Derived.Test.YtbmeejcmbnjncaaShPure4
namespace Go.FX
open Go Go.GL Go.RowKit
end Go.FX
