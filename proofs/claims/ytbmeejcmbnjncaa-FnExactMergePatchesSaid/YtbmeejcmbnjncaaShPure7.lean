/- The pure part: what the functions compute, in plain Lean, with no program in sight; no condition. -/
import Derived.Test.YtbmeejcmbnjncaaShPure6
namespace Go.FX
open Go Go.GL Go.RowKit
/-! the source of a text -/
end Go.FX
