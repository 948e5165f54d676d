/- The pure part: what the functions compute, in plain Lean, with no program in sight; no condition. -/
import Derived.Test.YtghlajdnpejmcaaRcPure7
namespace Go.FX
open Go Go.GL Go.RowKit
/-! the pairs' weights are small -/
/-! duels -/
/-! the other side: each is laid in from behind -/
end Go.FX
