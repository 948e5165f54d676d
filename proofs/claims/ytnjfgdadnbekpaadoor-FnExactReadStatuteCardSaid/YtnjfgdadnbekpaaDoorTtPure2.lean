/- The pure part: what the functions compute, in plain Lean, with no program in sight; no condition. -/
import Derived.Test.YtnjfgdadnbekpaaDoorTtPure1
namespace Go.FX
open Go Go.GL Go.RowKit
/-! steps, finds -/
/-! valid patches -/
/-! inverse patches -/
/-! conflicts -/
/-! composed patches -/
end Go.FX
