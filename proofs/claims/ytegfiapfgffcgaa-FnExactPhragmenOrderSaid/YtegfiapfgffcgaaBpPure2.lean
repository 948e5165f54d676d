/- The pure part: what the functions compute, in plain Lean, with no program in sight; no condition. -/
import Derived.Test.YtegfiapfgffcgaaBpPure1
namespace Go.FX
open Go Go.GL Go.RowKit
/-! counting -/
end Go.FX
