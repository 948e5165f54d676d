/- The pure part: what the functions compute, in plain Lean, with no program in sight; no condition. -/
import Derived.Test.YtnjfgdadnbekpaaDoorTvPure3
namespace Go.FX
open Go Go.GL Go.RowKit
/-! scores -/
/-! copies -/
end Go.FX
