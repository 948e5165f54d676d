/- The pure part: what the functions compute, in plain Lean, with no program in sight; no condition. -/
import Derived.Test.YtnjfgdadnbekpaaDoorTuPure2
namespace Go.FX
open Go Go.GL Go.RowKit
/-! statutes -/
/-! acts in force -/
end Go.FX
