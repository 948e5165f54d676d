/- The pure part: what the functions compute, in plain Lean, with no program in sight; no condition. -/
import Derived.Test.YthgmjhiccdjboaaSdPure3
namespace Go.FX
open Go Go.GL Go.RowKit
/-! a statute by the texts of its Ids -/
end Go.FX
