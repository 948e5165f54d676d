/- The pure part: what the functions compute, in plain Lean, with no program in sight; no condition. -/
import Derived.Test.YtmeeomkjjnlaoaaRlPure6
namespace Go.FX
open Go Go.GL Go.RowKit
/-! strengths -/
section
variable {n : Nat} (hn : n ≤ 6) {M : Nat → Nat → Int}
include hn
end
/-! the winners -/
end Go.FX
