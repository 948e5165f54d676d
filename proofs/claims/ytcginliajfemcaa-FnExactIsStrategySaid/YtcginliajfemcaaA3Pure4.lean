/- The pure part: what the functions compute, in plain Lean, with no program in sight; no condition. -/
import Derived.Test.YtcginliajfemcaaA3Pure3
namespace Go.FX
open Go Go.GL Go.RowKit
/-! rounds -/
section
variable {c : Nat} {L : List (Nat × Nat)} (hc : c ≤ 10) (hL : ∀ e ∈ L, e.1 < c ∧ e.2 < c) (hl : L.length ≤ maxLen)
/-! the program's rounds -/
end
end Go.FX
