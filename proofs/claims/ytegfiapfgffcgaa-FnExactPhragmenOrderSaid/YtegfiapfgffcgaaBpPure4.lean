/- The pure part: what the functions compute, in plain Lean, with no program in sight; no condition. -/
import Derived.Test.YtegfiapfgffcgaaBpPure3
import Derived.Test.YtegfiapfgffcgaaBpLib2
namespace Go.FX
open Go Go.GL Go.RowKit
section
variable {m : Nat} {C : List Nat} {A : List (Nat → Bool)} (h : Elec m C A)
include h
end
/-! the sort is the one by buckets -/
/-! the greedy budget -/
section
variable {m : Nat} {C : List Nat} {A : List (Nat → Bool)} (h : Elec m C A)
include h
end
end Go.FX
