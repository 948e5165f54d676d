/- The pure part: what the functions compute, in plain Lean, with no program in sight; no condition. -/
import Derived.Test.YtmeeomkjjnlaoaaRkPure4
namespace Go.FX
open Go Go.GL Go.RowKit
section
variable {n : Nat} {R : List (List Nat)} {T : List Nat} (h : Prof n R T)
include h
end
end Go.FX
