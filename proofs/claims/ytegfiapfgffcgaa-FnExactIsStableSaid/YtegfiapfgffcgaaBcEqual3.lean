/- The pure part: what the functions compute, in plain Lean, with no program in sight; no condition. -/
import Derived.Test.YtegfiapfgffcgaaBcEqual2
namespace Go.FX
open Go Go.GL Go.RowKit
/-! what is paid is the cost -/
def costs (C : List Nat) (os : List Nat) : Int := (os.map fun p : Nat => ((C[p]! : Nat) : Int)).sum
/-! completed shares -/
section
variable {m : Nat} {C : List Nat} {A : List (Nat → Bool)} (h : Elec m C A)
include h
end
end Go.FX
