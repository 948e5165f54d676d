/- The pure part: what the functions compute, in plain Lean, with no program in sight; no condition. -/
import Derived.Test.YtegfiapfgffcgaaBcPrice2
namespace Go.FX
open Go Go.GL Go.RowKit
def payI (A : List (Nat → Bool)) (X : List Int) (p : Nat) (x : Int) (k : Nat) (i : Nat) : Int := if likes A p i = true then (if X[i]! * k < x then X[i]! * k else x) else 0
def payN (A : List (Nat → Bool)) (X : List Int) (p : Nat) (x : Int) (k : Nat) : List Int := tab A.length (payI A X p x k)
def newN (A : List (Nat → Bool)) (X : List Int) (p : Nat) (x : Int) (k : Nat) : List Int := tab A.length fun i => X[i]! * k - payI A X p x k i
section
variable {m : Nat} {C : List Nat} {A : List (Nat → Bool)} (h : Elec m C A)
include h
end
end Go.FX
