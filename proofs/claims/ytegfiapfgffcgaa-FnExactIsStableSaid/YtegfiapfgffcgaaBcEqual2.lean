/- The pure part: what the functions compute, in plain Lean, with no program in sight; no condition. -/
import Derived.Test.YtegfiapfgffcgaaBcEqual1
namespace Go.FX
open Go Go.GL Go.RowKit
structure Good (m : Nat) (C : List Nat) (A : List (Nat → Bool)) (os : List Nat) : Prop where
  lt : ∀ p ∈ os, p < C.length
  nd : os.Nodup
  ok : (runO m C A os).isSome = true
theorem Good.len {m : Nat} {C : List Nat} {A : List (Nat → Bool)} {os : List Nat} (h : Good m C A os) : os.length ≤ C.length := by
  have := h.nd.length_le_of_subset (l₂ := List.range C.length) fun p hp => List.mem_range.2 (h.lt p hp)
  rwa [List.length_range] at this
section
variable {m : Nat} {C : List Nat} {A : List (Nat → Bool)} (h : Elec m C A)
include h
end
end Go.FX
