/- The pure part: what the functions compute, in plain Lean, with no program in sight; no condition. -/
import Derived.Test.YtghlajdnpejmcaaRcPure4
namespace Go.FX
open Go Go.GL Go.RowKit
theorem prof_bound {R : List (List Nat)} {T : List Nat} (hR : R.length ≤ 12) (hT : T.length ≤ 12) (hr : ∀ r ∈ R, r.length ≤ 6) :
    ((prof R T).fRankings.length + ((prof R T).fRankings.map fun e : List Int => e.length).sum) + (prof R T).fWeights.length ≤ 1048576 := by
  have h1 : (prof R T).fRankings.length = R.length := prof_len
  have h2 : (prof R T).fWeights.length = T.length := List.length_map _
  have := sum_bd (w := fun e : List Int => e.length) (b := 6) (l := (prof R T).fRankings) fun x hx => by
    obtain ⟨r, hr', rfl⟩ := List.mem_map.1 hx
    rw [List.length_map]
    exact hr r hr'
  rw [h1] at this ⊢
  omega
theorem map_tab {R : List (List Nat)} {g : List Nat → List Int} : ((List.range R.length).flatMap fun i => [g (R[i]!)]) = R.map g := by
  rw [← List.map_eq_flatMap]
  have e := eq_tab R
  conv => rhs; rw [e]
  unfold tab
  rw [List.map_map]
  rfl
section
variable {n : Nat} {R : List (List Nat)} {T : List Nat} (h : Prof n R T)
include h
end
end Go.FX
