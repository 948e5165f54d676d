/- The pure part: what the functions compute, in plain Lean, with no program in sight; no condition. -/
import Derived.Test.YtnjfgdadnbekpaaDoorTvPure2
namespace Go.FX
open Go Go.GL Go.RowKit
/-! tables of n rows and n columns -/
theorem idx_nats {β : Type} {l : List Nat} {i : Nat} (h : i < l.length) (K : Int → Option β) : idx (l.map Int.ofNat) (i : Int) K = K (l[i] : Int) := by
  rw [idx_nat (by rw [List.length_map]; exact h), List.getElem_map]; rfl
theorem idx_prof {β : Type} {R : List (List Nat)} {T : List Nat} {i : Nat} (h : i < R.length) (K : List Int → Option β) : idx (prof R T).fRankings (i : Int) K = K (R[i].map Int.ofNat) := by
  unfold prof
  rw [idx_nat (by rw [List.length_map]; exact h), List.getElem_map]
theorem idx_wt {β : Type} {R : List (List Nat)} {T : List Nat} {i : Nat} (h : i < T.length) (K : Int → Option β) : idx (prof R T).fWeights (i : Int) K = K (T[i] : Int) := idx_nats h K
theorem prof_len {R : List (List Nat)} {T : List Nat} : (prof R T).fRankings.length = R.length := List.length_map _
section
variable {n : Nat} {R : List (List Nat)} {T : List Nat} (h : Prof n R T)
include h
theorem row_at {i : Nat} (hi : i < R.length) : R[i].length = n ∧ ∀ x ∈ R[i], x < n := ⟨h.len _ (List.getElem_mem hi), h.lt _ (List.getElem_mem hi)⟩
end
end Go.FX
