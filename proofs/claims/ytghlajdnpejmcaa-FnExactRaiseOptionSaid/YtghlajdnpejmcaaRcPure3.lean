/- The pure part: what the functions compute, in plain Lean, with no program in sight; no condition. -/
import Derived.Test.YtghlajdnpejmcaaRcPure2
namespace Go.FX
open Go Go.GL Go.RowKit
/-! tables of n rows and n columns -/
theorem idx_nats {β : Type} {l : List Nat} {i : Nat} (h : i < l.length) (K : Int → Option β) : idx (l.map Int.ofNat) (i : Int) K = K (l[i] : Int) := by
  rw [idx_nat (by rw [List.length_map]; exact h), List.getElem_map]; rfl
theorem idx_prof {β : Type} {R : List (List Nat)} {T : List Nat} {i : Nat} (h : i < R.length) (K : List Int → Option β) : idx (prof R T).fRankings (i : Int) K = K (R[i].map Int.ofNat) := by
  unfold prof
  rw [idx_nat (by rw [List.length_map]; exact h), List.getElem_map]
theorem prof_len {R : List (List Nat)} {T : List Nat} : (prof R T).fRankings.length = R.length := List.length_map _
section
variable {n : Nat} {R : List (List Nat)} {T : List Nat} (h : Prof n R T)
include h
theorem row_at {i : Nat} (hi : i < R.length) : R[i].length = n ∧ ∀ x ∈ R[i], x < n := ⟨h.len _ (List.getElem_mem hi), h.lt _ (List.getElem_mem hi)⟩
theorem cnt_prof : cnt0 (prof R T) = n := by
  have h0 : 0 < (prof R T).fRankings.length := by rw [prof_len]; exact h.r1
  have e : (prof R T).fRankings[0]'h0 = (R[0]'h.r1).map Int.ofNat := List.getElem_map ..
  unfold cnt0
  rw [getElem!_pos _ 0 h0, e, List.length_map]
  exact h.len _ (List.getElem_mem _)
theorem imOptions : F_impl_Profile_options (prof R T) = some (n : Int) := by
  unfold F_impl_Profile_options
  have h0 : 0 < (prof R T).fRankings.length := by rw [prof_len]; exact h.r1
  rw [idx0 h0, cnt_at h0, cnt_prof h]
end
end Go.FX
