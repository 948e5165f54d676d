/- The pure part: what the functions compute, in plain Lean, with no program in sight; no condition. -/
import Derived.Test.YtegfiapfgffcgaaBpFrac2
namespace Go.FX
open Go Go.GL Go.RowKit
/-! the stable order -/
/-! purses over a common denominator -/
/-- numbers that are purses over D -/
structure Pur (D : Nat) (X : List Int) : Prop where
  d0 : 0 < D
  dB : D ≤ 279936
  nn : ∀ x ∈ X, 0 ≤ x
  up : ∀ x ∈ X, x ≤ 360 * D
def frs (D : Nat) (X : List Int) : List DFraction := X.map fun x => fr x D
theorem frs_len {D : Nat} {X : List Int} : (frs D X).length = X.length := List.length_map _
theorem frs_at {D : Nat} {X : List Int} {i : Nat} (h : i < X.length) : (frs D X)[i]'(by rw [frs_len]; exact h) = fr X[i] D := by simp [frs]
theorem idx_frs {β : Type} {D : Nat} {X : List Int} {i : Nat} (h : i < X.length) {k : DFraction → Option β} : idx (frs D X) (i : Int) k = k (fr X[i] D) := by
  rw [idx_nat (by rw [frs_len]; exact h), frs_at h]
/-- what the supporters of a project have -/
def own (A : List (Nat → Bool)) (X : List Int) (p : Nat) : List Int := (sup A p).map fun v => X[v.toNat]!
theorem sup_mem {A : List (Nat → Bool)} {p : Nat} {v : Int} (h : v ∈ sup A p) : ∃ j : Nat, v = j ∧ j < A.length ∧ likes A p j = true := by
  obtain ⟨j, h1, h2, h3⟩ := mem_lst.1 h
  exact ⟨j, h3, h1, h2⟩
theorem own_mem {A : List (Nat → Bool)} {X : List Int} {p : Nat} {x : Int} (hX : X.length = A.length) (h : x ∈ own A X p) : x ∈ X := by
  obtain ⟨v, hv, rfl⟩ := List.mem_map.1 h
  obtain ⟨j, rfl, hj, -⟩ := sup_mem hv
  rw [Int.toNat_natCast, getElem!_pos X j (by omega)]
  exact List.getElem_mem _
theorem own_len {A : List (Nat → Bool)} {X : List Int} {p : Nat} : (own A X p).length = kk A p := List.length_map _
/-! the list of what they have, in order -/
section
variable {m : Nat} {C : List Nat} {A : List (Nat → Bool)} (h : Elec m C A)
include h
theorem kk6 {p : Nat} : kk A p ≤ 6 := Nat.le_trans kk_le h.a6
end
end Go.FX
