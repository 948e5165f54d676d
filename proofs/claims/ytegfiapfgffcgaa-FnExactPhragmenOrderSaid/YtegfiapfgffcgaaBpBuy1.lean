/- The pure part: what the functions compute, in plain Lean, with no program in sight; no condition. -/
import Derived.Test.YtegfiapfgffcgaaBpPrice2
namespace Go.FX
open Go Go.GL Go.RowKit
def payI (A : List (Nat → Bool)) (X : List Int) (p : Nat) (x : Int) (k : Nat) (i : Nat) : Int := if likes A p i = true then (if X[i]! * k < x then X[i]! * k else x) else 0
def newN (A : List (Nat → Bool)) (X : List Int) (p : Nat) (x : Int) (k : Nat) : List Int := tab A.length fun i => X[i]! * k - payI A X p x k i
theorem frs_tab {D n : Nat} {g : Nat → Int} : frs D (tab n g) = tab n fun i => fr (g i) D := by unfold frs tab; rw [List.map_map]; rfl
theorem frs_eq {D : Nat} {X : List Int} : frs D X = tab X.length fun i => fr (X[i]!) D := by
  have := frs_tab (D := D) (n := X.length) (g := fun i => X[i]!)
  rw [← this]
  congr 1
  exact eq_tab X
theorem atX {X : List Int} {i : Nat} (h : i < X.length) : X[i]! ∈ X := by rw [getElem!_pos X i h]; exact List.getElem_mem _
theorem pay_b {A : List (Nat → Bool)} {X : List Int} {p : Nat} {x : Int} {k i : Nat} (h : 0 ≤ X[i]!) (hx : 0 ≤ x) : 0 ≤ payI A X p x k i ∧ payI A X p x k i ≤ X[i]! * k := by
  have : 0 ≤ X[i]! * (k : Int) := Int.mul_nonneg h (by omega)
  unfold payI
  split
  · split <;> omega
  · omega
theorem Pur.new {D : Nat} {A : List (Nat → Bool)} {X : List Int} {p : Nat} {x : Int} {k : Nat} (h : Pur D X) (hX : X.length = A.length) (hx : 0 ≤ x) (hk : 1 ≤ k) (hD : D * k ≤ 279936) : Pur (D * k) (newN A X p x k) := by
  refine ⟨Nat.mul_pos h.d0 hk, hD, fun y hy => ?_, fun y hy => ?_⟩
  · obtain ⟨i, hi, rfl⟩ := List.mem_map.1 hy
    have hi := List.mem_range.1 hi
    have := pay_b (A := A) (X := X) (p := p) (k := k) (i := i) (h.nn _ (atX (by omega))) hx
    omega
  · obtain ⟨i, hi, rfl⟩ := List.mem_map.1 hy
    have hi := List.mem_range.1 hi
    have h1 := h.up _ (atX (X := X) (i := i) (by omega))
    have := pay_b (A := A) (X := X) (p := p) (k := k) (i := i) (h.nn _ (atX (by omega))) hx
    have h2 : X[i]! * (k : Int) ≤ 360 * D * k := Int.mul_le_mul_of_nonneg_right h1 (by omega)
    rw [Int.natCast_mul, ← Int.mul_assoc]
    omega
section
variable {m : Nat} {C : List Nat} {A : List (Nat → Bool)} (h : Elec m C A)
include h
end
end Go.FX
