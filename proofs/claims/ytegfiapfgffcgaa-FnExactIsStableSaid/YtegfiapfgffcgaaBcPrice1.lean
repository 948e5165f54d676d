/- The pure part: what the functions compute, in plain Lean, with no program in sight; no condition. -/
import Derived.Test.YtegfiapfgffcgaaBcFrac2
namespace Go.FX
open Go Go.GL Go.RowKit
/-! the stable order -/
def srt (l : List Int) : List Int := (sortB (fun x y => decide (x < y)) l).reverse
/-! purses over a common denominator -/
def frs (D : Nat) (X : List Int) : List DFraction := X.map fun x => fr x D
def prc (D : Nat) : Int → List Int → Option (Int × Nat)
  | _, [] => none
  | left, y :: ys => if left ≤ y * ((ys.length + 1 : Nat) : Int) then some (left, ys.length + 1) else prc D (left - y) ys
/-- what the supporters of a project have -/
def own (A : List (Nat → Bool)) (X : List Int) (p : Nat) : List Int := (sup A p).map fun v => X[v.toNat]!
theorem sup_mem {A : List (Nat → Bool)} {p : Nat} {v : Int} (h : v ∈ sup A p) : ∃ j : Nat, v = j ∧ j < A.length ∧ likes A p j = true := by
  obtain ⟨j, h1, h2, h3⟩ := mem_lst.1 h
  exact ⟨j, h3, h1, h2⟩
/-! the list of what they have, in order -/
section
variable {m : Nat} {C : List Nat} {A : List (Nat → Bool)} (h : Elec m C A)
include h
theorem kk6 {p : Nat} : kk A p ≤ 6 := Nat.le_trans kk_le h.a6
end
end Go.FX
