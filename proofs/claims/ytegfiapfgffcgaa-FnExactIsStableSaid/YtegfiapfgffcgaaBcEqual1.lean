/- The pure part: what the functions compute, in plain Lean, with no program in sight; no condition. -/
import Derived.Test.YtegfiapfgffcgaaBcBuy3
namespace Go.FX
open Go Go.GL Go.RowKit
/-! the best of some candidates -/
/-! equal shares -/
section
variable {m : Nat} {C : List Nat} {A : List (Nat → Bool)} (h : Elec m C A)
theorem has_map {os : List Nat} {p : Nat} : (os.map Int.ofNat).contains (p : Int) = os.contains p := by
  rw [Bool.eq_iff_iff, List.contains_iff_mem, List.contains_iff_mem, List.mem_map]
  constructor
  · rintro ⟨a, ha, e⟩
    have : a = p := by have : (a : Int) = p := e; omega
    rwa [← this]
  · intro h
    exact ⟨p, h, rfl⟩
include h
end
end Go.FX
