/- The pure part: what the functions compute, in plain Lean, with no program in sight; no condition. -/
import Derived.Test.YtegfiapfgffcgaaBcBuy1
namespace Go.FX
open Go Go.GL Go.RowKit
/-- the purses behind an order, over their denominator, and the payments -/
def run (C : List Nat) (A : List (Nat → Bool)) : Nat → List Int → List Nat → Option ((Nat × List Int) × List (List DFraction))
  | D, X, [] => some ((D, X), [])
  | D, X, p :: ps => match prc D ((C[p]! : Int) * D) (srt (own A X p)) with
    | none => none
    | some (x, k) => match run C A (D * k) (newN A X p x k) ps with
      | none => none
      | some (s, L) => some (s, frs (D * k) (payN A X p x k) :: L)
section
variable {m : Nat} {C : List Nat} {A : List (Nat → Bool)} (h : Elec m C A)
include h
/-- the shares -/
def shr0 (m : Nat) (A : List (Nat → Bool)) : List Int := tab A.length fun _ => (m : Int)
theorem shr_sm : Sm (fr (m : Int) A.length) := fr_sm h.a1 (by have := h.a6; omega) (by have := h.money; omega)
theorem spShare : F_spec_l05Share (ele m C A) = some (fr (m : Int) A.length) := by
  have := h.a1; have := h.a6; have := h.money
  unfold F_spec_l05Share
  rw [ele_A]
  have e := spMake (n := (m : Int)) (d := A.length) h.a1 (by omega) (by omega) (by omega)
  have hm : (ele m C A).fMoney = (m : Int) := rfl
  rw [hm, e, if_pos (sm_inB (shr_sm h))]
  rfl
theorem imShare : F_impl_Election_share (ele m C A) = some (fr (m : Int) A.length) := by
  have := h.a1; have := h.a6; have := h.money
  unfold F_impl_Election_share
  rw [ele_A]
  have hm : (ele m C A).fMoney = (m : Int) := rfl
  rw [hm, imFraction h.a1 (by omega) (by omega) (by omega)]
  rfl
def runO (m : Nat) (C : List Nat) (A : List (Nat → Bool)) (os : List Nat) := run C A A.length (shr0 m A) os
end
end Go.FX
