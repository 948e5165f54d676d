/- The pure part: what the functions compute, in plain Lean, with no program in sight; no condition. -/
import Derived.Test.YtegfiapfgffcgaaBcFrac1
namespace Go.FX
open Go Go.GL Go.RowKit
def addF (f g : DFraction) : DFraction := fr (f.fNum * g.fDen + g.fNum * f.fDen) (f.fDen * g.fDen).toNat
def subF (f g : DFraction) : DFraction := fr (f.fNum * g.fDen - g.fNum * f.fDen) (f.fDen * g.fDen).toNat
def over (f : DFraction) (k : Nat) : DFraction := fr f.fNum (f.fDen.toNat * k)
def icmp (x y : Int) : Int := if x < y then -1 else if y < x then 1 else 0
def cmpF (f g : DFraction) : Int := icmp (f.fNum * g.fDen) (g.fNum * f.fDen)
def res (f : DFraction) : DFraction × Bool := if inB f = true then (f, true) else (⟨0, 0⟩, false)
theorem mul_b {a b : Int} (h1 : -1000000000 ≤ a ∧ a ≤ 1000000000) (h2 : -1000000000 ≤ b ∧ b ≤ 1000000000) : -1000000000000000000 ≤ a * b ∧ a * b ≤ 1000000000000000000 := by
  have : (a * b).natAbs ≤ 1000000000 * 1000000000 := by rw [Int.natAbs_mul]; exact Nat.mul_le_mul (by omega) (by omega)
  omega
theorem Sm.n {f : DFraction} (h : Sm f) : -1000000000 ≤ f.fNum ∧ f.fNum ≤ 1000000000 := ⟨h.1, h.2.1⟩
theorem Sm.d {f : DFraction} (h : Sm f) : -1000000000 ≤ f.fDen ∧ f.fDen ≤ 1000000000 := ⟨by have := h.2.2.1; omega, h.2.2.2⟩
theorem Sm.dd {f g : DFraction} (hf : Sm f) (hg : Sm g) : 1 ≤ f.fDen * g.fDen ∧ f.fDen * g.fDen ≤ 1000000000000000000 :=
  ⟨Int.mul_pos (by have := hf.2.2.1; omega) (by have := hg.2.2.1; omega), (mul_b hf.d hg.d).2⟩
theorem imPlus {f g : DFraction} (hf : Sm f) (hg : Sm g) : F_impl_Fraction_plus f g = some (addF f g) := by
  have b1 := mul_b hf.n hg.d; have b2 := mul_b hg.n hf.d; have b3 := Sm.dd hf hg
  unfold F_impl_Fraction_plus addF
  rw [W_id (n := f.fNum * g.fDen) (by omega) (by omega), W_id (n := g.fNum * f.fDen) (by omega) (by omega), W_id (n := f.fDen * g.fDen) (by omega) (by omega), W_id (by omega) (by omega)]
  have := imFraction (n := f.fNum * g.fDen + g.fNum * f.fDen) (d := (f.fDen * g.fDen).toNat) (by omega) (by omega) (by omega) (by omega)
  rw [Int.toNat_of_nonneg (by omega)] at this
  rw [this]; rfl
theorem imMinus {f g : DFraction} (hf : Sm f) (hg : Sm g) : F_impl_Fraction_minus f g = some (subF f g) := by
  have hn := hg.n
  have hg' : Sm ⟨-g.fNum, g.fDen⟩ := ⟨by simp only; omega, by simp only; omega, hg.2.2.1, hg.2.2.2⟩
  unfold F_impl_Fraction_minus
  have e : IntKind.i64.wrap (0 - g.fNum) = -g.fNum := by rw [W_id (by omega) (by omega)]; omega
  rw [e, imPlus hf hg', Option.bind_some]
  unfold addF subF
  simp only [Int.neg_mul]
  rfl
theorem spAdd {f g : DFraction} (hf : Sm f) (hg : Sm g) : F_spec_l01Add f g = some (res (addF f g)) := by
  have b1 := mul_b hf.n hg.d; have b2 := mul_b hg.n hf.d; have b3 := Sm.dd hf hg
  unfold F_spec_l01Add addF
  rw [W_id (n := f.fNum * g.fDen) (by omega) (by omega), W_id (n := g.fNum * f.fDen) (by omega) (by omega), W_id (n := f.fDen * g.fDen) (by omega) (by omega), W_id (by omega) (by omega)]
  have := spMake (n := f.fNum * g.fDen + g.fNum * f.fDen) (d := (f.fDen * g.fDen).toNat) (by omega) (by omega) (by omega) (by omega)
  rw [Int.toNat_of_nonneg (by omega)] at this
  rw [this]; rfl
theorem spSub {f g : DFraction} (hf : Sm f) (hg : Sm g) : F_spec_l01Sub f g = some (res (subF f g)) := by
  have b1 := mul_b hf.n hg.d; have b2 := mul_b hg.n hf.d; have b3 := Sm.dd hf hg
  unfold F_spec_l01Sub subF
  rw [W_id (n := f.fNum * g.fDen) (by omega) (by omega), W_id (n := g.fNum * f.fDen) (by omega) (by omega), W_id (n := f.fDen * g.fDen) (by omega) (by omega), W_id (by omega) (by omega)]
  have := spMake (n := f.fNum * g.fDen - g.fNum * f.fDen) (d := (f.fDen * g.fDen).toNat) (by omega) (by omega) (by omega) (by omega)
  rw [Int.toNat_of_nonneg (by omega)] at this
  rw [this]; rfl
theorem imCmp {f g : DFraction} (hf : Sm f) (hg : Sm g) : F_impl_Fraction_compare f g = some (cmpF f g) := by
  have b1 := mul_b hf.n hg.d; have b2 := mul_b hg.n hf.d
  unfold F_impl_Fraction_compare cmpF icmp
  rw [W_id (n := f.fNum * g.fDen) (by omega) (by omega), W_id (n := g.fNum * f.fDen) (by omega) (by omega)]
  by_cases h1 : f.fNum * g.fDen < g.fNum * f.fDen
  · rw [decide_eq_true h1, if_pos h1]; rfl
  · rw [decide_eq_false h1, if_neg h1, cond_false]
    by_cases h2 : f.fNum * g.fDen > g.fNum * f.fDen
    · rw [decide_eq_true h2, if_pos h2]; rfl
    · rw [decide_eq_false h2, if_neg h2]; rfl
theorem spCmp {f g : DFraction} (hf : Sm f) (hg : Sm g) : F_spec_l01Cmp f g = some (cmpF f g) := imCmp hf hg
/-! fractions over a common denominator -/
theorem fr_sm {x : Int} {D : Nat} (h0 : 0 < D) (hD : D ≤ 1000000000) (hx : x.natAbs ≤ 1000000000) : Sm (fr x D) := by
  have b1 := fr_num_le (n := x) (d := D); have b2 := fr_den_le (n := x) (d := D); have b3 := fr_den_pos (n := x) h0
  exact ⟨by omega, by omega, b3, by omega⟩
theorem sm_inB {f : DFraction} (h : Sm f) : inB f = true := by
  unfold inB
  rw [Bool.and_eq_true, within_iff, within_iff]
  exact ⟨⟨h.2.2.1, h.2.2.2⟩, h.1, h.2.1⟩
end Go.FX
