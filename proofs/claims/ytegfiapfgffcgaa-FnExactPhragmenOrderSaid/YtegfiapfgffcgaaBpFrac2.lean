/- The pure part: what the functions compute, in plain Lean, with no program in sight; no condition. -/
import Derived.Test.YtegfiapfgffcgaaBpFrac1
namespace Go.FX
open Go Go.GL Go.RowKit
def addF (f g : DFraction) : DFraction := fr (f.fNum * g.fDen + g.fNum * f.fDen) (f.fDen * g.fDen).toNat
def over (f : DFraction) (k : Nat) : DFraction := fr f.fNum (f.fDen.toNat * k)
def icmp (x y : Int) : Int := if x < y then -1 else if y < x then 1 else 0
def cmpF (f g : DFraction) : Int := icmp (f.fNum * g.fDen) (g.fNum * f.fDen)
def res (f : DFraction) : DFraction × Bool := if inB f = true then (f, true) else (⟨0, 0⟩, false)
theorem mul_b {a b : Int} (h1 : -1000000000 ≤ a ∧ a ≤ 1000000000) (h2 : -1000000000 ≤ b ∧ b ≤ 1000000000) : -1000000000000000000 ≤ a * b ∧ a * b ≤ 1000000000000000000 := by
  have : (a * b).natAbs ≤ 1000000000 * 1000000000 := by rw [Int.natAbs_mul]; exact Nat.mul_le_mul (by omega) (by omega)
  omega
theorem Sm.n {f : DFraction} (h : Sm f) : -1000000000 ≤ f.fNum ∧ f.fNum ≤ 1000000000 := ⟨h.1, h.2.1⟩
theorem Sm.d {f : DFraction} (h : Sm f) : -1000000000 ≤ f.fDen ∧ f.fDen ≤ 1000000000 := ⟨by have := h.2.2.1; omega, h.2.2.2⟩
theorem Sm.dd {f g : DFraction} (hf : Sm f) (hg : Sm g) : 1 ≤ f.fDen * g.fDen ∧ f.fDen * g.fDen ≤ 1000000000000000000 :=
  ⟨Int.mul_pos (by have := hf.2.2.1; omega) (by have := hg.2.2.1; omega), (mul_b hf.d hg.d).2⟩
theorem imPlus {f g : DFraction} (hf : Sm f) (hg : Sm g) : F_impl_Fraction_plus f g = some (addF f g) := by
  have b1 := mul_b hf.n hg.d; have b2 := mul_b hg.n hf.d; have b3 := Sm.dd hf hg
  unfold F_impl_Fraction_plus addF
  rw [W_id (n := f.fNum * g.fDen) (by omega) (by omega), W_id (n := g.fNum * f.fDen) (by omega) (by omega), W_id (n := f.fDen * g.fDen) (by omega) (by omega), W_id (by omega) (by omega)]
  have := imFraction (n := f.fNum * g.fDen + g.fNum * f.fDen) (d := (f.fDen * g.fDen).toNat) (by omega) (by omega) (by omega) (by omega)
  rw [Int.toNat_of_nonneg (by omega)] at this
  rw [this]; rfl
theorem spAdd {f g : DFraction} (hf : Sm f) (hg : Sm g) : F_spec_l01Add f g = some (res (addF f g)) := by
  have b1 := mul_b hf.n hg.d; have b2 := mul_b hg.n hf.d; have b3 := Sm.dd hf hg
  unfold F_spec_l01Add addF
  rw [W_id (n := f.fNum * g.fDen) (by omega) (by omega), W_id (n := g.fNum * f.fDen) (by omega) (by omega), W_id (n := f.fDen * g.fDen) (by omega) (by omega), W_id (by omega) (by omega)]
  have := spMake (n := f.fNum * g.fDen + g.fNum * f.fDen) (d := (f.fDen * g.fDen).toNat) (by omega) (by omega) (by omega) (by omega)
  rw [Int.toNat_of_nonneg (by omega)] at this
  rw [this]; rfl
theorem over_b {f : DFraction} {k : Nat} (hf : Sm f) (hk : 1 ≤ k) (hk2 : k ≤ 1000) : f.fDen * (k : Int) = ((f.fDen.toNat * k : Nat) : Int) ∧ 0 < f.fDen.toNat * k ∧ f.fDen.toNat * k ≤ 1000000000 * 1000 := by
  have h3 := hf.2.2.1; have h4 := hf.2.2.2
  refine ⟨by rw [Int.natCast_mul, Int.toNat_of_nonneg (by omega)], Nat.mul_pos (by omega) (by omega), Nat.mul_le_mul (by omega) hk2⟩
theorem imOver {f : DFraction} {k : Nat} (hf : Sm f) (hk : 1 ≤ k) (hk2 : k ≤ 1000) : F_impl_Fraction_over f ⟨(k : Int), 1⟩ = some (over f k) := by
  have hn := hf.n; have hd := hf.2.2
  obtain ⟨e, p, q⟩ := over_b hf hk hk2
  unfold F_impl_Fraction_over over
  simp only
  rw [decide_eq_false (by omega), cond_false, Int.mul_one, W_id (n := f.fNum) (by omega) (by omega), e, W_id (by omega) (by omega), imFraction p (by omega) (by omega) (by omega)]
  rfl
theorem spDiv {f : DFraction} {k : Nat} (hf : Sm f) (hk : 1 ≤ k) (hk2 : k ≤ 1000) : F_spec_l01Div f ⟨(k : Int), 1⟩ = some (res (over f k)) := by
  have hn := hf.n; have hd := hf.2.2
  obtain ⟨e, p, q⟩ := over_b hf hk hk2
  unfold F_spec_l01Div over
  simp only
  rw [beq_eq_false_iff_ne.2 (by omega), cond_false, Int.mul_one, W_id (n := f.fNum) (by omega) (by omega), e, W_id (by omega) (by omega), spMake p (by omega) (by omega) (by omega)]
  rfl
theorem imCmp {f g : DFraction} (hf : Sm f) (hg : Sm g) : F_impl_Fraction_compare f g = some (cmpF f g) := by
  have b1 := mul_b hf.n hg.d; have b2 := mul_b hg.n hf.d
  unfold F_impl_Fraction_compare cmpF icmp
  rw [W_id (n := f.fNum * g.fDen) (by omega) (by omega), W_id (n := g.fNum * f.fDen) (by omega) (by omega)]
  by_cases h1 : f.fNum * g.fDen < g.fNum * f.fDen
  · rw [decide_eq_true h1, if_pos h1]; rfl
  · rw [decide_eq_false h1, if_neg h1, cond_false]
    by_cases h2 : f.fNum * g.fDen > g.fNum * f.fDen
    · rw [decide_eq_true h2, if_pos h2]; rfl
    · rw [decide_eq_false h2, if_neg h2]; rfl
theorem spCmp {f g : DFraction} (hf : Sm f) (hg : Sm g) : F_spec_l01Cmp f g = some (cmpF f g) := imCmp hf hg
/-! fractions over a common denominator -/
theorem fr_sm {x : Int} {D : Nat} (h0 : 0 < D) (hD : D ≤ 1000000000) (hx : x.natAbs ≤ 1000000000) : Sm (fr x D) := by
  have b1 := fr_num_le (n := x) (d := D); have b2 := fr_den_le (n := x) (d := D); have b3 := fr_den_pos (n := x) h0
  exact ⟨by omega, by omega, b3, by omega⟩
theorem sm_inB {f : DFraction} (h : Sm f) : inB f = true := by
  unfold inB
  rw [Bool.and_eq_true, within_iff, within_iff]
  exact ⟨⟨h.2.2.1, h.2.2.2⟩, h.1, h.2.1⟩
theorem res_sm {f : DFraction} (h : Sm f) : res f = (f, true) := if_pos (sm_inB h)
theorem dprod {x y : Int} {d e : Nat} (hd : 0 < d) (he : 0 < e) : ((fr x d).fDen * (fr y e).fDen).toNat = (fr x d).fDen.toNat * (fr y e).fDen.toNat := by
  have b1 := fr_den_pos (n := x) hd; have b2 := fr_den_pos (n := y) he
  have : (fr x d).fDen * (fr y e).fDen = (((fr x d).fDen.toNat * (fr y e).fDen.toNat : Nat) : Int) := by rw [Int.natCast_mul, Int.toNat_of_nonneg (by omega), Int.toNat_of_nonneg (by omega)]
  rw [this]; rfl
theorem add_gen {x y : Int} {d e : Nat} (hd : 0 < d) (he : 0 < e) : addF (fr x d) (fr y e) = fr (x * e + y * d) (d * e) := by
  have b1 := fr_den_pos (n := x) hd; have b2 := fr_den_pos (n := y) he
  have c1 := fr_cross (n := x) (d := d); have c2 := fr_cross (n := y) (d := e)
  unfold addF
  refine fr_eq_iff (by rw [dprod hd he]; exact Nat.mul_pos (by omega) (by omega)) (Nat.mul_pos hd he) ?_
  rw [Int.natCast_mul, Int.toNat_of_nonneg (Int.mul_nonneg (by omega) (by omega))]
  generalize (fr x d).fNum = a at *
  generalize (fr x d).fDen = p at *
  generalize (fr y e).fNum = b at *
  generalize (fr y e).fDen = q at *
  have h1 : a * q * ((d : Int) * e) = (a * d) * (q * e) := by simp only [Int.mul_assoc, Int.mul_left_comm]
  have h2 : b * p * ((d : Int) * e) = (b * e) * (p * d) := by simp only [Int.mul_assoc, Int.mul_left_comm, Int.mul_comm]
  rw [Int.add_mul, h1, h2, c1, c2, Int.add_mul]
  simp only [Int.mul_assoc, Int.mul_left_comm, Int.mul_comm]
theorem add_fr {x y : Int} {D : Nat} (h : 0 < D) : addF (fr x D) (fr y D) = fr (x + y) D := by
  rw [add_gen h h, ← Int.add_mul, fr_scale h h]
theorem over_fr {x : Int} {D k : Nat} (h : 0 < D) (hk : 0 < k) : over (fr x D) k = fr x (D * k) := by
  have b1 := fr_den_pos (n := x) h
  unfold over
  refine fr_eq_iff (Nat.mul_pos (by omega) hk) (Nat.mul_pos h hk) ?_
  rw [Int.natCast_mul, Int.natCast_mul, Int.toNat_of_nonneg (by omega), ← Int.mul_assoc, fr_cross, Int.mul_assoc]
theorem whole_fr {n : Int} {D : Nat} (h : 0 < D) : (⟨n, 1⟩ : DFraction) = fr (n * D) D :=
  fr_eq h (by simp) (by simp) (by simp)
end Go.FX
