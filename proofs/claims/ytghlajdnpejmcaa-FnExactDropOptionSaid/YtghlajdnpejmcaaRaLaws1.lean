/- The pure part: what the functions compute, in plain Lean, with no program in sight; no condition. -/
import Derived.Test.YtghlajdnpejmcaaRaPure6
namespace Go.FX
open Go Go.GL Go.RowKit
theorem law_ValidProfile (a0 : LProfile) (g0 : ok_LProfile a0) : F_laws_FnExactValidProfile a0 = some true := by
  unfold F_laws_FnExactValidProfile
  rw [sz_Profile a0 g0 _ (by omega) (by omega), Option.bind_some]
  by_cases x0 : dec 1048576 (bk_LProfile a0) < 0
  · rw [decide_eq_true x0]; rfl
  have y0 := dec_nn x0
  rw [decide_eq_false x0, cond_false]
  have b0 : bk_LProfile a0 ≤ 1048576 := by omega
  have z0 := Nat.le_trans (ctle_Profile a0) b0
  have q0 := eq_Profile (to_LProfile a0) (to_LProfile a0) (smto_Profile a0 b0)
  rw [decide_eq_true rfl] at q0
  obtain ⟨r, e1, e2⟩ := eqVProfile _ (smP_to b0)
  simp only [to_Profile a0 b0, q0, e1, e2, Option.bind_some, bne_self_eq_false, Bool.not_true, cond_false]
theorem law_CountPairs (a0 : LProfile) (g0 : ok_LProfile a0) : F_laws_FnExactCountPairs a0 = some true := by
  unfold F_laws_FnExactCountPairs
  rw [sz_Profile a0 g0 _ (by omega) (by omega), Option.bind_some]
  by_cases x0 : dec 1048576 (bk_LProfile a0) < 0
  · rw [decide_eq_true x0]; rfl
  have y0 := dec_nn x0
  rw [decide_eq_false x0, cond_false]
  have b0 : bk_LProfile a0 ≤ 1048576 := by omega
  have z0 := Nat.le_trans (ctle_Profile a0) b0
  have q0 := eq_Profile (to_LProfile a0) (to_LProfile a0) (smto_Profile a0 b0)
  rw [decide_eq_true rfl] at q0
  obtain ⟨r, e1, e2, c0⟩ := eqCount _ (smP_to b0)
  obtain ⟨m0, k0, w0, u0, v0⟩ := mkc_Profile (to_LProfile a0) z0 1 (by omega) (by omega)
  have n0 : decide (k0 < 0) = false := decide_eq_false (by omega)
  have p0 := eq_Int64SS r.1 r.1 (smc_Int64SS _ c0)
  rw [decide_eq_true rfl] at p0
  obtain ⟨m0', k0', w0', h0', u0', v0'⟩ := mhc_Int64SS r.1 c0 1 (by omega) (by omega)
  have n0' : decide (k0' < 0) = false := decide_eq_false (by omega)
  simp only [to_Profile a0 b0, q0, e1, e2, w0, n0, p0, w0', h0', n0', Option.bind_some, bne_self_eq_false, Bool.not_true, cond_false]
theorem law_BordaScores (a0 : LProfile) (g0 : ok_LProfile a0) : F_laws_FnExactBordaScores a0 = some true := by
  unfold F_laws_FnExactBordaScores
  rw [sz_Profile a0 g0 _ (by omega) (by omega), Option.bind_some]
  by_cases x0 : dec 1048576 (bk_LProfile a0) < 0
  · rw [decide_eq_true x0]; rfl
  have y0 := dec_nn x0
  rw [decide_eq_false x0, cond_false]
  have b0 : bk_LProfile a0 ≤ 1048576 := by omega
  have z0 := Nat.le_trans (ctle_Profile a0) b0
  have q0 := eq_Profile (to_LProfile a0) (to_LProfile a0) (smto_Profile a0 b0)
  rw [decide_eq_true rfl] at q0
  obtain ⟨r, e1, e2, c0⟩ := eqBorda _ (smP_to b0)
  obtain ⟨m0, k0, w0, u0, v0⟩ := mkc_Profile (to_LProfile a0) z0 1 (by omega) (by omega)
  have n0 : decide (k0 < 0) = false := decide_eq_false (by omega)
  have p0 := eq_Int64S r.1 r.1 (smc_Int64S _ c0)
  rw [decide_eq_true rfl] at p0
  obtain ⟨m0', k0', w0', h0', u0', v0'⟩ := mhc_Int64S r.1 c0 1 (by omega) (by omega)
  have n0' : decide (k0' < 0) = false := decide_eq_false (by omega)
  simp only [to_Profile a0 b0, q0, e1, e2, w0, n0, p0, w0', h0', n0', Option.bind_some, bne_self_eq_false, Bool.not_true, cond_false]
theorem law_ReverseProfile (a0 : LProfile) (g0 : ok_LProfile a0) : F_laws_FnExactReverseProfile a0 = some true := by
  unfold F_laws_FnExactReverseProfile
  rw [sz_Profile a0 g0 _ (by omega) (by omega), Option.bind_some]
  by_cases x0 : dec 1048576 (bk_LProfile a0) < 0
  · rw [decide_eq_true x0]; rfl
  have y0 := dec_nn x0
  rw [decide_eq_false x0, cond_false]
  have b0 : bk_LProfile a0 ≤ 1048576 := by omega
  have z0 := Nat.le_trans (ctle_Profile a0) b0
  have q0 := eq_Profile (to_LProfile a0) (to_LProfile a0) (smto_Profile a0 b0)
  rw [decide_eq_true rfl] at q0
  obtain ⟨r, e1, e2, c0⟩ := eqReverse _ (smP_to b0)
  obtain ⟨m0, k0, w0, u0, v0⟩ := mkc_Profile (to_LProfile a0) z0 1 (by omega) (by omega)
  have n0 : decide (k0 < 0) = false := decide_eq_false (by omega)
  have p0 := eq_Profile r.1 r.1 (smc_Profile _ c0)
  rw [decide_eq_true rfl] at p0
  obtain ⟨m0', k0', w0', h0', u0', v0', t0'⟩ := mhc_Profile r.1 c0 1 (by omega) (by omega)
  have n0' : decide (k0' < 0) = false := decide_eq_false (by omega)
  simp only [to_Profile a0 b0, q0, e1, e2, w0, n0, p0, t0', w0', h0', n0', Option.bind_some, bne_self_eq_false, Bool.not_true, cond_false]
theorem law_DropOption (a0 : LProfile) (g0 : ok_LProfile a0) (a1 : Int) (_ : InR a1) : F_laws_FnExactDropOption a0 a1 = some true := by
  unfold F_laws_FnExactDropOption
  rw [sz_Profile a0 g0 _ (by omega) (by omega), Option.bind_some]
  by_cases x0 : dec 1048576 (bk_LProfile a0) < 0
  · rw [decide_eq_true x0]; rfl
  have y0 := dec_nn x0
  rw [decide_eq_false x0, cond_false]
  have b0 : bk_LProfile a0 ≤ 1048576 := by omega
  have z0 := Nat.le_trans (ctle_Profile a0) b0
  have q0 := eq_Profile (to_LProfile a0) (to_LProfile a0) (smto_Profile a0 b0)
  rw [decide_eq_true rfl] at q0
  obtain ⟨r, e1, e2, c0⟩ := eqDrop _ a1 (smP_to b0)
  obtain ⟨m0, k0, w0, u0, v0⟩ := mkc_Profile (to_LProfile a0) z0 1 (by omega) (by omega)
  have n0 : decide (k0 < 0) = false := decide_eq_false (by omega)
  have p0 := eq_Profile r.1 r.1 (smc_Profile _ c0)
  rw [decide_eq_true rfl] at p0
  obtain ⟨m0', k0', w0', h0', u0', v0', t0'⟩ := mhc_Profile r.1 c0 1 (by omega) (by omega)
  have n0' : decide (k0' < 0) = false := decide_eq_false (by omega)
  simp only [to_Profile a0 b0, q0, e1, e2, w0, n0, p0, t0', w0', h0', n0', Option.bind_some, bne_self_eq_false, Bool.not_true, cond_false]
theorem law_DisagreementOf (a0 : LProfile) (g0 : ok_LProfile a0) (a1 : (List Int)) (_ : (a1.length ≤ maxLen ∧ ∀ e0 ∈ a1, InR e0)) : F_laws_FnExactDisagreementOf a0 a1 = some true := by
  unfold F_laws_FnExactDisagreementOf
  by_cases s1 : (a1.length : Int) > 1048576
  · rw [decide_eq_true s1]; rfl
  rw [decide_eq_false s1, cond_false]
  have b1 : a1.length ≤ 1048576 := by omega
  rw [sz_Profile a0 g0 _ (by omega) (by omega), Option.bind_some]
  by_cases x0 : dec 1048576 (bk_LProfile a0) < 0
  · rw [decide_eq_true x0]; rfl
  have y0 := dec_nn x0
  rw [decide_eq_false x0, cond_false]
  have b0 : bk_LProfile a0 ≤ 1048576 := by omega
  have z0 := Nat.le_trans (ctle_Profile a0) b0
  have q0 := eq_Profile (to_LProfile a0) (to_LProfile a0) (smto_Profile a0 b0)
  rw [decide_eq_true rfl] at q0
  have z1 := Nat.le_trans (ctle_Int64S a1) b1
  have q1 := eq_Int64S a1 a1 (smto_Int64S a1 b1)
  rw [decide_eq_true rfl] at q1
  obtain ⟨r, e1, e2⟩ := eqDisag _ _ (smP_to b0) b1
  simp only [to_Profile a0 b0, q0, to_Int64S a1 b1, q1, e1, e2, Option.bind_some, bne_self_eq_false, Bool.not_true, cond_false]
  rfl
end Go.FX
