/- The pure part: what the functions compute, in plain Lean, with no program in sight; no condition. -/
import Derived.Test.YtmeeomkjjnlaoaaRuUnj1
namespace Go.FX
open Go Go.GL Go.RowKit
theorem law_UnjustifiedGroup (a0 : LElection) (g0 : ok_LElection a0) (a1 : (List Int)) (g1 : (a1.length ≤ maxLen ∧ ∀ e0 ∈ a1, InR e0)) : F_laws_FnExactUnjustifiedGroup a0 a1 = some true := by
  unfold F_laws_FnExactUnjustifiedGroup
  by_cases s1 : (a1.length : Int) > 1048576
  · rw [decide_eq_true s1]; rfl
  rw [decide_eq_false s1, cond_false]
  have b1 : a1.length ≤ 1048576 := by omega
  rw [sz_Election a0 g0 _ (by omega) (by omega), Option.bind_some]
  by_cases x0 : dec 1048576 (bk_LElection a0) < 0
  · rw [decide_eq_true x0]; rfl
  have y0 := dec_nn x0
  rw [decide_eq_false x0, cond_false]
  have b0 : bk_LElection a0 ≤ 1048576 := by omega
  have z0 := Nat.le_trans (ctle_Election a0) b0
  have q0 := eq_Election (to_LElection a0) (to_LElection a0) (smto_Election a0 b0)
  rw [decide_eq_true rfl] at q0
  have z1 := Nat.le_trans (ctle_Int64S a1) b1
  have q1 := eq_Int64S a1 a1 (smto_Int64S a1 b1)
  rw [decide_eq_true rfl] at q1
  obtain ⟨r, e1, e2, c0, c1⟩ := eqUnj _ _ (smEl_to g0) g1.1
  obtain ⟨m0, k0, w0, u0, v0⟩ := mkc_Election (to_LElection a0) z0 1 (by omega) (by omega)
  obtain ⟨m1, k1, w1, u1, v1⟩ := mkc_Int64S a1 z1 k0 (by omega) (by omega)
  have n0 : decide (k1 < 0) = false := decide_eq_false (by omega)
  have p0 := eq_Int64S r.1 r.1 (smc_Int64S _ c0)
  rw [decide_eq_true rfl] at p0
  have p1 := eq_Int64S r.2.1 r.2.1 (smc_Int64S _ c1)
  rw [decide_eq_true rfl] at p1
  obtain ⟨m0', k0', w0', h0', u0', v0'⟩ := mhc_Int64S r.1 c0 1 (by omega) (by omega)
  have n0' : decide (k0' < 0) = false := decide_eq_false (by omega)
  obtain ⟨m1', k1', w1', h1', u1', v1'⟩ := mhc_Int64S r.2.1 c1 k0' (by omega) (by omega)
  have n1' : decide (k1' < 0) = false := decide_eq_false (by omega)
  simp only [to_Election a0 b0, q0, to_Int64S a1 b1, q1, e1, e2, w0, w1, n0, p0, p1, w0', h0', n0', w1', h1', n1', Option.bind_some, bne_self_eq_false, Bool.not_true, cond_false]
end Go.FX
