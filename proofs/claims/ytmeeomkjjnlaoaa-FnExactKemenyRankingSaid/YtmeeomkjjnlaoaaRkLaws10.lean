/- The pure part: what the functions compute, in plain Lean, with no program in sight; no condition. -/
import Derived.Test.YtmeeomkjjnlaoaaRkPure27
namespace Go.FX
open Go Go.GL Go.RowKit
theorem law_KemenyRanking (a0 : LProfile) (g0 : ok_LProfile a0) : F_laws_FnExactKemenyRanking a0 = some true := by
  unfold F_laws_FnExactKemenyRanking
  rw [sz_Profile a0 g0 _ (by omega) (by omega), Option.bind_some]
  by_cases x0 : dec 1048576 (bk_LProfile a0) < 0
  · rw [decide_eq_true x0]; rfl
  have y0 := dec_nn x0
  rw [decide_eq_false x0, cond_false]
  have b0 : bk_LProfile a0 ≤ 1048576 := by omega
  have z0 := Nat.le_trans (ctle_Profile a0) b0
  have q0 := eq_Profile (to_LProfile a0) (to_LProfile a0) (smto_Profile a0 b0)
  rw [decide_eq_true rfl] at q0
  obtain ⟨r, e1, e2, c0⟩ := eqKemeny _ (smP_to b0)
  obtain ⟨m0, k0, w0, u0, v0⟩ := mkc_Profile (to_LProfile a0) z0 1 (by omega) (by omega)
  have n0 : decide (k0 < 0) = false := decide_eq_false (by omega)
  have p0 := eq_Int64S r.1 r.1 (smc_Int64S _ c0)
  rw [decide_eq_true rfl] at p0
  obtain ⟨m0', k0', w0', h0', u0', v0'⟩ := mhc_Int64S r.1 c0 1 (by omega) (by omega)
  have n0' : decide (k0' < 0) = false := decide_eq_false (by omega)
  simp only [to_Profile a0 b0, q0, e1, e2, w0, n0, p0, w0', h0', n0', Option.bind_some, bne_self_eq_false, Bool.not_true, cond_false]
end Go.FX
