/- The pure part: what the functions compute, in plain Lean, with no program in sight; no condition. -/
import Derived.Test.YtnjfgdadnbekpaaDoorTvPure9
namespace Go.FX
open Go Go.GL Go.RowKit
theorem law_ReadProfile (a0 : Bytes) (_ : a0.length ≤ maxLen) : F_laws_FnExactReadProfile a0 = some true := by
  unfold F_laws_FnExactReadProfile
  by_cases s0 : (a0.length : Int) > 1048576
  · rw [decide_eq_true s0]; rfl
  rw [decide_eq_false s0, cond_false]
  have b0 : a0.length ≤ 1048576 := by omega
  obtain ⟨r, e1, e2, c0⟩ := eqReadProf _ b0
  have p0 := eq_Profile r.1 r.1 (smc_Profile _ c0)
  rw [decide_eq_true rfl] at p0
  obtain ⟨m0', k0', w0', h0', u0', v0', t0'⟩ := mhc_Profile r.1 c0 1 (by omega) (by omega)
  have n0' : decide (k0' < 0) = false := decide_eq_false (by omega)
  simp only [e1, e2, p0, t0', w0', h0', n0', Option.bind_some, bne_self_eq_false, Bool.not_true, cond_false]
end Go.FX
