/- The pure part: what the functions compute, in plain Lean, with no program in sight; no condition. -/
import Derived.Test.YtbmeejcmbnjncaaShPure15
namespace Go.FX
open Go Go.GL Go.RowKit
theorem law_MergePatches (a0 : (List LEdit)) (g0 : (a0.length ≤ maxLen ∧ ∀ e0 ∈ a0, ok_LEdit e0)) (a1 : (List LEdit)) (g1 : (a1.length ≤ maxLen ∧ ∀ e0 ∈ a1, ok_LEdit e0)) : F_laws_FnExactMergePatches a0 a1 = some true := by
  unfold F_laws_FnExactMergePatches
  rw [sz_EditS a0 g0 _ (by omega) (by omega), Option.bind_some]
  by_cases x0 : dec 1048576 ((a0.length + (a0.map bk_LEdit).sum)) < 0
  · rw [decide_eq_true x0]; rfl
  have y0 := dec_nn x0
  rw [decide_eq_false x0, cond_false, dec_pos y0]
  have b0 : (a0.length + (a0.map bk_LEdit).sum) ≤ 1048576 := by omega
  rw [sz_EditS a1 g1 _ (by omega) (by omega), Option.bind_some]
  by_cases x1 : dec (1048576 - (((a0.length + (a0.map bk_LEdit).sum) : Nat) : Int)) ((a1.length + (a1.map bk_LEdit).sum)) < 0
  · rw [decide_eq_true x1]; rfl
  have y1 := dec_nn x1
  rw [decide_eq_false x1, cond_false]
  have b1 : (a1.length + (a1.map bk_LEdit).sum) ≤ 1048576 := by omega
  have z0 := Nat.le_trans (ctle_EditS a0) b0
  have q0 := eq_EditS (a0.map to_LEdit) (a0.map to_LEdit) (smto_EditS a0 b0)
  rw [decide_eq_true rfl] at q0
  have z1 := Nat.le_trans (ctle_EditS a1) b1
  have q1 := eq_EditS (a1.map to_LEdit) (a1.map to_LEdit) (smto_EditS a1 b1)
  rw [decide_eq_true rfl] at q1
  obtain ⟨r, e1, e2, c0⟩ := eqMerge (a0.map to_LEdit) (a1.map to_LEdit) (smEs_to g0) (smEs_to g1)
  obtain ⟨m0, k0, w0, u0, v0⟩ := mkc_EditS (a0.map to_LEdit) z0 1 (by omega) (by omega)
  obtain ⟨m1, k1, w1, u1, v1⟩ := mkc_EditS (a1.map to_LEdit) z1 k0 (by omega) (by omega)
  have n0 : decide (k1 < 0) = false := decide_eq_false (by omega)
  have p0 := eq_EditS r.1 r.1 (smc_EditS _ c0)
  rw [decide_eq_true rfl] at p0
  obtain ⟨m0', k0', w0', h0', u0', v0'⟩ := mhc_EditS r.1 c0 1 (by omega) (by omega)
  have n0' : decide (k0' < 0) = false := decide_eq_false (by omega)
  simp only [to_EditS a0 b0, q0, to_EditS a1 b1, q1, e1, e2, w0, w1, n0, p0, w0', h0', n0', Option.bind_some, bne_self_eq_false, Bool.not_true, cond_false]
end Go.FX
