/- The pure part: what the functions compute, in plain Lean, with no program in sight; no condition. -/
import Derived.Test.YtnjfgdadnbekpaaDoorTpPure17
namespace Go.FX
open Go Go.GL Go.RowKit
theorem law_ProfileText (a0 : LProfile) (g0 : ok_LProfile a0) : F_laws_FnExactProfileText a0 = some true := by
  unfold F_laws_FnExactProfileText
  rw [sz_Profile a0 g0 _ (by omega) (by omega), Option.bind_some]
  by_cases x0 : dec 1048576 (bk_LProfile a0) < 0
  · rw [decide_eq_true x0]; rfl
  have y0 := dec_nn x0
  rw [decide_eq_false x0, cond_false]
  have b0 : bk_LProfile a0 ≤ 1048576 := by omega
  have z0 := Nat.le_trans (ctle_Profile a0) b0
  have q0 := eq_Profile (to_LProfile a0) (to_LProfile a0) (smto_Profile a0 b0)
  rw [decide_eq_true rfl] at q0
  obtain ⟨r, e1, e2⟩ := eqPText _ (smP_to b0)
  simp only [to_Profile a0 b0, q0, e1, e2, Option.bind_some, bne_self_eq_false, Bool.not_true, cond_false]
  rfl
end Go.FX
