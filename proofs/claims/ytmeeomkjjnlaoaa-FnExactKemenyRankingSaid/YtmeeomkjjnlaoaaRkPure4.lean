/- The pure part: what the functions compute, in plain Lean, with no program in sight; no condition. -/
import Derived.Test.YtmeeomkjjnlaoaaRkPure3
namespace Go.FX
open Go Go.GL Go.RowKit
theorem smP_to {e : LProfile} (h : bk_LProfile e ≤ 1048576) : smP (to_LProfile e) := by
  have e1 : (to_LProfile e).fRankings = e.fRankings := List.map_id' _
  have e2 : (to_LProfile e).fWeights = e.fWeights := rfl
  unfold bk_LProfile at h
  refine ⟨by rw [e1]; omega, by rw [e2]; omega, fun l hl => ?_⟩
  rw [e1] at hl
  have := le_sum (w := fun e : List Int => e.length) hl
  omega
/-! scores -/
/-! copies -/
end Go.FX
