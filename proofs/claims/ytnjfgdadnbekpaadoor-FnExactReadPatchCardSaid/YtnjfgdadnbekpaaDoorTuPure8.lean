/- The pure part: what the functions compute, in plain Lean, with no program in sight; no condition. -/
import Derived.Test.YtnjfgdadnbekpaaDoorTuPure7
namespace Go.FX
open Go Go.GL Go.RowKit
theorem sent_len {t : Bytes} (h : sent t = true) : t.length ≤ 24 := by
  unfold sent at h
  simp only [Bool.and_eq_true, decide_eq_true_eq] at h
  exact h.1.1.2
/-! the articles of lines -/
end Go.FX
