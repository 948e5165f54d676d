/- The pure part: what the functions compute, in plain Lean, with no program in sight; no condition. -/
import Derived.Test.YtogfoieenmlijaaVaSPure1
namespace Go.FX
open Go Go.GL Go.RowKit
theorem law_ValidActs (l : List LAct) (hg : l.length ≤ maxLen ∧ ∀ e ∈ l, ok_LAct e) : F_laws_FnExactValidActs l = some true := by
  unfold F_laws_FnExactValidActs
  rw [sz_ActS l hg _ (by omega) (by omega), Option.bind_some]
  by_cases hx : dec 1048576 (l.length + (l.map bk_LAct).sum) < 0
  · rw [decide_eq_true hx]; rfl
  · have hb : l.length + (l.map bk_LAct).sum ≤ 1048576 := by have := dec_nn hx; omega
    obtain ⟨h1, h2⟩ := smAs_to hg
    rw [decide_eq_false hx, cond_false, to_ActS l hb]
    simp only [F_spec_ValidActs, spActs _ h1 h2, imActs _ h1 h2, eq_ActS _ _ (smto_ActS l hb), Option.bind_some]
    rw [bne_f rfl]
    simp
end Go.FX
