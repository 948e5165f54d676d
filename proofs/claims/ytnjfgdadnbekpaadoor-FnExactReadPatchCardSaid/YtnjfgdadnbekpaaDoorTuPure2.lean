/- The pure part: what the functions compute, in plain Lean, with no program in sight; no condition. -/
import Derived.Test.YtnjfgdadnbekpaaDoorTuPure1
namespace Go.FX
open Go Go.GL Go.RowKit
/-! steps, finds -/
/-! valid patches -/
theorem pat_len {l : List DEdit} (h : patchOk l = true) : l.length ≤ 16 := by
  unfold patchOk at h
  rw [Bool.and_eq_true, decide_eq_true_eq, decide_eq_true_eq] at h
  exact h.2
theorem pat_ok {l : List DEdit} (h : patchOk l = true) {e : DEdit} (he : e ∈ l) : 1 ≤ e.fId ∧ e.fId ≤ 99 ∧ editOk e = true := by
  unfold patchOk at h
  rw [Bool.and_eq_true, decide_eq_true_eq] at h
  obtain ⟨i, hi, rfl⟩ := List.getElem_of_mem he
  have := h.1 i hi
  rw [patchC_at hi, Bool.and_eq_true, Bool.and_eq_true] at this
  obtain ⟨⟨h1, h2⟩, -⟩ := this
  unfold within at h1
  rw [Bool.and_eq_true, decide_eq_true_eq, decide_eq_true_eq] at h1
  exact ⟨h1.1, h1.2, h2⟩
/-! inverse patches -/
def smP (p : List DEdit) : Prop := p.length ≤ maxLen ∧ ∀ e ∈ p, smE e
/-! conflicts -/
/-! composed patches -/
end Go.FX
