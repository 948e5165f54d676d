/- The pure part: what the functions compute, in plain Lean, with no program in sight; no condition. -/
import Derived.Test.YtbmeejcmbnjncaaShPure5
namespace Go.FX
open Go Go.GL Go.RowKit
theorem pairs_up {α : Type} {g : α → Int} {l : List α} (h : ∀ i, i < l.length → pairAt (fun a b => decide (g a < g b)) l i = true) : l.Pairwise (fun a b => g a < g b) := by
  rw [List.pairwise_iff_getElem]
  have step : ∀ i (hi : i + 1 < l.length), g (l[i]'(by omega)) < g l[i + 1] := fun i hi => by
    have := h (i + 1) hi
    rw [pairAt_succ hi, decide_eq_true_eq] at this
    exact this
  have far : ∀ k i (hi : i + k + 1 < l.length), g (l[i]'(by omega)) < g l[i + k + 1] := by
    intro k
    induction k with
    | zero => intro i hi; exact step i hi
    | succ k ih => intro i hi; exact Int.lt_trans (ih i (by omega)) (step (i + k + 1) hi)
  intro i j hi hj hij
  obtain ⟨k, rfl⟩ : ∃ k, j = i + k + 1 := ⟨j - i - 1, by omega⟩
  exact far k i hj
theorem pat_pair {p : List DEdit} (h : patchOk p = true) : p.Pairwise (fun a b => a.fId < b.fId) := by
  unfold patchOk at h
  rw [Bool.and_eq_true, decide_eq_true_eq] at h
  refine pairs_up fun i hi => ?_
  have := h.1 i hi
  rw [patchC_at hi, Bool.and_eq_true] at this
  exact this.2
theorem fe_cons {e : DEdit} {q : List DEdit} {y : Int} : fe (e :: q) y = if e.fId = y then some e else fe q y := by
  unfold fe
  rw [List.find?_cons]
  by_cases h : e.fId = y
  · rw [if_pos h, beq_iff_eq.2 h]
  · rw [if_neg h, beq_eq_false_iff_ne.2 h]
theorem fe_at {p : List DEdit} (hp : p.Pairwise (fun a b => a.fId < b.fId)) {e : DEdit} (he : e ∈ p) : fe p e.fId = some e := by
  induction p with
  | nil => cases he
  | cons b q ih =>
    rw [fe_cons]
    rw [List.pairwise_cons] at hp
    rcases List.mem_cons.1 he with rfl | h
    · rw [if_pos rfl]
    · rw [if_neg (by have := hp.1 e h; omega), ih hp.2 h]
end Go.FX
