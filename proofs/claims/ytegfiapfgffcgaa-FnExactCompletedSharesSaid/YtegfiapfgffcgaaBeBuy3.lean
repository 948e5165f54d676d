/- The pure part: what the functions compute, in plain Lean, with no program in sight; no condition. -/
import Derived.Test.YtegfiapfgffcgaaBeBuy2
namespace Go.FX
open Go Go.GL Go.RowKit
/-! orders -/
/-- behind a run the purses are purses -/
theorem run_pur {m : Nat} {C : List Nat} {A : List (Nat → Bool)} (h : Elec m C A) : ∀ {os : List Nat} {i D : Nat} {X : List Int} {s : Nat × List Int} {L : List (List DFraction)}, run C A D X os = some (s, L) → (∀ p ∈ os, p < C.length) → Pur D X → X.length = A.length → D ≤ 6 ^ (i + 1) → i + os.length ≤ 6 → Pur s.1 s.2 ∧ s.2.length = A.length ∧ s.1 ≤ 6 ^ (i + os.length + 1) := by
  intro os
  induction os with
  | nil => intro i D X s L e _ hX hl hD _; cases e; exact ⟨hX, hl, hD⟩
  | cons p os ih =>
    intro i D X s L e ho hX hl hD hi
    unfold run at e
    cases q : prc D ((C[p]! : Int) * D) (srt (own A X p)) with
    | none => rw [q] at e; cases e
    | some r =>
      obtain ⟨x, k⟩ := r
      rw [q] at e
      simp only at e
      obtain ⟨h1, h2, h3, h4⟩ := prc_facts h hX hl (ho p (List.mem_cons_self ..)) q
      simp only [List.length_cons] at hi
      have hDk : D * k ≤ 6 ^ (i + 1 + 1) := by rw [Nat.pow_succ]; exact Nat.mul_le_mul hD h4
      cases q2 : run C A (D * k) (newN A X p x k) os with
      | none => rw [q2] at e; cases e
      | some r =>
        obtain ⟨s2, L2⟩ := r
        rw [q2] at e
        cases e
        have := ih (i := i + 1) q2 (fun p hp => ho p (List.mem_cons_of_mem _ hp)) (hX.new hl h1 h3 (Nat.le_trans hDk (pow6 (by omega)))) newN_len hDk (by omega)
        refine ⟨this.1, this.2.1, ?_⟩
        have e : i + (p :: os).length + 1 = i + 1 + os.length + 1 := by simp; omega
        rw [e]
        exact this.2.2
theorem runO_pur {m : Nat} {C : List Nat} {A : List (Nat → Bool)} (h : Elec m C A) {os : List Nat} {s : Nat × List Int} {L : List (List DFraction)} (e : runO m C A os = some (s, L)) (ho : ∀ p ∈ os, p < C.length) (hn : os.length ≤ 6) : Pur s.1 s.2 ∧ s.2.length = A.length := by
  have := run_pur h (i := 0) e ho (shr_pur h) shr0_len (by have := h.a6; omega) (by omega)
  exact ⟨this.1, this.2.1⟩
end Go.FX
