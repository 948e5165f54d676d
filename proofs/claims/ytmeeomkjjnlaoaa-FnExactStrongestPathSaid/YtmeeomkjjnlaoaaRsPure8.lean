/- The pure part: what the functions compute, in plain Lean, with no program in sight; no condition. -/
import Derived.Test.YtmeeomkjjnlaoaaRsPure7
namespace Go.FX
open Go Go.GL Go.RowKit
/-! the pairs' weights are small -/
def Bd (M : Nat → Nat → Int) (B : Nat) : Prop := ∀ i j, 0 ≤ M i j ∧ M i j ≤ B
theorem Bd.add {M : Nat → Nat → Int} {B a b : Nat} {w : Nat} (h : Bd M B) (hw : w ≤ 1000) (hB : B ≤ 1000000000) : Bd (addM M a b w) (B + 1000) := by
  intro i j
  have h1 := h a b; have h2 := h i j
  unfold addM
  split
  · rw [W_id (by omega) (by omega)]; omega
  · omega
theorem Bd.row {w a : Nat} (hw : w ≤ 1000) : ∀ {l : List Nat} {M : Nat → Nat → Int} {B : Nat}, Bd M B → B + 1000 * l.length ≤ 1000000000 → Bd (rowM w a l M) (B + 1000 * l.length) := by
  intro l
  induction l with
  | nil => intro M B h _; exact h
  | cons b l ih =>
    intro M B h hB
    rw [List.length_cons] at hB ⊢
    have := ih (h.add (a := a) (b := b) hw (by omega)) (by omega)
    have e : B + 1000 * (l.length + 1) = B + 1000 + 1000 * l.length := by omega
    rw [e]
    exact this
theorem Bd.rank {w : Nat} (hw : w ≤ 1000) : ∀ {l : List Nat} {M : Nat → Nat → Int} {B : Nat}, l.length ≤ 6 → Bd M B → B + 6000 * l.length ≤ 1000000000 → Bd (rankM w l M) (B + 6000 * l.length) := by
  intro l
  induction l with
  | nil => intro M B _ h _; exact h
  | cons a l ih =>
    intro M B hl h hB
    rw [List.length_cons] at hl hB ⊢
    have h1 : Bd (rowM w a l M) (B + 6000) := fun i j => by
      have := Bd.row (a := a) (l := l) hw h (by omega) i j
      omega
    have := ih (by omega) h1 (by omega)
    have e : B + 6000 * (l.length + 1) = B + 6000 + 6000 * l.length := by omega
    rw [e]
    exact this
theorem Bd.prof : ∀ {l : List (List Nat × Nat)} {M : Nat → Nat → Int} {B : Nat}, (∀ x ∈ l, x.1.length ≤ 6 ∧ x.2 ≤ 1000) → Bd M B → B + 36000 * l.length ≤ 1000000000 → Bd (profM l M) (B + 36000 * l.length) := by
  intro l
  induction l with
  | nil => intro M B _ h _; exact h
  | cons x l ih =>
    intro M B hx h hB
    rw [List.length_cons] at hB ⊢
    obtain ⟨r, w⟩ := x
    have hr := hx (r, w) (List.mem_cons_self ..)
    simp only at hr
    have h1 : Bd (rankM w r M) (B + 36000) := fun i j => by
      have := Bd.rank hr.2 hr.1 h (by omega) i j
      omega
    have := ih (fun y hy => hx y (List.mem_cons_of_mem _ hy)) h1 (by omega)
    have e : B + 36000 * (l.length + 1) = B + 36000 + 36000 * l.length := by omega
    rw [e]
    exact this
theorem pair_bd {n : Nat} {R : List (List Nat)} {T : List Nat} (h : Prof n R T) : Bd (pairM R T) 432000 := by
  have h12 := h.r12; have hw := h.wl; have h6 := h.n6
  have hz : (R.zip T).length ≤ 12 := by rw [List.length_zip]; omega
  have := Bd.prof (l := R.zip T) (M := fun _ _ => 0) (B := 0) (fun x hx => ⟨by have := h.len x.1 (List.of_mem_zip hx).1; omega, h.wt x.2 (List.of_mem_zip hx).2⟩) (fun _ _ => ⟨by simp, by simp⟩) (by omega)
  intro i j
  have := this i j
  unfold pairM
  omega
/-! duels -/
/-! the other side: each is laid in from behind -/
end Go.FX
