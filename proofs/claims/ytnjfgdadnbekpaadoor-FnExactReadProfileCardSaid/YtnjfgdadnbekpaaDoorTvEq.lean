/- The plain lemmas on the sizes, the copies and the equality of the laws' types; no condition. Printed by a program of mine (puregen.py). -/
import Derived.Test.YtnjfgdadnbekpaaDoorTvFns
namespace Go.FX
open Go Go.GL Go.RowKit
theorem eq_Int64S (a b : (List Int)) (hg : (a.length ≤ maxLen ∧ ∀ e0 ∈ a, True)) : F_laws_eqInt64S a b = some (decide (a = b)) :=
  eqS_eq (F := F_laws_eqInt64S_l1 a b) (E := fun x y => some (x == y)) (fun _ _ => rfl) hg.1 (fun x _ y _ => by rw [beq_dec])
theorem smc_Int64S (a : (List Int)) (h : a.length ≤ 1048576) : (a.length ≤ maxLen ∧ ∀ e0 ∈ a, True) := ⟨Nat.le_trans h (by decide), fun _ _ => trivial⟩
theorem eq_Int64SS (a b : (List (List Int))) (hg : (a.length ≤ maxLen ∧ ∀ e0 ∈ a, (e0.length ≤ maxLen ∧ ∀ e1 ∈ e0, True))) : F_laws_eqInt64SS a b = some (decide (a = b)) :=
  eqS_eq (F := F_laws_eqInt64SS_l1 a b) (fun _ _ => rfl) hg.1 (fun x hx y _ => eq_Int64S x y (hg.2 x hx))
theorem smc_Int64SS (a : (List (List Int))) (h : (a.length + (a.map (fun e : (List Int) => e.length)).sum) ≤ 1048576) : (a.length ≤ maxLen ∧ ∀ e0 ∈ a, (e0.length ≤ maxLen ∧ ∀ e1 ∈ e0, True)) := ⟨Nat.le_trans (Nat.le_trans (Nat.le_add_right _ _) h) (by decide), fun e he => smc_Int64S e (Nat.le_trans (Nat.le_trans (le_sum (w := fun e : (List Int) => e.length) he) (Nat.le_add_left _ _)) h)⟩
def sm_DProfile (x : DProfile) : Prop := (x.fRankings.length ≤ maxLen ∧ ∀ e0 ∈ x.fRankings, (e0.length ≤ maxLen ∧ ∀ e1 ∈ e0, True)) ∧ (x.fWeights.length ≤ maxLen ∧ ∀ e0 ∈ x.fWeights, True)
theorem eq_Profile (a b : DProfile) (hg : sm_DProfile a) : F_laws_eqProfile a b = some (decide (a = b)) := by
  obtain ⟨a0, a1⟩ := a
  obtain ⟨b0, b1⟩ := b
  unfold sm_DProfile at hg
  unfold F_laws_eqProfile
  simp only [eq_Int64SS a0 b0 hg.1, eq_Int64S a1 b1 hg.2, Option.bind_some]
  by_cases h0 : a0 = b0
  · by_cases h1 : a1 = b1
    · rw [decide_eq_true h0, Bool.not_true, cond_false, decide_eq_true h1, Bool.not_true, cond_false]; simp [h0, h1]
    · rw [decide_eq_true h0, Bool.not_true, cond_false, decide_eq_false h1, Bool.not_false, cond_true]; simp [h1]
  · rw [decide_eq_false h0, Bool.not_false, cond_true]; simp [h0]
theorem smc_Profile (a : DProfile) (h : ((a.fRankings.length + (a.fRankings.map (fun e : (List Int) => e.length)).sum) + a.fWeights.length) ≤ 1048576) : sm_DProfile a := ⟨smc_Int64SS a.fRankings (by omega), smc_Int64S a.fWeights (by omega)⟩
theorem mh_Int64S (a : (List Int)) (h : a.length ≤ maxLen) : MH F_laws_markInt64S F_laws_heldInt64S a.length a := mh_ints (fun _ _ _ _ => rfl) (fun _ _ _ _ => rfl) a h
theorem mhc_Int64S (a : (List Int)) (h : a.length ≤ 1048576) (k : Int) (h0 : 0 ≤ k) (h1 : k ≤ 2305843009213693952) : ∃ m k', F_laws_markInt64S a k = some (m, k') ∧ F_laws_heldInt64S m k = some k' ∧ k ≤ k' ∧ k' ≤ k + 1048576 := by
  obtain ⟨m, e1, e2⟩ := mh_Int64S a (Nat.le_trans h (by decide)) k h0 (by unfold MB; omega)
  exact ⟨m, _, e1, e2, by omega, by omega⟩
theorem mkc_Int64S (a : (List Int)) (h : a.length ≤ 1048576) (k : Int) (h0 : 0 ≤ k) (h1 : k ≤ 2305843009213693952) : ∃ m k', F_laws_markInt64S a k = some (m, k') ∧ k ≤ k' ∧ k' ≤ k + 1048576 := by
  obtain ⟨m, k2, e, -, u, v⟩ := mhc_Int64S a h k h0 h1
  exact ⟨m, k2, e, u, v⟩
theorem mh_Int64SS (a : (List (List Int))) (h : (a.length + (a.map (fun e : (List Int) => e.length)).sum) ≤ 1048576) : MH F_laws_markInt64SS F_laws_heldInt64SS (a.map List.length).sum a := mh_list (fun _ _ _ _ => rfl) (fun _ _ _ _ => rfl) a (Nat.le_trans (Nat.le_trans (Nat.le_add_right _ _) h) (by decide)) (fun e he => mh_Int64S e (Nat.le_trans (Nat.le_trans (Nat.le_trans (le_sum (w := List.length) he) (Nat.le_add_left _ _)) h) (by decide)))
theorem mk_Int64SS (a : (List (List Int))) (h : (a.length + (a.map (fun e : (List Int) => e.length)).sum) ≤ 1048576) : MK F_laws_markInt64SS (a.map List.length).sum a := mk_list (fun _ _ _ _ => rfl) a (Nat.le_trans (Nat.le_trans (Nat.le_add_right _ _) h) (by decide)) (fun e he => (mh_Int64S e (Nat.le_trans (Nat.le_trans (Nat.le_trans (le_sum (w := List.length) he) (Nat.le_add_left _ _)) h) (by decide))).mk)
theorem mhc_Int64SS (a : (List (List Int))) (h : (a.length + (a.map (fun e : (List Int) => e.length)).sum) ≤ 1048576) (k : Int) (h0 : 0 ≤ k) (h1 : k ≤ 2305843009213693952) : ∃ m k', F_laws_markInt64SS a k = some (m, k') ∧ F_laws_heldInt64SS m k = some k' ∧ k ≤ k' ∧ k' ≤ k + 1048576 := by
  have hw : (a.map List.length).sum ≤ 1048576 := Nat.le_trans (Nat.le_add_left _ _) h
  obtain ⟨m, e1, e2⟩ := mh_Int64SS a h k h0 (by unfold MB; omega)
  exact ⟨m, _, e1, e2, by omega, by omega⟩
theorem mkc_Int64SS (a : (List (List Int))) (h : (a.length + (a.map (fun e : (List Int) => e.length)).sum) ≤ 1048576) (k : Int) (h0 : 0 ≤ k) (h1 : k ≤ 2305843009213693952) : ∃ m k', F_laws_markInt64SS a k = some (m, k') ∧ k ≤ k' ∧ k' ≤ k + 1048576 := by
  have hw : (a.map List.length).sum ≤ 1048576 := Nat.le_trans (Nat.le_add_left _ _) h
  obtain ⟨m, e1⟩ := mk_Int64SS a h k h0 (by unfold MB; omega)
  exact ⟨m, _, e1, by omega, by omega⟩
theorem mhc_Profile (a : DProfile) (h : ((a.fRankings.length + (a.fRankings.map (fun e : (List Int) => e.length)).sum) + a.fWeights.length) ≤ 1048576) (k : Int) (h0 : 0 ≤ k) (h1 : k ≤ 1152921504606846976) : ∃ m k', F_laws_markProfile a k = some (m, k') ∧ F_laws_heldProfile m k = some k' ∧ k ≤ k' ∧ k' ≤ k + 2097152 ∧ (⟨m.fRankings, m.fWeights⟩ : DProfile) = m := by
  obtain ⟨m0, k0, e0, f0, u0, v0⟩ := mhc_Int64SS a.fRankings (by omega) k (by omega) (by omega)
  obtain ⟨m1, k1, e1, f1, u1, v1⟩ := mhc_Int64S a.fWeights (by omega) k0 (by omega) (by omega)
  refine ⟨⟨m0, m1⟩, k1, ?_, ?_, by omega, by omega, rfl⟩
  · unfold F_laws_markProfile
    simp only [e0, e1, Option.bind_some]
  · unfold F_laws_heldProfile
    simp only [f0, f1, Option.bind_some, decide_eq_false (show ¬ k0 < 0 by omega), decide_eq_false (show ¬ k1 < 0 by omega), cond_false]
theorem mkc_Profile (a : DProfile) (h : ((a.fRankings.length + (a.fRankings.map (fun e : (List Int) => e.length)).sum) + a.fWeights.length) ≤ 1048576) (k : Int) (h0 : 0 ≤ k) (h1 : k ≤ 1152921504606846976) : ∃ m k', F_laws_markProfile a k = some (m, k') ∧ k ≤ k' ∧ k' ≤ k + 2097152 := by
  obtain ⟨m, k2, e, -, u, v, -⟩ := mhc_Profile a h k h0 h1
  exact ⟨m, k2, e, u, v⟩
end Go.FX
