/- The pure part: what the functions compute, in plain Lean, with no program in sight; no condition. -/
import Derived.Test.YtegfiapfgffcgaaBcPaid3
namespace Go.FX
open Go Go.GL Go.RowKit
theorem law_IsPaid (a0 : LElection) (g0 : ok_LElection a0) (a1 : (List Int)) (g1 : (a1.length ≤ maxLen ∧ ∀ e0 ∈ a1, InR e0)) (a2 : (List (List LFraction))) (g2 : (a2.length ≤ maxLen ∧ ∀ e0 ∈ a2, (e0.length ≤ maxLen ∧ ∀ e1 ∈ e0, ok_LFraction e1))) : F_laws_FnExactIsPaid a0 a1 a2 = some true := by
  unfold F_laws_FnExactIsPaid
  by_cases s1 : (a1.length : Int) > 1048576
  · rw [decide_eq_true s1]; rfl
  rw [decide_eq_false s1, cond_false]
  have b1 : a1.length ≤ 1048576 := by omega
  rw [sz_Election a0 g0 _ (by omega) (by omega), Option.bind_some]
  by_cases x0 : dec 1048576 (bk_LElection a0) < 0
  · rw [decide_eq_true x0]; rfl
  have y0 := dec_nn x0
  rw [decide_eq_false x0, cond_false, dec_pos y0]
  have b0 : bk_LElection a0 ≤ 1048576 := by omega
  rw [sz_FractionSS a2 g2 _ (by omega) (by omega), Option.bind_some]
  by_cases x2 : dec (1048576 - ((bk_LElection a0 : Nat) : Int)) ((a2.length + (a2.map (fun e : (List LFraction) => e.length)).sum)) < 0
  · rw [decide_eq_true x2]; rfl
  have y2 := dec_nn x2
  rw [decide_eq_false x2, cond_false]
  have b2 : (a2.length + (a2.map (fun e : (List LFraction) => e.length)).sum) ≤ 1048576 := by omega
  have z0 := Nat.le_trans (ctle_Election a0) b0
  have q0 := eq_Election (to_LElection a0) (to_LElection a0) (smto_Election a0 b0)
  rw [decide_eq_true rfl] at q0
  have z1 := Nat.le_trans (ctle_Int64S a1) b1
  have q1 := eq_Int64S a1 a1 (smto_Int64S a1 b1)
  rw [decide_eq_true rfl] at q1
  have z2 := Nat.le_trans (ctle_FractionSS a2) b2
  have q2 := eq_FractionSS (a2.map (fun e : (List LFraction) => (e.map to_LFraction))) (a2.map (fun e : (List LFraction) => (e.map to_LFraction))) (smto_FractionSS a2 b2)
  rw [decide_eq_true rfl] at q2
  obtain ⟨r, e1, e2⟩ := eqIsPaid _ _ (a2.map fun e => e.map to_LFraction) (smEl_to g0) g1.1
  simp only [to_Election a0 b0, q0, to_Int64S a1 b1, q1, to_FractionSS a2 b2, q2, e1, e2, Option.bind_some, bne_self_eq_false, Bool.not_true, cond_false]
theorem law_IsStable (a0 : LElection) (g0 : ok_LElection a0) (a1 : (List Int)) (g1 : (a1.length ≤ maxLen ∧ ∀ e0 ∈ a1, InR e0)) (a2 : (List (List LFraction))) (g2 : (a2.length ≤ maxLen ∧ ∀ e0 ∈ a2, (e0.length ≤ maxLen ∧ ∀ e1 ∈ e0, ok_LFraction e1))) : F_laws_FnExactIsStable a0 a1 a2 = some true := by
  unfold F_laws_FnExactIsStable
  by_cases s1 : (a1.length : Int) > 1048576
  · rw [decide_eq_true s1]; rfl
  rw [decide_eq_false s1, cond_false]
  have b1 : a1.length ≤ 1048576 := by omega
  rw [sz_Election a0 g0 _ (by omega) (by omega), Option.bind_some]
  by_cases x0 : dec 1048576 (bk_LElection a0) < 0
  · rw [decide_eq_true x0]; rfl
  have y0 := dec_nn x0
  rw [decide_eq_false x0, cond_false, dec_pos y0]
  have b0 : bk_LElection a0 ≤ 1048576 := by omega
  rw [sz_FractionSS a2 g2 _ (by omega) (by omega), Option.bind_some]
  by_cases x2 : dec (1048576 - ((bk_LElection a0 : Nat) : Int)) ((a2.length + (a2.map (fun e : (List LFraction) => e.length)).sum)) < 0
  · rw [decide_eq_true x2]; rfl
  have y2 := dec_nn x2
  rw [decide_eq_false x2, cond_false]
  have b2 : (a2.length + (a2.map (fun e : (List LFraction) => e.length)).sum) ≤ 1048576 := by omega
  have z0 := Nat.le_trans (ctle_Election a0) b0
  have q0 := eq_Election (to_LElection a0) (to_LElection a0) (smto_Election a0 b0)
  rw [decide_eq_true rfl] at q0
  have z1 := Nat.le_trans (ctle_Int64S a1) b1
  have q1 := eq_Int64S a1 a1 (smto_Int64S a1 b1)
  rw [decide_eq_true rfl] at q1
  have z2 := Nat.le_trans (ctle_FractionSS a2) b2
  have q2 := eq_FractionSS (a2.map (fun e : (List LFraction) => (e.map to_LFraction))) (a2.map (fun e : (List LFraction) => (e.map to_LFraction))) (smto_FractionSS a2 b2)
  rw [decide_eq_true rfl] at q2
  obtain ⟨r, e1, e2⟩ := eqStable _ _ (a2.map fun e => e.map to_LFraction) (smEl_to g0) g1.1
  simp only [to_Election a0 b0, q0, to_Int64S a1 b1, q1, to_FractionSS a2 b2, q2, e1, e2, Option.bind_some, bne_self_eq_false, Bool.not_true, cond_false]
end Go.FX
