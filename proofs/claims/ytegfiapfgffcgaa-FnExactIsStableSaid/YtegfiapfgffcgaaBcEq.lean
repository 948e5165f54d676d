/- The plain lemmas on the sizes, the copies and the equality of the laws' types; no condition. Printed by a program of mine (puregen.py). -/
import Derived.Test.YtegfiapfgffcgaaBcFns
namespace Go.FX
open Go Go.GL Go.RowKit
theorem sz_Int64S (a : (List Int)) (hg : (a.length ≤ maxLen ∧ ∀ e0 ∈ a, InR e0)) (x : Int) (h0 : 0 ≤ x) (hx : x ≤ 1048576) : F_laws_szInt64S a x = some (dec x (a.length)) := sz_leaf h0 hx hg.1
theorem sz_Int64SS (a : (List (List Int))) (hg : (a.length ≤ maxLen ∧ ∀ e0 ∈ a, (e0.length ≤ maxLen ∧ ∀ e1 ∈ e0, InR e1))) (x : Int) (h0 : 0 ≤ x) (hx : x ≤ 1048576) : F_laws_szInt64SS a x = some (dec x ((a.length + (a.map (fun e : (List Int) => e.length)).sum))) :=
  szS_eq (F := F_laws_szInt64SS_l1 a) (fun e : (List Int) => e.length) (fun _ _ _ => rfl) hg.1 (fun e he x h0 hx => sz_Int64S e (hg.2 e he) x h0 hx) x h0 hx
def ok_LElection (x : LElection) : Prop := InR x.fMoney ∧ (x.fCosts.length ≤ maxLen ∧ ∀ e0 ∈ x.fCosts, InR e0) ∧ (x.fApprovals.length ≤ maxLen ∧ ∀ e0 ∈ x.fApprovals, (e0.length ≤ maxLen ∧ ∀ e1 ∈ e0, InR e1))
def bk_LElection (x : LElection) : Nat := x.fCosts.length + ((x.fApprovals.length + (x.fApprovals.map (fun e : (List Int) => e.length)).sum) + (0))
def to_LElection (x : LElection) : DElection := ⟨x.fMoney, x.fCosts, (x.fApprovals.map (fun e : (List Int) => e))⟩
theorem sz_Election (a : LElection) (hg : ok_LElection a) (x : Int) (h0 : 0 ≤ x) (hx : x ≤ 1048576) : F_laws_szElection a x = some (dec x (bk_LElection a)) := by
  unfold F_laws_szElection bk_LElection
  rw [sz_Int64S _ hg.2.1 x h0 hx, Option.bind_some]
  refine sz_then (k := fun y => (F_laws_szInt64SS a.fApprovals y).bind fun y => bif decide (y < 0) then some (-1) else (some y)) h0 hx (fun y0 h0_0 hx_0 => ?_)
  rw [sz_Int64SS _ hg.2.2 y0 h0_0 hx_0, Option.bind_some]
  refine sz_then (k := fun y => some y) h0_0 hx_0 (fun y1 h0_1 hx_1 => ?_)
  rw [dec_zero h0_1]
def ok_LFraction (x : LFraction) : Prop := InR x.fNum ∧ InR x.fDen
def to_LFraction (x : LFraction) : DFraction := ⟨x.fNum, x.fDen⟩
theorem sz_FractionS (a : (List LFraction)) (hg : (a.length ≤ maxLen ∧ ∀ e0 ∈ a, ok_LFraction e0)) (x : Int) (h0 : 0 ≤ x) (hx : x ≤ 1048576) : F_laws_szFractionS a x = some (dec x (a.length)) := sz_leaf h0 hx hg.1
theorem sz_FractionSS (a : (List (List LFraction))) (hg : (a.length ≤ maxLen ∧ ∀ e0 ∈ a, (e0.length ≤ maxLen ∧ ∀ e1 ∈ e0, ok_LFraction e1))) (x : Int) (h0 : 0 ≤ x) (hx : x ≤ 1048576) : F_laws_szFractionSS a x = some (dec x ((a.length + (a.map (fun e : (List LFraction) => e.length)).sum))) :=
  szS_eq (F := F_laws_szFractionSS_l1 a) (fun e : (List LFraction) => e.length) (fun _ _ _ => rfl) hg.1 (fun e he x h0 hx => sz_FractionS e (hg.2 e he) x h0 hx) x h0 hx
theorem to_Int64S (a : (List Int)) (hb : a.length ≤ 1048576) : F_laws_toInt64S a = some (a) := by
  have h := toS_eq (l := a) (F := F_laws_toInt64S_l1 a) (T := some) (fun e => e) 0 (fun _ _ _ => rfl) hb (fun _ _ => rfl)
  rw [List.map_id'] at h
  exact h
theorem smto_Int64S (a : (List Int)) (hb : a.length ≤ 1048576) : (a.length ≤ maxLen ∧ ∀ e0 ∈ a, True) := ⟨Nat.le_trans hb (by decide), fun _ _ => trivial⟩
theorem ctle_Int64S (a : (List Int)) : a.length ≤ a.length := Nat.le_refl _
theorem to_Int64SS (a : (List (List Int))) (hb : (a.length + (a.map (fun e : (List Int) => e.length)).sum) ≤ 1048576) : F_laws_toInt64SS a = some ((a.map (fun e : (List Int) => e))) :=
  toS_eq (F := F_laws_toInt64SS_l1 a) (fun e : (List Int) => e) [] (fun _ _ _ => rfl) (Nat.le_trans (Nat.le_add_right _ _) hb) (fun e he => to_Int64S e (Nat.le_trans (Nat.le_trans (le_sum (w := (fun e : (List Int) => e.length)) he) (Nat.le_add_left _ _)) hb))
theorem smto_Int64SS (a : (List (List Int))) (hb : (a.length + (a.map (fun e : (List Int) => e.length)).sum) ≤ 1048576) : ((a.map (fun e : (List Int) => e)).length ≤ maxLen ∧ ∀ e0 ∈ (a.map (fun e : (List Int) => e)), (e0.length ≤ maxLen ∧ ∀ e1 ∈ e0, True)) := by
  refine ⟨?_, fun e he => ?_⟩
  · rw [List.length_map]; exact Nat.le_trans (Nat.le_trans (Nat.le_add_right _ _) hb) (by decide)
  · obtain ⟨c, hc, rfl⟩ := List.mem_map.1 he
    exact smto_Int64S c (Nat.le_trans (Nat.le_trans (le_sum (w := (fun e : (List Int) => e.length)) hc) (Nat.le_add_left _ _)) hb)
theorem ctle_Int64SS (a : (List (List Int))) : ((a.map (fun e : (List Int) => e)).length + ((a.map (fun e : (List Int) => e)).map (fun e : (List Int) => e.length)).sum) ≤ (a.length + (a.map (fun e : (List Int) => e.length)).sum) := by
  rw [List.length_map, List.map_map]
  exact Nat.add_le_add_left (sum_le (fun e => ctle_Int64S e)) _
def sm_DElection (x : DElection) : Prop := (x.fCosts.length ≤ maxLen ∧ ∀ e0 ∈ x.fCosts, True) ∧ (x.fApprovals.length ≤ maxLen ∧ ∀ e0 ∈ x.fApprovals, (e0.length ≤ maxLen ∧ ∀ e1 ∈ e0, True))
theorem to_Election (a : LElection) (hb : bk_LElection a ≤ 1048576) : F_laws_toElection a = some ((to_LElection a)) := by
  unfold bk_LElection at hb
  unfold F_laws_toElection
  simp only [to_Int64S a.fCosts (by omega), to_Int64SS a.fApprovals (by omega), Option.bind_some]
  rfl
theorem smto_Election (a : LElection) (hb : bk_LElection a ≤ 1048576) : sm_DElection (to_LElection a) := by
  unfold bk_LElection at hb
  exact ⟨smto_Int64S a.fCosts (by omega), smto_Int64SS a.fApprovals (by omega)⟩
theorem ctle_Election (a : LElection) : ((to_LElection a).fCosts.length + ((to_LElection a).fApprovals.length + ((to_LElection a).fApprovals.map (fun e : (List Int) => e.length)).sum)) ≤ bk_LElection a := by
  have h0 := ctle_Int64S a.fCosts
  have h1 := ctle_Int64SS a.fApprovals
  unfold bk_LElection
  dsimp only [to_LElection]
  omega
def sm_DFraction (_ : DFraction) : Prop := True
theorem to_Fraction (a : LFraction) (_ : 0 ≤ 1048576) : F_laws_toFraction a = some ((to_LFraction a)) := rfl
theorem smto_Fraction (a : LFraction) (_ : 0 ≤ 1048576) : sm_DFraction (to_LFraction a) := trivial
theorem to_FractionS (a : (List LFraction)) (hb : a.length ≤ 1048576) : F_laws_toFractionS a = some ((a.map to_LFraction)) :=
  toS_eq (F := F_laws_toFractionS_l1 a) to_LFraction (DFraction.mk 0 0) (fun _ _ _ => rfl) (hb) (fun e _ => to_Fraction e (by omega))
theorem smto_FractionS (a : (List LFraction)) (hb : a.length ≤ 1048576) : ((a.map to_LFraction).length ≤ maxLen ∧ ∀ e0 ∈ (a.map to_LFraction), sm_DFraction e0) := by
  refine ⟨?_, fun e he => ?_⟩
  · rw [List.length_map]; exact Nat.le_trans (hb) (by decide)
  · obtain ⟨c, _, rfl⟩ := List.mem_map.1 he
    exact smto_Fraction c (by omega)
theorem ctle_FractionS (a : (List LFraction)) : (a.map to_LFraction).length ≤ a.length := by rw [List.length_map]; omega
theorem to_FractionSS (a : (List (List LFraction))) (hb : (a.length + (a.map (fun e : (List LFraction) => e.length)).sum) ≤ 1048576) : F_laws_toFractionSS a = some ((a.map (fun e : (List LFraction) => (e.map to_LFraction)))) :=
  toS_eq (F := F_laws_toFractionSS_l1 a) (fun e : (List LFraction) => (e.map to_LFraction)) [] (fun _ _ _ => rfl) (Nat.le_trans (Nat.le_add_right _ _) hb) (fun e he => to_FractionS e (Nat.le_trans (Nat.le_trans (le_sum (w := (fun e : (List LFraction) => e.length)) he) (Nat.le_add_left _ _)) hb))
theorem smto_FractionSS (a : (List (List LFraction))) (hb : (a.length + (a.map (fun e : (List LFraction) => e.length)).sum) ≤ 1048576) : ((a.map (fun e : (List LFraction) => (e.map to_LFraction))).length ≤ maxLen ∧ ∀ e0 ∈ (a.map (fun e : (List LFraction) => (e.map to_LFraction))), (e0.length ≤ maxLen ∧ ∀ e1 ∈ e0, sm_DFraction e1)) := by
  refine ⟨?_, fun e he => ?_⟩
  · rw [List.length_map]; exact Nat.le_trans (Nat.le_trans (Nat.le_add_right _ _) hb) (by decide)
  · obtain ⟨c, hc, rfl⟩ := List.mem_map.1 he
    exact smto_FractionS c (Nat.le_trans (Nat.le_trans (le_sum (w := (fun e : (List LFraction) => e.length)) hc) (Nat.le_add_left _ _)) hb)
theorem ctle_FractionSS (a : (List (List LFraction))) : ((a.map (fun e : (List LFraction) => (e.map to_LFraction))).length + ((a.map (fun e : (List LFraction) => (e.map to_LFraction))).map (fun e : (List DFraction) => e.length)).sum) ≤ (a.length + (a.map (fun e : (List LFraction) => e.length)).sum) := by
  rw [List.length_map, List.map_map]
  exact Nat.add_le_add_left (sum_le (fun e => ctle_FractionS e)) _
theorem eq_Int64S (a b : (List Int)) (hg : (a.length ≤ maxLen ∧ ∀ e0 ∈ a, True)) : F_laws_eqInt64S a b = some (decide (a = b)) :=
  eqS_eq (F := F_laws_eqInt64S_l1 a b) (E := fun x y => some (x == y)) (fun _ _ => rfl) hg.1 (fun x _ y _ => by rw [beq_dec])
theorem smc_Int64S (a : (List Int)) (h : a.length ≤ 1048576) : (a.length ≤ maxLen ∧ ∀ e0 ∈ a, True) := ⟨Nat.le_trans h (by decide), fun _ _ => trivial⟩
theorem eq_Int64SS (a b : (List (List Int))) (hg : (a.length ≤ maxLen ∧ ∀ e0 ∈ a, (e0.length ≤ maxLen ∧ ∀ e1 ∈ e0, True))) : F_laws_eqInt64SS a b = some (decide (a = b)) :=
  eqS_eq (F := F_laws_eqInt64SS_l1 a b) (fun _ _ => rfl) hg.1 (fun x hx y _ => eq_Int64S x y (hg.2 x hx))
theorem smc_Int64SS (a : (List (List Int))) (h : (a.length + (a.map (fun e : (List Int) => e.length)).sum) ≤ 1048576) : (a.length ≤ maxLen ∧ ∀ e0 ∈ a, (e0.length ≤ maxLen ∧ ∀ e1 ∈ e0, True)) := ⟨Nat.le_trans (Nat.le_trans (Nat.le_add_right _ _) h) (by decide), fun e he => smc_Int64S e (Nat.le_trans (Nat.le_trans (le_sum (w := fun e : (List Int) => e.length) he) (Nat.le_add_left _ _)) h)⟩
theorem eq_Election (a b : DElection) (hg : sm_DElection a) : F_laws_eqElection a b = some (decide (a = b)) := by
  obtain ⟨a0, a1, a2⟩ := a
  obtain ⟨b0, b1, b2⟩ := b
  unfold sm_DElection at hg
  unfold F_laws_eqElection
  simp only [eq_Int64S a1 b1 hg.1, eq_Int64SS a2 b2 hg.2, Option.bind_some]
  by_cases h0 : a0 = b0
  · by_cases h1 : a1 = b1
    · by_cases h2 : a2 = b2
      · rw [bne_f h0, cond_false, decide_eq_true h1, Bool.not_true, cond_false, decide_eq_true h2, Bool.not_true, cond_false]; simp [h0, h1, h2]
      · rw [bne_f h0, cond_false, decide_eq_true h1, Bool.not_true, cond_false, decide_eq_false h2, Bool.not_false, cond_true]; simp [h2]
    · rw [bne_f h0, cond_false, decide_eq_false h1, Bool.not_false, cond_true]; simp [h1]
  · rw [bne_t h0, cond_true]; simp [h0]
theorem smc_Election (a : DElection) (h : (a.fCosts.length + (a.fApprovals.length + (a.fApprovals.map (fun e : (List Int) => e.length)).sum)) ≤ 1048576) : sm_DElection a := ⟨smc_Int64S a.fCosts (by omega), smc_Int64SS a.fApprovals (by omega)⟩
theorem eq_Fraction (a b : DFraction) (_ : sm_DFraction a) : F_laws_eqFraction a b = some (decide (a = b)) := by
  obtain ⟨a0, a1⟩ := a
  obtain ⟨b0, b1⟩ := b
  unfold F_laws_eqFraction
  dsimp only
  by_cases h0 : a0 = b0
  · by_cases h1 : a1 = b1
    · rw [bne_f h0, cond_false, bne_f h1, cond_false]; simp [h0, h1]
    · rw [bne_f h0, cond_false, bne_t h1, cond_true]; simp [h1]
  · rw [bne_t h0, cond_true]; simp [h0]
theorem smc_Fraction (a : DFraction) (_ : 0 ≤ 1048576) : sm_DFraction a := trivial
theorem eq_FractionS (a b : (List DFraction)) (hg : (a.length ≤ maxLen ∧ ∀ e0 ∈ a, sm_DFraction e0)) : F_laws_eqFractionS a b = some (decide (a = b)) :=
  eqS_eq (F := F_laws_eqFractionS_l1 a b) (fun _ _ => rfl) hg.1 (fun x hx y _ => eq_Fraction x y (hg.2 x hx))
theorem smc_FractionS (a : (List DFraction)) (h : a.length ≤ 1048576) : (a.length ≤ maxLen ∧ ∀ e0 ∈ a, sm_DFraction e0) := ⟨Nat.le_trans h (by decide), fun _ _ => trivial⟩
theorem eq_FractionSS (a b : (List (List DFraction))) (hg : (a.length ≤ maxLen ∧ ∀ e0 ∈ a, (e0.length ≤ maxLen ∧ ∀ e1 ∈ e0, sm_DFraction e1))) : F_laws_eqFractionSS a b = some (decide (a = b)) :=
  eqS_eq (F := F_laws_eqFractionSS_l1 a b) (fun _ _ => rfl) hg.1 (fun x hx y _ => eq_FractionS x y (hg.2 x hx))
theorem smc_FractionSS (a : (List (List DFraction))) (h : (a.length + (a.map (fun e : (List DFraction) => e.length)).sum) ≤ 1048576) : (a.length ≤ maxLen ∧ ∀ e0 ∈ a, (e0.length ≤ maxLen ∧ ∀ e1 ∈ e0, sm_DFraction e1)) := ⟨Nat.le_trans (Nat.le_trans (Nat.le_add_right _ _) h) (by decide), fun e he => smc_FractionS e (Nat.le_trans (Nat.le_trans (le_sum (w := fun e : (List DFraction) => e.length) he) (Nat.le_add_left _ _)) h)⟩
end Go.FX
