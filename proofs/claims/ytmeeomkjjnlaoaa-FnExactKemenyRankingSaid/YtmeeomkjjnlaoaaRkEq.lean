/- The plain lemmas on the sizes, the copies and the equality of the laws' types; no condition. Printed by a program of mine (puregen.py). -/
import Derived.Test.YtmeeomkjjnlaoaaRkFns
namespace Go.FX
open Go Go.GL Go.RowKit
theorem sz_Int64S (a : (List Int)) (hg : (a.length ≤ maxLen ∧ ∀ e0 ∈ a, InR e0)) (x : Int) (h0 : 0 ≤ x) (hx : x ≤ 1048576) : F_laws_szInt64S a x = some (dec x (a.length)) := sz_leaf h0 hx hg.1
theorem sz_Int64SS (a : (List (List Int))) (hg : (a.length ≤ maxLen ∧ ∀ e0 ∈ a, (e0.length ≤ maxLen ∧ ∀ e1 ∈ e0, InR e1))) (x : Int) (h0 : 0 ≤ x) (hx : x ≤ 1048576) : F_laws_szInt64SS a x = some (dec x ((a.length + (a.map (fun e : (List Int) => e.length)).sum))) :=
  szS_eq (F := F_laws_szInt64SS_l1 a) (fun e : (List Int) => e.length) (fun _ _ _ => rfl) hg.1 (fun e he x h0 hx => sz_Int64S e (hg.2 e he) x h0 hx) x h0 hx
def ok_LProfile (x : LProfile) : Prop := (x.fRankings.length ≤ maxLen ∧ ∀ e0 ∈ x.fRankings, (e0.length ≤ maxLen ∧ ∀ e1 ∈ e0, InR e1)) ∧ (x.fWeights.length ≤ maxLen ∧ ∀ e0 ∈ x.fWeights, InR e0)
def bk_LProfile (x : LProfile) : Nat := (x.fRankings.length + (x.fRankings.map (fun e : (List Int) => e.length)).sum) + (x.fWeights.length + (0))
def to_LProfile (x : LProfile) : DProfile := ⟨(x.fRankings.map (fun e : (List Int) => e)), x.fWeights⟩
theorem sz_Profile (a : LProfile) (hg : ok_LProfile a) (x : Int) (h0 : 0 ≤ x) (hx : x ≤ 1048576) : F_laws_szProfile a x = some (dec x (bk_LProfile a)) := by
  unfold F_laws_szProfile bk_LProfile
  rw [sz_Int64SS _ hg.1 x h0 hx, Option.bind_some]
  refine sz_then (k := fun y => (F_laws_szInt64S a.fWeights y).bind fun y => bif decide (y < 0) then some (-1) else (some y)) h0 hx (fun y0 h0_0 hx_0 => ?_)
  rw [sz_Int64S _ hg.2 y0 h0_0 hx_0, Option.bind_some]
  refine sz_then (k := fun y => some y) h0_0 hx_0 (fun y1 h0_1 hx_1 => ?_)
  rw [dec_zero h0_1]
theorem to_Int64S (a : (List Int)) (hb : a.length ≤ 1048576) : F_laws_toInt64S a = some (a) := by
  have h := toS_eq (l := a) (F := F_laws_toInt64S_l1 a) (T := some) (fun e => e) 0 (fun _ _ _ => rfl) hb (fun _ _ => rfl)
  rw [List.map_id'] at h
  exact h
theorem smto_Int64S (a : (List Int)) (hb : a.length ≤ 1048576) : (a.length ≤ maxLen ∧ ∀ e0 ∈ a, True) := ⟨Nat.le_trans hb (by decide), fun _ _ => trivial⟩
theorem ctle_Int64S (a : (List Int)) : a.length ≤ a.length := Nat.le_refl _
theorem to_Int64SS (a : (List (List Int))) (hb : (a.length + (a.map (fun e : (List Int) => e.length)).sum) ≤ 1048576) : F_laws_toInt64SS a = some ((a.map (fun e : (List Int) => e))) :=
  toS_eq (F := F_laws_toInt64SS_l1 a) (fun e : (List Int) => e) [] (fun _ _ _ => rfl) (Nat.le_trans (Nat.le_add_right _ _) hb) (fun e he => to_Int64S e (Nat.le_trans (Nat.le_trans (le_sum (w := (fun e : (List Int) => e.length)) he) (Nat.le_add_left _ _)) hb))
theorem smto_Int64SS (a : (List (List Int))) (hb : (a.length + (a.map (fun e : (List Int) => e.length)).sum) ≤ 1048576) : ((a.map (fun e : (List Int) => e)).length ≤ maxLen ∧ ∀ e0 ∈ (a.map (fun e : (List Int) => e)), (e0.length ≤ maxLen ∧ ∀ e1 ∈ e0, True)) := by
  refine ⟨?_, fun e he => ?_⟩
  · rw [List.length_map]; exact Nat.le_trans (Nat.le_trans (Nat.le_add_right _ _) hb) (by decide)
  · obtain ⟨c, hc, rfl⟩ := List.mem_map.1 he
    exact smto_Int64S c (Nat.le_trans (Nat.le_trans (le_sum (w := (fun e : (List Int) => e.length)) hc) (Nat.le_add_left _ _)) hb)
theorem ctle_Int64SS (a : (List (List Int))) : ((a.map (fun e : (List Int) => e)).length + ((a.map (fun e : (List Int) => e)).map (fun e : (List Int) => e.length)).sum) ≤ (a.length + (a.map (fun e : (List Int) => e.length)).sum) := by
  rw [List.length_map, List.map_map]
  exact Nat.add_le_add_left (sum_le (fun e => ctle_Int64S e)) _
def sm_DProfile (x : DProfile) : Prop := (x.fRankings.length ≤ maxLen ∧ ∀ e0 ∈ x.fRankings, (e0.length ≤ maxLen ∧ ∀ e1 ∈ e0, True)) ∧ (x.fWeights.length ≤ maxLen ∧ ∀ e0 ∈ x.fWeights, True)
theorem to_Profile (a : LProfile) (hb : bk_LProfile a ≤ 1048576) : F_laws_toProfile a = some ((to_LProfile a)) := by
  unfold bk_LProfile at hb
  unfold F_laws_toProfile
  simp only [to_Int64SS a.fRankings (by omega), to_Int64S a.fWeights (by omega), Option.bind_some]
  rfl
theorem smto_Profile (a : LProfile) (hb : bk_LProfile a ≤ 1048576) : sm_DProfile (to_LProfile a) := by
  unfold bk_LProfile at hb
  exact ⟨smto_Int64SS a.fRankings (by omega), smto_Int64S a.fWeights (by omega)⟩
theorem ctle_Profile (a : LProfile) : (((to_LProfile a).fRankings.length + ((to_LProfile a).fRankings.map (fun e : (List Int) => e.length)).sum) + (to_LProfile a).fWeights.length) ≤ bk_LProfile a := by
  have h0 := ctle_Int64SS a.fRankings
  have h1 := ctle_Int64S a.fWeights
  unfold bk_LProfile
  dsimp only [to_LProfile]
  omega
theorem eq_Int64S (a b : (List Int)) (hg : (a.length ≤ maxLen ∧ ∀ e0 ∈ a, True)) : F_laws_eqInt64S a b = some (decide (a = b)) :=
  eqS_eq (F := F_laws_eqInt64S_l1 a b) (E := fun x y => some (x == y)) (fun _ _ => rfl) hg.1 (fun x _ y _ => by rw [beq_dec])
theorem smc_Int64S (a : (List Int)) (h : a.length ≤ 1048576) : (a.length ≤ maxLen ∧ ∀ e0 ∈ a, True) := ⟨Nat.le_trans h (by decide), fun _ _ => trivial⟩
theorem eq_Int64SS (a b : (List (List Int))) (hg : (a.length ≤ maxLen ∧ ∀ e0 ∈ a, (e0.length ≤ maxLen ∧ ∀ e1 ∈ e0, True))) : F_laws_eqInt64SS a b = some (decide (a = b)) :=
  eqS_eq (F := F_laws_eqInt64SS_l1 a b) (fun _ _ => rfl) hg.1 (fun x hx y _ => eq_Int64S x y (hg.2 x hx))
theorem smc_Int64SS (a : (List (List Int))) (h : (a.length + (a.map (fun e : (List Int) => e.length)).sum) ≤ 1048576) : (a.length ≤ maxLen ∧ ∀ e0 ∈ a, (e0.length ≤ maxLen ∧ ∀ e1 ∈ e0, True)) := ⟨Nat.le_trans (Nat.le_trans (Nat.le_add_right _ _) h) (by decide), fun e he => smc_Int64S e (Nat.le_trans (Nat.le_trans (le_sum (w := fun e : (List Int) => e.length) he) (Nat.le_add_left _ _)) h)⟩
theorem eq_Profile (a b : DProfile) (hg : sm_DProfile a) : F_laws_eqProfile a b = some (decide (a = b)) := by
  obtain ⟨a0, a1⟩ := a
  obtain ⟨b0, b1⟩ := b
  unfold sm_DProfile at hg
  unfold F_laws_eqProfile
  simp only [eq_Int64SS a0 b0 hg.1, eq_Int64S a1 b1 hg.2, Option.bind_some]
  by_cases h0 : a0 = b0
  · by_cases h1 : a1 = b1
    · rw [decide_eq_true h0, Bool.not_true, cond_false, decide_eq_true h1, Bool.not_true, cond_false]; simp [h0, h1]
    · rw [decide_eq_true h0, Bool.not_true, cond_false, decide_eq_false h1, Bool.not_false, cond_true]; simp [h1]
  · rw [decide_eq_false h0, Bool.not_false, cond_true]; simp [h0]
theorem smc_Profile (a : DProfile) (h : ((a.fRankings.length + (a.fRankings.map (fun e : (List Int) => e.length)).sum) + a.fWeights.length) ≤ 1048576) : sm_DProfile a := ⟨smc_Int64SS a.fRankings (by omega), smc_Int64S a.fWeights (by omega)⟩
theorem mh_Int64S (a : (List Int)) (h : a.length ≤ maxLen) : MH F_laws_markInt64S F_laws_heldInt64S a.length a := mh_ints (fun _ _ _ _ => rfl) (fun _ _ _ _ => rfl) a h
theorem mhc_Int64S (a : (List Int)) (h : a.length ≤ 1048576) (k : Int) (h0 : 0 ≤ k) (h1 : k ≤ 2305843009213693952) : ∃ m k', F_laws_markInt64S a k = some (m, k') ∧ F_laws_heldInt64S m k = some k' ∧ k ≤ k' ∧ k' ≤ k + 1048576 := by
  obtain ⟨m, e1, e2⟩ := mh_Int64S a (Nat.le_trans h (by decide)) k h0 (by unfold MB; omega)
  exact ⟨m, _, e1, e2, by omega, by omega⟩
theorem mkc_Int64S (a : (List Int)) (h : a.length ≤ 1048576) (k : Int) (h0 : 0 ≤ k) (h1 : k ≤ 2305843009213693952) : ∃ m k', F_laws_markInt64S a k = some (m, k') ∧ k ≤ k' ∧ k' ≤ k + 1048576 := by
  obtain ⟨m, k2, e, -, u, v⟩ := mhc_Int64S a h k h0 h1
  exact ⟨m, k2, e, u, v⟩
theorem mk_Int64SS (a : (List (List Int))) (h : (a.length + (a.map (fun e : (List Int) => e.length)).sum) ≤ 1048576) : MK F_laws_markInt64SS (a.map List.length).sum a := mk_list (fun _ _ _ _ => rfl) a (Nat.le_trans (Nat.le_trans (Nat.le_add_right _ _) h) (by decide)) (fun e he => (mh_Int64S e (Nat.le_trans (Nat.le_trans (Nat.le_trans (le_sum (w := List.length) he) (Nat.le_add_left _ _)) h) (by decide))).mk)
theorem mkc_Int64SS (a : (List (List Int))) (h : (a.length + (a.map (fun e : (List Int) => e.length)).sum) ≤ 1048576) (k : Int) (h0 : 0 ≤ k) (h1 : k ≤ 2305843009213693952) : ∃ m k', F_laws_markInt64SS a k = some (m, k') ∧ k ≤ k' ∧ k' ≤ k + 1048576 := by
  have hw : (a.map List.length).sum ≤ 1048576 := Nat.le_trans (Nat.le_add_left _ _) h
  obtain ⟨m, e1⟩ := mk_Int64SS a h k h0 (by unfold MB; omega)
  exact ⟨m, _, e1, by omega, by omega⟩
theorem mkc_Profile (a : DProfile) (h : ((a.fRankings.length + (a.fRankings.map (fun e : (List Int) => e.length)).sum) + a.fWeights.length) ≤ 1048576) (k : Int) (h0 : 0 ≤ k) (h1 : k ≤ 1152921504606846976) : ∃ m k', F_laws_markProfile a k = some (m, k') ∧ k ≤ k' ∧ k' ≤ k + 2097152 := by
  obtain ⟨m0, k0, e0, u0, v0⟩ := mkc_Int64SS a.fRankings (by omega) k (by omega) (by omega)
  obtain ⟨m1, k1, e1, u1, v1⟩ := mkc_Int64S a.fWeights (by omega) k0 (by omega) (by omega)
  refine ⟨⟨m0, m1⟩, k1, ?_, by omega, by omega⟩
  unfold F_laws_markProfile
  simp only [e0, e1, Option.bind_some]
end Go.FX
