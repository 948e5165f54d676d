/- The pure part: what the functions compute, in plain Lean, with no program in sight; no condition. -/
import Derived.Test.YtmeeomkjjnlaoaaRkPure5
namespace Go.FX
open Go Go.GL Go.RowKit
/-! an option is dropped -/
section
variable {n : Nat} {R : List (List Nat)} {T : List Nat} (h : Prof n R T)
include h
end
/-! disagreement -/
def disI (M : Nat → Nat → Int) (a : Nat) : List Nat → Int → Int
  | [], s => s
  | b :: l, s => disI M a l (IntKind.i64.wrap (s + M b a))
def disA (M : Nat → Nat → Int) : List Nat → Int → Int
  | [], s => s
  | a :: l, s => disA M l (disI M a l s)
theorem spDisag {n : Nat} {M : Nat → Nat → Int} {L : List Nat} (hL : ∀ x ∈ L, x < n) (hl : L.length ≤ 6) : F_spec_l06Disagreement (mat n M) (L.map Int.ofNat) = some (disA M L 0) := by
  have hlen : (L.map Int.ofNat).length = L.length := List.length_map _
  have k2 : ∀ i (hi : i < L.length), ∀ k j f, j + k = L.length → k < f → ∀ s, F_spec_l06Disagreement_l2 (L.map Int.ofNat) (mat n M) (i : Int) f s (j : Int) = some (disI M L[i] (L.drop j) s) := by
    intro i hi
    refine up (P := fun j f => ∀ s, F_spec_l06Disagreement_l2 (L.map Int.ofNat) (mat n M) (i : Int) f s (j : Int) = some (disI M L[i] (L.drop j) s)) (fun f s => ?_) (fun j f hj ih s => ?_)
    · rw [F_spec_l06Disagreement_l2.eq_2, hlen, dlt_f (by omega), List.drop_of_length_le (Nat.le_refl _)]; rfl
    · rw [F_spec_l06Disagreement_l2.eq_2, hlen, dlt_t hj, cond_true, idx_nats hj, idx_mat (hL _ (List.getElem_mem hj)), idx_nats hi, idx_tab (hL _ (List.getElem_mem hi)), W_succ hj (by unfold maxLen; omega), ih, List.drop_eq_getElem_cons hj, disI]
  have k1 : ∀ k i f, i + k = L.length → k < f → ∀ s, F_spec_l06Disagreement_l1 (L.map Int.ofNat) (mat n M) f s (i : Int) = some (disA M (L.drop i) s) := by
    refine up (P := fun i f => ∀ s, F_spec_l06Disagreement_l1 (L.map Int.ofNat) (mat n M) f s (i : Int) = some (disA M (L.drop i) s)) (fun f s => ?_) (fun i f hi ih s => ?_)
    · rw [F_spec_l06Disagreement_l1.eq_2, hlen, dlt_f (by omega), List.drop_of_length_le (Nat.le_refl _)]; rfl
    · rw [F_spec_l06Disagreement_l1.eq_2, hlen, dlt_t hi, cond_true, W_succ hi (by unfold maxLen; omega), k2 i hi (L.length - (i + 1)) (i + 1) _ (by omega) (by omega), Option.bind_some, ih, List.drop_eq_getElem_cons hi, disA]
  unfold F_spec_l06Disagreement
  rw [hlen]
  have := k1 L.length 0 (L.length + 1) (by omega) (by omega) 0
  exact this
theorem imDisag {n : Nat} {M : Nat → Nat → Int} {L : List Nat} (hL : ∀ x ∈ L, x < n) (hl : L.length ≤ 6) : F_impl_disagreement (mat n M) (L.map Int.ofNat) = some (disA M L 0) := by
  have hlen : (L.map Int.ofNat).length = L.length := List.length_map _
  have k2 : ∀ i (hi : i < L.length), ∀ s, F_impl_disagreement_l2 (i : Int) (L.map Int.ofNat) (mat n M) (L[i] : Int) ((List.length (List.drop (Int.toNat (IntKind.i64.wrap ((i : Int) + 1))) (List.take (Int.toNat (List.length (L.map Int.ofNat) : Int)) (L.map Int.ofNat)))) + 1) s 0 = some (disI M L[i] (L.drop (i + 1)) s) := by
    intro i hi
    have hw : IntKind.i64.wrap ((i : Int) + 1) = ((i + 1 : Nat) : Int) := W_succ hi (by unfold maxLen; omega)
    have hd : List.drop (Int.toNat (IntKind.i64.wrap ((i : Int) + 1))) (List.take (Int.toNat (List.length (L.map Int.ofNat) : Int)) (L.map Int.ofNat)) = (L.drop (i + 1)).map Int.ofNat := by
      rw [hw, Int.toNat_natCast, Int.toNat_natCast, List.take_length, ← List.map_drop]
    have key : ∀ k j f, j + k = (L.drop (i + 1)).length → k < f → ∀ s, F_impl_disagreement_l2 (i : Int) (L.map Int.ofNat) (mat n M) (L[i] : Int) f s (j : Int) = some (disI M L[i] ((L.drop (i + 1)).drop j) s) := by
      refine up (P := fun j f => ∀ s, F_impl_disagreement_l2 (i : Int) (L.map Int.ofNat) (mat n M) (L[i] : Int) f s (j : Int) = some (disI M L[i] ((L.drop (i + 1)).drop j) s)) (fun f s => ?_) (fun j f hj ih s => ?_)
      · rw [F_impl_disagreement_l2.eq_2, hd, List.length_map, dlt_f (by omega), List.drop_of_length_le (Nat.le_refl _)]; rfl
      · rw [F_impl_disagreement_l2.eq_2, hd, List.length_map, dlt_t hj, cond_true, idx_nats hj, idx_mat (hL _ (List.mem_of_mem_drop (List.getElem_mem hj))), idx_tab (hL _ (List.getElem_mem hi)), W_succ hj (by rw [List.length_drop]; unfold maxLen; omega), ih, List.drop_eq_getElem_cons hj, disI]
    intro s
    rw [hd, List.length_map]
    exact key (L.drop (i + 1)).length 0 _ (by omega) (by omega) s
  have k1 : ∀ k i f, i + k = L.length → k < f → ∀ s, F_impl_disagreement_l1 (L.map Int.ofNat) (mat n M) f s (i : Int) = some (disA M (L.drop i) s) := by
    refine up (P := fun i f => ∀ s, F_impl_disagreement_l1 (L.map Int.ofNat) (mat n M) f s (i : Int) = some (disA M (L.drop i) s)) (fun f s => ?_) (fun i f hi ih s => ?_)
    · rw [F_impl_disagreement_l1.eq_2, hlen, dlt_f (by omega), List.drop_of_length_le (Nat.le_refl _)]; rfl
    · have hw : IntKind.i64.wrap ((i : Int) + 1) = ((i + 1 : Nat) : Int) := W_succ hi (by unfold maxLen; omega)
      have h2 := k2 i hi s
      rw [hlen] at h2
      rw [F_impl_disagreement_l1.eq_2, hlen, dlt_t hi, cond_true, idx_nats hi, h2, hw, sub_ok (by omega) (by rw [hlen]; exact Nat.le_refl _), Option.bind_some, ih, List.drop_eq_getElem_cons hi, disA]
  unfold F_impl_disagreement
  rw [hlen]
  exact k1 L.length 0 (L.length + 1) (by omega) (by omega) 0
end Go.FX
