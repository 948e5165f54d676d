/- The pure part: what the functions compute, in plain Lean, with no program in sight; no condition. -/
import Derived.Test.YtmeeomkjjnlaoaaRkPure2
namespace Go.FX
open Go Go.GL Go.RowKit
/-! tables of n rows and n columns -/
def mat {α : Type} (n : Nat) (M : Nat → Nat → α) : List (List α) := tab n fun a => tab n (M a)
theorem idx_mat {α β : Type} {n a : Nat} {M : Nat → Nat → α} {k : List α → Option β} (h : a < n) : idx (mat n M) (a : Int) k = k (tab n (M a)) := idx_tab h
theorem set_mat {α : Type} {n a b : Nat} {M : Nat → Nat → α} {v : α} : (mat n M).set a ((tab n (M a)).set b v) = mat n fun i j => if i = a ∧ j = b then v else M i j := by
  unfold mat
  rw [set_tab, set_tab]
  refine tab_congr fun i _ => ?_
  by_cases e : i = a
  · rw [if_pos e]
    refine tab_congr fun j _ => ?_
    show _ = if i = a ∧ j = b then v else M i j
    by_cases e2 : j = b
    · rw [if_pos e2, if_pos ⟨e, e2⟩]
    · rw [if_neg e2, if_neg (fun h => e2 h.2), e]
  · rw [if_neg e]
    exact tab_congr fun j _ => by
      show _ = if i = a ∧ j = b then v else M i j
      rw [if_neg (fun h => e h.1)]
def addM (M : Nat → Nat → Int) (a b : Nat) (w : Int) (i j : Nat) : Int := if i = a ∧ j = b then IntKind.i64.wrap (M a b + w) else M i j
theorem set_add {n a b : Nat} {M : Nat → Nat → Int} {w : Int} : (mat n M).set a ((tab n (M a)).set b (IntKind.i64.wrap (M a b + w))) = mat n (addM M a b w) := set_mat
/-- one ranking's pairs, from its place i on: the first with each behind it -/
def rowM (w : Int) (a : Nat) : List Nat → (Nat → Nat → Int) → (Nat → Nat → Int)
  | [], M => M
  | b :: l, M => rowM w a l (addM M a b w)
def rankM (w : Int) : List Nat → (Nat → Nat → Int) → (Nat → Nat → Int)
  | [], M => M
  | a :: l, M => rankM w l (rowM w a l M)
def profM : List (List Nat × Nat) → (Nat → Nat → Int) → (Nat → Nat → Int)
  | [], M => M
  | (r, w) :: l, M => profM l (rankM (w : Int) r M)
def pairM (R : List (List Nat)) (T : List Nat) : Nat → Nat → Int := profM (R.zip T) fun _ _ => 0
theorem idx_nats {β : Type} {l : List Nat} {i : Nat} (h : i < l.length) (K : Int → Option β) : idx (l.map Int.ofNat) (i : Int) K = K (l[i] : Int) := by
  rw [idx_nat (by rw [List.length_map]; exact h), List.getElem_map]; rfl
theorem idx_prof {β : Type} {R : List (List Nat)} {T : List Nat} {i : Nat} (h : i < R.length) (K : List Int → Option β) : idx (prof R T).fRankings (i : Int) K = K (R[i].map Int.ofNat) := by
  unfold prof
  rw [idx_nat (by rw [List.length_map]; exact h), List.getElem_map]
theorem idx_wt {β : Type} {R : List (List Nat)} {T : List Nat} {i : Nat} (h : i < T.length) (K : Int → Option β) : idx (prof R T).fWeights (i : Int) K = K (T[i] : Int) := idx_nats h K
theorem prof_len {R : List (List Nat)} {T : List Nat} : (prof R T).fRankings.length = R.length := List.length_map _
section
variable {n : Nat} {R : List (List Nat)} {T : List Nat} (h : Prof n R T)
include h
theorem row_at {i : Nat} (hi : i < R.length) : R[i].length = n ∧ ∀ x ∈ R[i], x < n := ⟨h.len _ (List.getElem_mem hi), h.lt _ (List.getElem_mem hi)⟩
theorem spPairs3 {r i : Nat} (hr : r < R.length) (hi : i < R[r].length) : ∀ k j f, j + k = R[r].length → k < f → ∀ M, F_spec_l06Pairs_l3 (R[r].map Int.ofNat) (i : Int) (prof R T) (r : Int) f (mat n M) (j : Int) = some (mat n (rowM ((T[r]'(by rw [h.wl]; exact hr) : Nat) : Int) R[r][i] (R[r].drop j) M)) := by
  have hT : r < T.length := by rw [h.wl]; exact hr
  obtain ⟨hl, hlt⟩ := row_at h hr
  have h6 := h.n6
  have hlen : (R[r].map Int.ofNat).length = R[r].length := List.length_map _
  refine up (P := fun j f => ∀ M, F_spec_l06Pairs_l3 (R[r].map Int.ofNat) (i : Int) (prof R T) (r : Int) f (mat n M) (j : Int) = some (mat n (rowM (T[r] : Int) R[r][i] (R[r].drop j) M))) (fun f M => ?_) (fun j f hj ih M => ?_)
  · rw [F_spec_l06Pairs_l3.eq_2, hlen, dlt_f (by omega), List.drop_of_length_le (Nat.le_refl _)]; rfl
  · have ha := hlt _ (List.getElem_mem hi)
    have hb := hlt _ (List.getElem_mem hj)
    rw [F_spec_l06Pairs_l3.eq_2, hlen, dlt_t hj, cond_true, idx_nats hi, idx_mat ha, idx_nats hj, idx_tab hb, idx_wt hT, idx_tab hb, Int.toNat_natCast, Int.toNat_natCast, set_add, W_succ hj (by unfold maxLen; omega), ih, List.drop_eq_getElem_cons hj, rowM]
theorem spPairs2 {r : Nat} (hr : r < R.length) : ∀ k i f, i + k = R[r].length → k < f → ∀ M, F_spec_l06Pairs_l2 (R[r].map Int.ofNat) (prof R T) (r : Int) f (mat n M) (i : Int) = some (mat n (rankM ((T[r]'(by rw [h.wl]; exact hr) : Nat) : Int) (R[r].drop i) M)) := by
  have hT : r < T.length := by rw [h.wl]; exact hr
  obtain ⟨hl, hlt⟩ := row_at h hr
  have h6 := h.n6
  have hlen : (R[r].map Int.ofNat).length = R[r].length := List.length_map _
  refine up (P := fun i f => ∀ M, F_spec_l06Pairs_l2 (R[r].map Int.ofNat) (prof R T) (r : Int) f (mat n M) (i : Int) = some (mat n (rankM (T[r] : Int) (R[r].drop i) M))) (fun f M => ?_) (fun i f hi ih M => ?_)
  · rw [F_spec_l06Pairs_l2.eq_2, hlen, dlt_f (by omega), List.drop_of_length_le (Nat.le_refl _)]; rfl
  · rw [F_spec_l06Pairs_l2.eq_2, hlen, dlt_t hi, cond_true, W_succ hi (by unfold maxLen; omega), spPairs3 h hr hi (R[r].length - (i + 1)) (i + 1) _ (by omega) (by omega), Option.bind_some, ih, List.drop_eq_getElem_cons hi, rankM]
theorem spPairs1 : ∀ k r f, r + k = R.length → k < f → ∀ M, F_spec_l06Pairs_l1 (prof R T) f (mat n M) (r : Int) = some (mat n (profM ((R.zip T).drop r) M)) := by
  have h12 := h.r12
  refine up (P := fun r f => ∀ M, F_spec_l06Pairs_l1 (prof R T) f (mat n M) (r : Int) = some (mat n (profM ((R.zip T).drop r) M))) (fun f M => ?_) (fun r f hr ih M => ?_)
  · rw [F_spec_l06Pairs_l1.eq_2, prof_len, dlt_f (by omega), List.drop_of_length_le (by rw [List.length_zip, h.wl]; omega)]; rfl
  · have hT : r < T.length := by rw [h.wl]; exact hr
    have hz : r < (R.zip T).length := by rw [List.length_zip]; omega
    rw [F_spec_l06Pairs_l1.eq_2, prof_len, dlt_t hr, cond_true, idx_prof hr, List.length_map]
    have h2 := spPairs2 h hr R[r].length 0 (R[r].length + 1) (by omega) (by omega) M
    simp only [Int.natCast_zero] at h2
    rw [h2, Option.bind_some, W_succ hr (by unfold maxLen; omega), ih, List.drop_eq_getElem_cons hz, List.getElem_zip, profM, List.drop_zero]
theorem cnt_prof : cnt0 (prof R T) = n := by
  have h0 : 0 < (prof R T).fRankings.length := by rw [prof_len]; exact h.r1
  have e : (prof R T).fRankings[0]'h0 = (R[0]'h.r1).map Int.ofNat := List.getElem_map ..
  unfold cnt0
  rw [getElem!_pos _ 0 h0, e, List.length_map]
  exact h.len _ (List.getElem_mem _)
omit h in
theorem spSquare (hn : n ≤ 6) : F_spec_l06Square (n : Int) = some (mat n fun _ _ => 0) := by
  unfold F_spec_l06Square
  have := app_loop (b := 1) (n := n) (F := F_spec_l06Square_l1 (n : Int)) (m := Int.toNat ((n : Int) - 0) + 2) (acc := []) (fun i => [tab n fun _ => (0 : Int)]) some 0
    (fun j _ => by simp) (fun f acc => by rw [F_spec_l06Square_l1.eq_2, dlt_f (by omega)]; rfl)
    (fun f acc i hi hacc => by rw [F_spec_l06Square_l1.eq_2, dlt_t hi, cond_true, mk_ok (by omega), app_ok (by simp; omega), W_succ (n := n) hi (by unfold maxLen; omega), Int.toNat_natCast, rep_tab]) (by omega) (by simp)
  rw [this, List.nil_append]
  congr 1
  exact (List.map_eq_flatMap ..).symm
theorem spPairs : F_spec_l06Pairs (prof R T) = some (mat n (pairM R T)) := by
  unfold F_spec_l06Pairs
  rw [spCount (by rw [prof_len]; exact h.r1), cnt_prof h, Option.bind_some, spSquare h.n6, Option.bind_some, prof_len]
  exact spPairs1 h R.length 0 (R.length + 1) (by omega) (by omega) _
theorem imOptions : F_impl_Profile_options (prof R T) = some (n : Int) := by
  unfold F_impl_Profile_options
  have h0 : 0 < (prof R T).fRankings.length := by rw [prof_len]; exact h.r1
  rw [idx0 h0, cnt_at h0, cnt_prof h]
theorem imPairs4 {r i : Nat} (hr : r < R.length) (hi : i < R[r].length) : ∀ M, F_impl_Profile_pairs_l4 (i : Int) (R[r].map Int.ofNat) (R[r][i] : Int) (prof R T) (r : Int) ((List.length (List.drop (Int.toNat (IntKind.i64.wrap ((i : Int) + 1))) (List.take (Int.toNat (List.length (R[r].map Int.ofNat) : Int)) (R[r].map Int.ofNat)))) + 1) (mat n M) 0 = some (mat n (rowM ((T[r]'(by rw [h.wl]; exact hr) : Nat) : Int) R[r][i] (R[r].drop (i + 1)) M)) := by
  have hT : r < T.length := by rw [h.wl]; exact hr
  obtain ⟨hl, hlt⟩ := row_at h hr
  have h6 := h.n6
  have hw : IntKind.i64.wrap ((i : Int) + 1) = ((i + 1 : Nat) : Int) := W_succ hi (by unfold maxLen; omega)
  have hd : List.drop (Int.toNat (IntKind.i64.wrap ((i : Int) + 1))) (List.take (Int.toNat (List.length (R[r].map Int.ofNat) : Int)) (R[r].map Int.ofNat)) = (R[r].drop (i + 1)).map Int.ofNat := by
    rw [hw, Int.toNat_natCast, Int.toNat_natCast, List.take_length, ← List.map_drop]
  have ha := hlt _ (List.getElem_mem hi)
  have key : ∀ k j f, j + k = (R[r].drop (i + 1)).length → k < f → ∀ M, F_impl_Profile_pairs_l4 (i : Int) (R[r].map Int.ofNat) (R[r][i] : Int) (prof R T) (r : Int) f (mat n M) (j : Int) = some (mat n (rowM (T[r] : Int) R[r][i] ((R[r].drop (i + 1)).drop j) M)) := by
    refine up (P := fun j f => ∀ M, F_impl_Profile_pairs_l4 (i : Int) (R[r].map Int.ofNat) (R[r][i] : Int) (prof R T) (r : Int) f (mat n M) (j : Int) = some (mat n (rowM (T[r] : Int) R[r][i] ((R[r].drop (i + 1)).drop j) M))) (fun f M => ?_) (fun j f hj ih M => ?_)
    · rw [F_impl_Profile_pairs_l4.eq_2, hd, List.length_map, dlt_f (by omega), List.drop_of_length_le (Nat.le_refl _)]; rfl
    · have hb := hlt _ (List.mem_of_mem_drop (List.getElem_mem hj))
      rw [F_impl_Profile_pairs_l4.eq_2, hd, List.length_map, dlt_t hj, cond_true, idx_nats hj, idx_mat ha, idx_tab hb, idx_wt hT, idx_tab hb, Int.toNat_natCast, Int.toNat_natCast, set_add, W_succ hj (by rw [List.length_drop]; unfold maxLen; omega), ih, List.drop_eq_getElem_cons hj, rowM]
  intro M
  rw [hd, List.length_map]
  exact key (R[r].drop (i + 1)).length 0 _ (by omega) (by omega) M
theorem imPairs3 {r : Nat} (hr : r < R.length) : ∀ k i f, i + k = R[r].length → k < f → ∀ M, F_impl_Profile_pairs_l3 (R[r].map Int.ofNat) (prof R T) (r : Int) f (mat n M) (i : Int) = some (mat n (rankM ((T[r]'(by rw [h.wl]; exact hr) : Nat) : Int) (R[r].drop i) M)) := by
  have hT : r < T.length := by rw [h.wl]; exact hr
  obtain ⟨hl, hlt⟩ := row_at h hr
  have h6 := h.n6
  have hlen : (R[r].map Int.ofNat).length = R[r].length := List.length_map _
  refine up (P := fun i f => ∀ M, F_impl_Profile_pairs_l3 (R[r].map Int.ofNat) (prof R T) (r : Int) f (mat n M) (i : Int) = some (mat n (rankM (T[r] : Int) (R[r].drop i) M))) (fun f M => ?_) (fun i f hi ih M => ?_)
  · rw [F_impl_Profile_pairs_l3.eq_2, hlen, dlt_f (by omega), List.drop_of_length_le (Nat.le_refl _)]; rfl
  · have h4 := imPairs4 h hr hi M
    have hw : IntKind.i64.wrap ((i : Int) + 1) = ((i + 1 : Nat) : Int) := W_succ hi (by unfold maxLen; omega)
    rw [F_impl_Profile_pairs_l3.eq_2, hlen, dlt_t hi, cond_true, idx_nats hi]
    rw [hlen] at h4
    rw [h4, hw, sub_ok (by omega) (by rw [hlen]; exact Nat.le_refl _), Option.bind_some, ih, List.drop_eq_getElem_cons hi, rankM]
theorem imPairs2 : ∀ k r f, r + k = R.length → k < f → ∀ M, F_impl_Profile_pairs_l2 (prof R T) f (mat n M) (r : Int) = some (mat n (profM ((R.zip T).drop r) M)) := by
  have h12 := h.r12
  refine up (P := fun r f => ∀ M, F_impl_Profile_pairs_l2 (prof R T) f (mat n M) (r : Int) = some (mat n (profM ((R.zip T).drop r) M))) (fun f M => ?_) (fun r f hr ih M => ?_)
  · rw [F_impl_Profile_pairs_l2.eq_2, prof_len, dlt_f (by omega), List.drop_of_length_le (by rw [List.length_zip, h.wl]; omega)]; rfl
  · have hT : r < T.length := by rw [h.wl]; exact hr
    have hz : r < (R.zip T).length := by rw [List.length_zip]; omega
    rw [F_impl_Profile_pairs_l2.eq_2, prof_len, dlt_t hr, cond_true, idx_prof hr, List.length_map]
    have h2 := imPairs3 h hr R[r].length 0 (R[r].length + 1) (by omega) (by omega) M
    simp only [Int.natCast_zero] at h2
    rw [h2, Option.bind_some, W_succ hr (by unfold maxLen; omega), ih, List.drop_eq_getElem_cons hz, List.getElem_zip, profM, List.drop_zero]
theorem imPairs : F_impl_Profile_pairs (prof R T) = some (mat n (pairM R T)) := by
  have h6 := h.n6
  unfold F_impl_Profile_pairs
  rw [imOptions h, Option.bind_some]
  have := app_loop (b := 1) (n := n) (F := F_impl_Profile_pairs_l1 (n : Int) (prof R T)) (m := Int.toNat ((n : Int) - 0) + 2) (acc := []) (fun i => [tab n fun _ => (0 : Int)]) some 0
    (fun j _ => by simp) (fun f acc => by rw [F_impl_Profile_pairs_l1.eq_2, dlt_f (by omega)]; rfl)
    (fun f acc i hi hacc => by rw [F_impl_Profile_pairs_l1.eq_2, dlt_t hi, cond_true, imOptions h, Option.bind_some, mk_ok (by omega), app_ok (by simp; omega), W_succ (n := n) hi (by unfold maxLen; omega), Int.toNat_natCast, rep_tab]) (by omega) (by simp)
  have e : ((List.range n).flatMap fun i => [tab n fun _ => (0 : Int)]) = mat n fun _ _ => 0 := (List.map_eq_flatMap ..).symm
  rw [this, List.nil_append, e, Option.bind_some, prof_len]
  exact imPairs2 h R.length 0 (R.length + 1) (by omega) (by omega) _
end
end Go.FX
