/- The pure part: what the functions compute, in plain Lean, with no program in sight; no condition. -/
import Derived.Test.YtghlajdnpejmcaaRaPure5
namespace Go.FX
open Go Go.GL Go.RowKit
/-! an option is dropped -/
def dropO (o : Nat) (r : List Nat) : List Nat := r.flatMap fun x => if x = o then [] else if o < x then [x - 1] else [x]
theorem dropO_len {o : Nat} {r : List Nat} : (dropO o r).length ≤ r.length := by
  unfold dropO
  induction r with
  | nil => simp
  | cons x r ih =>
    rw [List.flatMap_cons, List.length_append, List.length_cons]
    have : (if x = o then [] else if o < x then [x - 1] else [x] : List Nat).length ≤ 1 := by split <;> (try split) <;> simp
    omega
theorem dropO_take {o : Nat} {r : List Nat} {i : Nat} (hi : i < r.length) : dropO o (r.take (i + 1)) = dropO o (r.take i) ++ (if r[i] = o then [] else if o < r[i] then [r[i] - 1] else [r[i]]) := by
  unfold dropO
  rw [← List.take_append_getElem hi, List.flatMap_append]
  simp
section
variable {n : Nat} {R : List (List Nat)} {T : List Nat} (h : Prof n R T)
include h
theorem spDrop2 {i o : Nat} (hi : i < R.length) (ho : o < n) {acc0 : List (List Int)} (ha : acc0.length ≤ 100) : F_spec_DropOption_l2 (prof R T) (i : Int) (o : Int) acc0 1000 [] 0 = some (acc0 ++ [(dropO o R[i]).map Int.ofNat]) := by
  obtain ⟨hl, hlt⟩ := row_at h hi
  have h6 := h.n6
  have key : ∀ k j f, j + k = R[i].length → k < f → F_spec_DropOption_l2 (prof R T) (i : Int) (o : Int) acc0 f ((dropO o (R[i].take j)).map Int.ofNat) (j : Int) = some (acc0 ++ [(dropO o R[i]).map Int.ofNat]) := by
    refine up (P := fun j f => F_spec_DropOption_l2 (prof R T) (i : Int) (o : Int) acc0 f ((dropO o (R[i].take j)).map Int.ofNat) (j : Int) = some (acc0 ++ [(dropO o R[i]).map Int.ofNat])) (fun f => ?_) (fun j f hj ih => ?_)
    · rw [F_spec_DropOption_l2.eq_2, idx_prof hi, List.length_map, dlt_f (by omega), cond_false, app_ok (by simp; omega), List.take_length]
    · have hx := hlt _ (List.getElem_mem hj)
      have hb : ((dropO o (R[i].take j)).map Int.ofNat).length ≤ 6 := by
        rw [List.length_map]
        have := dropO_len (o := o) (r := R[i].take j)
        rw [List.length_take] at this
        omega
      rw [dropO_take hj] at ih
      rw [F_spec_DropOption_l2.eq_2, idx_prof hi, List.length_map, dlt_t hj, cond_true, idx_prof hi, idx_nats hj, W_succ hj (by unfold maxLen; omega)]
      by_cases e : R[i][j] = o
      · rw [if_pos e, List.append_nil] at ih
        rw [e, beq_self_eq_true, cond_true]
        exact ih
      · rw [if_neg e, List.map_append] at ih
        rw [beq_eq_false_iff_ne.2 (show ((R[i][j] : Nat) : Int) ≠ (o : Int) by omega), cond_false]
        by_cases e2 : o < R[i][j]
        · rw [if_pos e2] at ih
          have ew : IntKind.i64.wrap (((R[i][j] : Nat) : Int) - 1) = ((R[i][j] - 1 : Nat) : Int) := by rw [W_id (by omega) (by omega)]; omega
          rw [decide_eq_true (by omega), cond_true, ew, app_ok (by simp only [List.length_cons, List.length_nil]; omega)]
          exact ih
        · rw [if_neg e2] at ih
          rw [decide_eq_false (by omega), cond_false, app_ok (by simp only [List.length_cons, List.length_nil]; omega)]
          exact ih
  exact key R[i].length 0 1000 (by omega) (by omega)
theorem imDrop2 {i o : Nat} (hi : i < R.length) (ho : o < n) {acc0 : List (List Int)} (ha : acc0.length ≤ 100) : F_impl_DropOption_l2 (R[i].map Int.ofNat) (o : Int) acc0 ((R[i].map Int.ofNat).length + 1) [] 0 = some (acc0 ++ [(dropO o R[i]).map Int.ofNat]) := by
  obtain ⟨hl, hlt⟩ := row_at h hi
  have h6 := h.n6
  have key : ∀ k j f, j + k = R[i].length → k < f → F_impl_DropOption_l2 (R[i].map Int.ofNat) (o : Int) acc0 f ((dropO o (R[i].take j)).map Int.ofNat) (j : Int) = some (acc0 ++ [(dropO o R[i]).map Int.ofNat]) := by
    refine up (P := fun j f => F_impl_DropOption_l2 (R[i].map Int.ofNat) (o : Int) acc0 f ((dropO o (R[i].take j)).map Int.ofNat) (j : Int) = some (acc0 ++ [(dropO o R[i]).map Int.ofNat])) (fun f => ?_) (fun j f hj ih => ?_)
    · rw [F_impl_DropOption_l2.eq_2, List.length_map, dlt_f (by omega), cond_false, app_ok (by simp; omega), List.take_length]
    · have hx := hlt _ (List.getElem_mem hj)
      have hb : ((dropO o (R[i].take j)).map Int.ofNat).length ≤ 6 := by
        rw [List.length_map]
        have := dropO_len (o := o) (r := R[i].take j)
        rw [List.length_take] at this
        omega
      rw [dropO_take hj] at ih
      rw [F_impl_DropOption_l2.eq_2, List.length_map, dlt_t hj, cond_true, idx_nats hj, W_succ hj (by unfold maxLen; omega)]
      by_cases e : R[i][j] = o
      · rw [if_pos e, List.append_nil] at ih
        rw [e, decide_eq_false (by omega), cond_false, cond_false]
        exact ih
      · rw [if_neg e, List.map_append] at ih
        by_cases e2 : o < R[i][j]
        · rw [if_pos e2] at ih
          have ew : IntKind.i64.wrap (((R[i][j] : Nat) : Int) - 1) = ((R[i][j] - 1 : Nat) : Int) := by rw [W_id (by omega) (by omega)]; omega
          rw [decide_eq_false (by omega), cond_false, decide_eq_true (by omega), cond_true, ew, app_ok (by simp only [List.length_cons, List.length_nil]; omega)]
          exact ih
        · rw [if_neg e2] at ih
          rw [decide_eq_true (by omega), cond_true, app_ok (by simp only [List.length_cons, List.length_nil]; omega)]
          exact ih
  have := key R[i].length 0 (R[i].length + 1) (by omega) (by omega)
  rw [List.length_map]
  exact this
theorem spDrop1 {o : Nat} (ho : o < n) : F_spec_DropOption_l1 (prof R T) (o : Int) (T.map Int.ofNat) ((prof R T).fRankings.length + 1) [] 0 = some (prof (R.map (dropO o)) T, true) := by
  have h12 := h.r12
  rw [prof_len]
  have := app_loop (b := 1) (n := R.length) (F := F_spec_DropOption_l1 (prof R T) (o : Int) (T.map Int.ofNat)) (m := R.length + 1) (acc := []) (fun i => [(dropO o (R[i]!)).map Int.ofNat]) (fun l => some (DProfile.mk l (T.map Int.ofNat), true)) 0
    (fun j _ => by simp) (fun f acc => by rw [F_spec_DropOption_l1.eq_2, prof_len, dlt_f (by omega)]; rfl)
    (fun f acc i hi hacc => by
      rw [F_spec_DropOption_l1.eq_2, prof_len, dlt_t hi, cond_true, spDrop2 h hi ho (by omega), Option.bind_some, W_succ hi (by unfold maxLen; omega), getElem!_pos R i hi]) (by omega) (by simp)
  rw [this, List.nil_append, map_tab (g := fun r => (dropO o r).map Int.ofNat)]
  unfold prof
  rw [List.map_map]
  rfl
theorem imDrop1 {o : Nat} (ho : o < n) : F_impl_DropOption_l1 (prof R T) (o : Int) ((prof R T).fRankings.length + 1) [] 0 = some (prof (R.map (dropO o)) T, true) := by
  have h12 := h.r12
  rw [prof_len]
  have := app_loop (b := 1) (n := R.length) (F := F_impl_DropOption_l1 (prof R T) (o : Int)) (m := R.length + 1) (acc := []) (fun i => [(dropO o (R[i]!)).map Int.ofNat]) (fun l => some (DProfile.mk l ([] ++ (prof R T).fWeights), true)) 0
    (fun j _ => by simp) (fun f acc => by rw [F_impl_DropOption_l1.eq_2, prof_len, dlt_f (by omega)]; rfl)
    (fun f acc i hi hacc => by
      rw [F_impl_DropOption_l1.eq_2, prof_len, dlt_t hi, cond_true, idx_prof hi, imDrop2 h hi ho (by omega), Option.bind_some, W_succ hi (by unfold maxLen; omega), getElem!_pos R i hi]) (by omega) (by simp)
  rw [this, List.nil_append, List.nil_append, map_tab (g := fun r => (dropO o r).map Int.ofNat)]
  unfold prof
  rw [List.map_map]
  rfl
theorem spOpt (o : Int) : F_spec_l06Option (prof R T) o = some (within o 0 ((n : Int) - 1)) := by
  have h1 := h.n1; have h6 := h.n6
  unfold F_spec_l06Option
  rw [spCount (by rw [prof_len]; exact h.r1), cnt_prof h, Option.bind_some, W_id (by omega) (by omega), spIn]
  rfl
theorem imOpt (o : Int) (hs : smP (prof R T)) (hq : profOk (prof R T) = true) : F_impl_isOption (prof R T) o = some (within o 0 ((n : Int) - 1)) := by
  have h1 := h.n1; have h6 := h.n6
  unfold F_impl_isOption
  rw [imProfile _ hs, hq, Option.bind_some, cond_true, imOptions h, Option.bind_some, W_id (by omega) (by omega), imIn]
  rfl
end
theorem imOptBad {p : DProfile} {o : Int} (hs : smP p) (hq : profOk p = false) : F_impl_isOption p o = some false := by
  unfold F_impl_isOption
  rw [imProfile _ hs, hq]
  rfl
theorem eqDrop (p : DProfile) (o : Int) (h : smP p) : ∃ r, F_spec_DropOption p o = some r ∧ F_impl_DropOption p o = some r ∧ ((r.1.fRankings.length + (r.1.fRankings.map fun e : List Int => e.length).sum) + r.1.fWeights.length) ≤ 1048576 := by
  unfold F_spec_DropOption F_impl_DropOption
  rw [spProfile p h]
  simp only [Option.bind_some]
  cases q : profOk p
  · rw [imOptBad h q]
    exact ⟨_, rfl, rfl, by simp⟩
  · obtain ⟨n, R, T, rfl, hp, -⟩ := prof_nat q
    have h12 := hp.r12; have h6 := hp.n6; have hw := hp.wl; have h1 := hp.n1
    rw [spOpt hp, imOpt hp o h q, spCount (by rw [prof_len]; exact hp.r1), cnt_prof hp, imOptions hp]
    simp only [Bool.not_true, cond_false, Option.bind_some]
    cases q2 : within o 0 ((n : Int) - 1)
    · exact ⟨_, rfl, rfl, by simp⟩
    · simp only [Bool.not_true, cond_false]
      by_cases q3 : n = 1
      · subst q3
        exact ⟨_, rfl, rfl, by simp⟩
      · have hb := within_iff.1 q2
        obtain ⟨v, rfl⟩ : ∃ v : Nat, o = v := ⟨o.toNat, by omega⟩
        rw [beq_eq_false_iff_ne.2 (show (n : Int) ≠ 1 by omega)]
        simp only [cond_false, Option.bind_some]
        rw [spOwn h.2.1, Option.bind_some]
        have hT : (prof R T).fWeights = T.map Int.ofNat := rfl
        rw [app_ok (by have := h.2.1; simp; omega), hT, spDrop1 hp (by omega), imDrop1 hp (by omega)]
        refine ⟨_, rfl, rfl, prof_bound (by rw [List.length_map]; omega) (by omega) (fun r hr => ?_)⟩
        obtain ⟨r0, hr0, rfl⟩ := List.mem_map.1 hr
        have := dropO_len (o := v) (r := r0)
        rw [hp.len r0 hr0] at this
        omega
/-! disagreement -/
def disI (M : Nat → Nat → Int) (a : Nat) : List Nat → Int → Int
  | [], s => s
  | b :: l, s => disI M a l (IntKind.i64.wrap (s + M b a))
def disA (M : Nat → Nat → Int) : List Nat → Int → Int
  | [], s => s
  | a :: l, s => disA M l (disI M a l s)
theorem spDisag {n : Nat} {M : Nat → Nat → Int} {L : List Nat} (hL : ∀ x ∈ L, x < n) (hl : L.length ≤ 6) : F_spec_l06Disagreement (mat n M) (L.map Int.ofNat) = some (disA M L 0) := by
  have hlen : (L.map Int.ofNat).length = L.length := List.length_map _
  have k2 : ∀ i (hi : i < L.length), ∀ k j f, j + k = L.length → k < f → ∀ s, F_spec_l06Disagreement_l2 (L.map Int.ofNat) (mat n M) (i : Int) f s (j : Int) = some (disI M L[i] (L.drop j) s) := by
    intro i hi
    refine up (P := fun j f => ∀ s, F_spec_l06Disagreement_l2 (L.map Int.ofNat) (mat n M) (i : Int) f s (j : Int) = some (disI M L[i] (L.drop j) s)) (fun f s => ?_) (fun j f hj ih s => ?_)
    · rw [F_spec_l06Disagreement_l2.eq_2, hlen, dlt_f (by omega), List.drop_of_length_le (Nat.le_refl _)]; rfl
    · rw [F_spec_l06Disagreement_l2.eq_2, hlen, dlt_t hj, cond_true, idx_nats hj, idx_mat (hL _ (List.getElem_mem hj)), idx_nats hi, idx_tab (hL _ (List.getElem_mem hi)), W_succ hj (by unfold maxLen; omega), ih, List.drop_eq_getElem_cons hj, disI]
  have k1 : ∀ k i f, i + k = L.length → k < f → ∀ s, F_spec_l06Disagreement_l1 (L.map Int.ofNat) (mat n M) f s (i : Int) = some (disA M (L.drop i) s) := by
    refine up (P := fun i f => ∀ s, F_spec_l06Disagreement_l1 (L.map Int.ofNat) (mat n M) f s (i : Int) = some (disA M (L.drop i) s)) (fun f s => ?_) (fun i f hi ih s => ?_)
    · rw [F_spec_l06Disagreement_l1.eq_2, hlen, dlt_f (by omega), List.drop_of_length_le (Nat.le_refl _)]; rfl
    · rw [F_spec_l06Disagreement_l1.eq_2, hlen, dlt_t hi, cond_true, W_succ hi (by unfold maxLen; omega), k2 i hi (L.length - (i + 1)) (i + 1) _ (by omega) (by omega), Option.bind_some, ih, List.drop_eq_getElem_cons hi, disA]
  unfold F_spec_l06Disagreement
  rw [hlen]
  have := k1 L.length 0 (L.length + 1) (by omega) (by omega) 0
  exact this
theorem imDisag {n : Nat} {M : Nat → Nat → Int} {L : List Nat} (hL : ∀ x ∈ L, x < n) (hl : L.length ≤ 6) : F_impl_disagreement (mat n M) (L.map Int.ofNat) = some (disA M L 0) := by
  have hlen : (L.map Int.ofNat).length = L.length := List.length_map _
  have k2 : ∀ i (hi : i < L.length), ∀ s, F_impl_disagreement_l2 (i : Int) (L.map Int.ofNat) (mat n M) (L[i] : Int) ((List.length (List.drop (Int.toNat (IntKind.i64.wrap ((i : Int) + 1))) (List.take (Int.toNat (List.length (L.map Int.ofNat) : Int)) (L.map Int.ofNat)))) + 1) s 0 = some (disI M L[i] (L.drop (i + 1)) s) := by
    intro i hi
    have hw : IntKind.i64.wrap ((i : Int) + 1) = ((i + 1 : Nat) : Int) := W_succ hi (by unfold maxLen; omega)
    have hd : List.drop (Int.toNat (IntKind.i64.wrap ((i : Int) + 1))) (List.take (Int.toNat (List.length (L.map Int.ofNat) : Int)) (L.map Int.ofNat)) = (L.drop (i + 1)).map Int.ofNat := by
      rw [hw, Int.toNat_natCast, Int.toNat_natCast, List.take_length, ← List.map_drop]
    have key : ∀ k j f, j + k = (L.drop (i + 1)).length → k < f → ∀ s, F_impl_disagreement_l2 (i : Int) (L.map Int.ofNat) (mat n M) (L[i] : Int) f s (j : Int) = some (disI M L[i] ((L.drop (i + 1)).drop j) s) := by
      refine up (P := fun j f => ∀ s, F_impl_disagreement_l2 (i : Int) (L.map Int.ofNat) (mat n M) (L[i] : Int) f s (j : Int) = some (disI M L[i] ((L.drop (i + 1)).drop j) s)) (fun f s => ?_) (fun j f hj ih s => ?_)
      · rw [F_impl_disagreement_l2.eq_2, hd, List.length_map, dlt_f (by omega), List.drop_of_length_le (Nat.le_refl _)]; rfl
      · rw [F_impl_disagreement_l2.eq_2, hd, List.length_map, dlt_t hj, cond_true, idx_nats hj, idx_mat (hL _ (List.mem_of_mem_drop (List.getElem_mem hj))), idx_tab (hL _ (List.getElem_mem hi)), W_succ hj (by rw [List.length_drop]; unfold maxLen; omega), ih, List.drop_eq_getElem_cons hj, disI]
    intro s
    rw [hd, List.length_map]
    exact key (L.drop (i + 1)).length 0 _ (by omega) (by omega) s
  have k1 : ∀ k i f, i + k = L.length → k < f → ∀ s, F_impl_disagreement_l1 (L.map Int.ofNat) (mat n M) f s (i : Int) = some (disA M (L.drop i) s) := by
    refine up (P := fun i f => ∀ s, F_impl_disagreement_l1 (L.map Int.ofNat) (mat n M) f s (i : Int) = some (disA M (L.drop i) s)) (fun f s => ?_) (fun i f hi ih s => ?_)
    · rw [F_impl_disagreement_l1.eq_2, hlen, dlt_f (by omega), List.drop_of_length_le (Nat.le_refl _)]; rfl
    · have hw : IntKind.i64.wrap ((i : Int) + 1) = ((i + 1 : Nat) : Int) := W_succ hi (by unfold maxLen; omega)
      have h2 := k2 i hi s
      rw [hlen] at h2
      rw [F_impl_disagreement_l1.eq_2, hlen, dlt_t hi, cond_true, idx_nats hi, h2, hw, sub_ok (by omega) (by rw [hlen]; exact Nat.le_refl _), Option.bind_some, ih, List.drop_eq_getElem_cons hi, disA]
  unfold F_impl_disagreement
  rw [hlen]
  exact k1 L.length 0 (L.length + 1) (by omega) (by omega) 0
theorem rk_nat {l : List Int} {n : Nat} (h : rkOk l n = true) : ∃ L : List Nat, l = L.map Int.ofNat ∧ (∀ x ∈ L, x < n) ∧ L.length = n := by
  unfold rkOk at h
  rw [Bool.and_eq_true, decide_eq_true_iff, dis_iff] at h
  refine ⟨l.map Int.toNat, nat_of fun x hx => (h.2.1 x hx).1, fun x hx => ?_, by rw [List.length_map]; exact h.1⟩
  obtain ⟨y, hy, rfl⟩ := List.mem_map.1 hx
  have := h.2.1 y hy
  omega
theorem eqDisag (p : DProfile) (l : List Int) (h : smP p) (hl : l.length ≤ 1048576) : ∃ r, F_spec_DisagreementOf p l = some r ∧ F_impl_DisagreementOf p l = some r := by
  unfold F_spec_DisagreementOf F_impl_DisagreementOf
  rw [spProfile p h, imProfile p h]
  simp only [Option.bind_some]
  cases q : profOk p
  · exact ⟨_, rfl, rfl⟩
  · obtain ⟨n, R, T, rfl, hp, -⟩ := prof_nat q
    have h6 := hp.n6; have h1 := hp.n1
    rw [spCount (by rw [prof_len]; exact hp.r1), cnt_prof hp, imOptions hp, Option.bind_some, Option.bind_some, spRanking h1 (by omega) (Nat.le_trans hl (by decide)), imRanking hl, decide_eq_true h1, decide_eq_true h6]
    simp only [Bool.not_true, cond_false, Option.bind_some, Bool.and_true]
    cases q2 : rkOk l n
    · exact ⟨_, rfl, rfl⟩
    · obtain ⟨L, rfl, hL, hLl⟩ := rk_nat q2
      simp only [Bool.not_true, cond_false]
      rw [spPairs hp, imPairs hp, Option.bind_some, Option.bind_some, spDisag hL (by omega), imDisag hL (by omega)]
      exact ⟨_, rfl, rfl⟩
end Go.FX
