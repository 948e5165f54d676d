/- The pure part: what the functions compute, in plain Lean, with no program in sight; no condition. -/
import Derived.Test.YthgmjhiccdjboaaDoorTaPure3
namespace Go.FX
open Go Go.GL Go.RowKit
/-! numbers in writing -/
def decB (n : Nat) : Bool := match F_spec_l01Dec (n : Int), F_impl_Decimal (n : Int) with
  | some a, some b => a == b && Nat.ble a.length 2
  | _, _ => false
theorem dec_all : (List.range 100).all decB = true := by decide +kernel
theorem dec_ok {x : Int} (h1 : 1 ≤ x) (h2 : x ≤ 99) : ∃ d, F_spec_l01Dec x = some d ∧ F_impl_Decimal x = some d ∧ d.length ≤ 2 := by
  have h := List.all_eq_true.1 dec_all x.toNat (List.mem_range.2 (by omega))
  unfold decB at h
  rw [Int.toNat_of_nonneg (by omega)] at h
  cases e1 : F_spec_l01Dec x with
  | none => rw [e1] at h; cases h
  | some a =>
    cases e2 : F_impl_Decimal x with
    | none => rw [e1, e2] at h; cases h
    | some b =>
      rw [e1, e2] at h
      simp only [Bool.and_eq_true, beq_iff_eq, Nat.ble_eq] at h
      obtain ⟨rfl, h3⟩ := h
      exact ⟨a, rfl, rfl, h3⟩
theorem sent_len {t : Bytes} (h : sent t = true) : t.length ≤ 24 := by
  unfold sent at h
  simp only [Bool.and_eq_true, decide_eq_true_eq] at h
  exact h.1.1.2
theorem stat_at {l : List DArticle} (h : statOk l = true) {i : Nat} (hi : i < l.length) : 1 ≤ l[i].fId ∧ l[i].fId ≤ 99 ∧ l[i].fText.length ≤ 24 := by
  unfold statOk at h
  rw [Bool.and_eq_true, decide_eq_true_eq] at h
  have := h.1 i hi
  rw [statC_at hi, Bool.and_eq_true, Bool.and_eq_true] at this
  obtain ⟨⟨h1, h2⟩, -⟩ := this
  unfold within at h1
  rw [Bool.and_eq_true, decide_eq_true_eq, decide_eq_true_eq] at h1
  exact ⟨h1.1, h1.2, sent_len h2⟩
theorem stat_loop {l : List DArticle} (h : statOk l = true) (hl : l.length ≤ 8) : ∀ k i f, i + k = l.length → k < f → ∀ acc : Bytes, acc.length ≤ i * 100 → ∃ r, F_spec_l07Text_l1 l f acc (i : Int) = some r ∧ F_impl_StatuteText_l1 l f acc (i : Int) = some (r, true) := by
  refine up (P := fun i f => ∀ acc : Bytes, acc.length ≤ i * 100 → ∃ r, F_spec_l07Text_l1 l f acc (i : Int) = some r ∧ F_impl_StatuteText_l1 l f acc (i : Int) = some (r, true)) (fun f acc _ => ?_) (fun i f hi ih acc hacc => ?_)
  · rw [F_spec_l07Text_l1.eq_2, F_impl_StatuteText_l1.eq_2, dlt_f (by omega)]
    exact ⟨_, rfl, rfl⟩
  · obtain ⟨h1, h2, h3⟩ := stat_at h hi
    obtain ⟨d, e1, e2, h4⟩ := dec_ok h1 h2
    rw [F_spec_l07Text_l1.eq_2, F_impl_StatuteText_l1.eq_2, dlt_t hi, cond_true, cond_true, idx_nat hi, idx_nat hi, idx_nat hi, e1, e2, Option.bind_some, Option.bind_some, W_succ hi (Nat.le_trans hl (by decide))]
    have i8 : i < 8 := by omega
    iterate 4 rw [cat_ok (by simp only [List.length_append, List.length_cons, List.length_nil]; omega)]
    iterate 4 rw [cat_ok (by simp only [List.length_append, List.length_cons, List.length_nil]; omega)]
    exact ih _ (by simp only [List.length_append, List.length_cons, List.length_nil]; omega)
theorem eqStatText (l : List DArticle) (h : smT l) : ∃ r, F_spec_StatuteText l = some r ∧ F_impl_StatuteText l = some r := by
  unfold F_spec_StatuteText F_impl_StatuteText
  rw [spStat l h, imStat l h, Option.bind_some, Option.bind_some]
  cases q : statOk l
  · exact ⟨_, rfl, rfl⟩
  · have hl : l.length ≤ 8 := by
      have := q
      unfold statOk at this
      rw [Bool.and_eq_true, decide_eq_true_eq, decide_eq_true_eq] at this
      exact this.2
    obtain ⟨r, e1, e2⟩ := stat_loop q hl l.length 0 (l.length + 1) (by omega) (by omega) [] (Nat.le_refl _)
    refine ⟨(r, true), ?_, e2⟩
    unfold F_spec_l07Text
    rw [show F_spec_l07Text_l1 l (l.length + 1) [] 0 = some r from e1]
    rfl
theorem edit_len {e : DEdit} (h : editOk e = true) : e.fOld.length ≤ 24 ∧ e.fNew.length ≤ 24 := by
  unfold editOk at h
  by_cases h1 : e.fKind = 1
  · rw [h1] at h
    simp only [beq_self_eq_true, cond_true, Bool.and_eq_true, beq_iff_eq] at h
    exact ⟨by rw [h.1]; simp, sent_len h.2⟩
  · rw [beq_eq_false_iff_ne.2 h1, cond_false] at h
    by_cases h2 : e.fKind = 2
    · rw [h2] at h
      simp only [beq_self_eq_true, cond_true, Bool.and_eq_true, beq_iff_eq] at h
      exact ⟨sent_len h.1, by rw [h.2]; simp⟩
    · rw [beq_eq_false_iff_ne.2 h2, cond_false] at h
      by_cases h3 : e.fKind = 3
      · rw [h3] at h
        simp only [beq_self_eq_true, cond_true, Bool.and_eq_true] at h
        exact ⟨sent_len h.1.1, sent_len h.1.2⟩
      · rw [beq_eq_false_iff_ne.2 h3] at h
        exact absurd h Bool.false_ne_true
theorem patch_loop {l : List DEdit} (h : patchOk l = true) : ∀ k i f, i + k = l.length → k < f → ∀ acc : Bytes, acc.length ≤ i * 100 → ∃ r, F_spec_l07PatchText_l1 l f acc (i : Int) = some r ∧ F_impl_PatchText_l1 l f acc (i : Int) = some (r, true) := by
  have hl := pat_len h
  refine up (P := fun i f => ∀ acc : Bytes, acc.length ≤ i * 100 → ∃ r, F_spec_l07PatchText_l1 l f acc (i : Int) = some r ∧ F_impl_PatchText_l1 l f acc (i : Int) = some (r, true)) (fun f acc _ => ?_) (fun i f hi ih acc hacc => ?_)
  · rw [F_spec_l07PatchText_l1.eq_2, F_impl_PatchText_l1.eq_2, dlt_f (by omega)]
    exact ⟨_, rfl, rfl⟩
  · obtain ⟨h1, h2, h3⟩ := pat_ok h (List.getElem_mem hi)
    obtain ⟨l1, l2⟩ := edit_len h3
    obtain ⟨d, e1, e2, h4⟩ := dec_ok h1 h2
    have i8 : i < 16 := by omega
    rw [F_spec_l07PatchText_l1.eq_2, F_impl_PatchText_l1.eq_2, dlt_t hi, cond_true, cond_true]
    simp only [idx_nat hi]
    rw [e1, e2]
    simp only [Option.bind_some]
    rw [W_succ hi (Nat.le_trans hl (by decide))]
    cases q1 : l[i].fKind == 1
    · cases q2 : l[i].fKind == 2
      · simp only [cond_false]
        iterate 14 rw [cat_ok (by simp only [List.length_append, List.length_cons, List.length_nil]; omega)]
        exact ih _ (by simp only [List.length_append, List.length_cons, List.length_nil]; omega)
      · simp only [cond_false, cond_true]
        iterate 10 rw [cat_ok (by simp only [List.length_append, List.length_cons, List.length_nil]; omega)]
        exact ih _ (by simp only [List.length_append, List.length_cons, List.length_nil]; omega)
    · simp only [cond_true]
      iterate 10 rw [cat_ok (by simp only [List.length_append, List.length_cons, List.length_nil]; omega)]
      exact ih _ (by simp only [List.length_append, List.length_cons, List.length_nil]; omega)
theorem eqPatText (l : List DEdit) (h : smP l) : ∃ r, F_spec_PatchText l = some r ∧ F_impl_PatchText l = some r := by
  unfold F_spec_PatchText F_impl_PatchText
  rw [spPatch l h.1 h.2, imPatch l h.1 h.2, Option.bind_some, Option.bind_some]
  cases q : patchOk l
  · exact ⟨_, rfl, rfl⟩
  · obtain ⟨r, e1, e2⟩ := patch_loop q l.length 0 (l.length + 1) (by omega) (by omega) [] (Nat.le_refl _)
    refine ⟨(r, true), ?_, e2⟩
    unfold F_spec_l07PatchText
    rw [show F_spec_l07PatchText_l1 l (l.length + 1) [] 0 = some r from e1]
    rfl
end Go.FX
