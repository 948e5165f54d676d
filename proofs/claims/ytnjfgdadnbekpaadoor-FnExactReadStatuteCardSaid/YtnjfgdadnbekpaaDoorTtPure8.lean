/- The pure part: what the functions compute, in plain Lean, with no program in sight; no condition. -/
import Derived.Test.YtnjfgdadnbekpaaDoorTtPure7
namespace Go.FX
open Go Go.GL Go.RowKit
theorem sent_len {t : Bytes} (h : sent t = true) : t.length ≤ 24 := by
  unfold sent at h
  simp only [Bool.and_eq_true, decide_eq_true_eq] at h
  exact h.1.1.2
theorem stat_len {l : List DArticle} (h : statOk l = true) : l.length ≤ 8 := by
  unfold statOk at h
  rw [Bool.and_eq_true, decide_eq_true_eq, decide_eq_true_eq] at h
  exact h.2
theorem stat_at {l : List DArticle} (h : statOk l = true) {i : Nat} (hi : i < l.length) : within l[i].fId 1 99 = true ∧ l[i].fText.length ≤ 24 := by
  unfold statOk at h
  rw [Bool.and_eq_true, decide_eq_true_eq] at h
  have := h.1 i hi
  rw [statC_at hi, Bool.and_eq_true, Bool.and_eq_true] at this
  exact ⟨this.1.1, sent_len this.1.2⟩
theorem win_nat {x : Int} (h : within x 1 99 = true) : ∃ m : Nat, x = (m : Int) ∧ 1 ≤ m ∧ m ≤ 99 := by
  unfold within at h
  rw [Bool.and_eq_true, decide_eq_true_eq, decide_eq_true_eq] at h
  exact ⟨x.toNat, by omega, by omega, by omega⟩
def Ends (r : Bytes) : Prop := r = [] ∨ ∃ q, r = q ++ [10]
theorem ends_spl {r : Bytes} (h : Ends r) : (spl [] r).2 = [] := by
  rcases h with rfl | ⟨q, rfl⟩
  · rfl
  · exact spl_end q []
theorem stat_loop {l : List DArticle} (h : statOk l = true) : ∀ k i f, i + k = l.length → k < f → ∀ acc : Bytes, acc.length ≤ i * 28 → Ends acc → ∃ r, F_spec_l07Text_l1 l f acc (i : Int) = some r ∧ F_impl_StatuteText_l1 l f acc (i : Int) = some (r, true) ∧ r.length ≤ l.length * 28 ∧ Ends r := by
  have hl := stat_len h
  refine up (P := fun i f => ∀ acc : Bytes, acc.length ≤ i * 28 → Ends acc → ∃ r, F_spec_l07Text_l1 l f acc (i : Int) = some r ∧ F_impl_StatuteText_l1 l f acc (i : Int) = some (r, true) ∧ r.length ≤ l.length * 28 ∧ Ends r) (fun f acc h1 h2 => ?_) (fun i f hi ih acc hacc _ => ?_)
  · rw [F_spec_l07Text_l1.eq_2, F_impl_StatuteText_l1.eq_2, dlt_f (by omega)]
    exact ⟨_, rfl, rfl, h1, h2⟩
  · obtain ⟨hw, h3⟩ := stat_at h hi
    obtain ⟨m, hm, -, h2⟩ := win_nat hw
    have h4 : (dd 5 m).length ≤ 2 := dlen2_tab ⟨m, by omega⟩
    rw [F_spec_l07Text_l1.eq_2, F_impl_StatuteText_l1.eq_2, dlt_t hi, cond_true, cond_true, idx_nat hi, idx_nat hi, idx_nat hi, hm, spDec (by omega), imDec (by omega), Option.bind_some, Option.bind_some, W_succ hi (Nat.le_trans hl (by decide))]
    have i8 : i < 8 := by omega
    iterate 4 rw [cat_ok (by simp only [List.length_append, List.length_cons, List.length_nil]; omega)]
    iterate 4 rw [cat_ok (by simp only [List.length_append, List.length_cons, List.length_nil]; omega)]
    refine ih _ (by simp only [List.length_append, List.length_cons, List.length_nil]; omega) (.inr ⟨acc ++ (dd 5 m ++ [32] ++ l[i].fText), by simp⟩)
theorem stat_text {l : List DArticle} (h : statOk l = true) : ∃ r, F_spec_l07Text l = some r ∧ F_impl_StatuteText_l1 l (l.length + 1) [] 0 = some (r, true) ∧ r.length ≤ 224 ∧ Ends r := by
  have hl := stat_len h
  obtain ⟨r, e1, e2, e3, e4⟩ := stat_loop h l.length 0 (l.length + 1) (by omega) (by omega) [] (Nat.le_refl _) (.inl rfl)
  exact ⟨r, e1, e2, by omega, e4⟩
/-! the articles of lines -/
def par1 (x : Bytes) : DArticle := ⟨((F_spec_l01Read (cutB 32 x).1).getD (0, false)).1, (cutB 32 x).2⟩
def par2 (x : Bytes) : DArticle := ⟨((F_impl_readNumber (cutB 32 x).1 1 99).getD (0, false)).1, (cutB 32 x).2⟩
theorem par_eq {x : Bytes} (hl : x.length ≤ 1048576) (h : within (par1 x).fId 1 99 = true ∨ within (par2 x).fId 1 99 = true) : par1 x = par2 x := by
  obtain ⟨i1, b1, i2, b2, e1, e2, e3⟩ := ids (cutB 32 x).1 (by have := (cut_len 32 x).1; omega)
  have h1 : par1 x = ⟨i1, (cutB 32 x).2⟩ := by unfold par1; rw [e1]; rfl
  have h2 : par2 x = ⟨i2, (cutB 32 x).2⟩ := by unfold par2; rw [e2]; rfl
  rw [h1, h2] at h ⊢
  rw [e3 h]
theorem sp_par (L : List Bytes) (b : Bool) (hL : L.length ≤ 100) (hl : ∀ x ∈ L, x.length ≤ 1048576) : F_spec_l07Read_l1 (L, b) (L.length + 1) [] 0 = some (L.map par1) := by
  have key : ∀ k i f, i + k = L.length → k < f → ∀ out : List DArticle, out.length ≤ i → F_spec_l07Read_l1 (L, b) f out (i : Int) = some (out ++ (L.drop i).map par1) := by
    refine up (P := fun i f => ∀ out : List DArticle, out.length ≤ i → F_spec_l07Read_l1 (L, b) f out (i : Int) = some (out ++ (L.drop i).map par1)) (fun f out ho => ?_) (fun i f hi ih out ho => ?_)
    · rw [F_spec_l07Read_l1.eq_2, dlt_f (Nat.lt_irrefl _), cond_false, List.drop_of_length_le (Nat.le_refl _), List.map_nil, List.append_nil]
    · have hx := hl _ (List.getElem_mem hi)
      obtain ⟨i1, b1, e1, -⟩ := spRead (cutB 32 L[i]).1 (by have := (cut_len 32 L[i]).1; unfold maxLen; omega)
      have hc : F_spec_l07Cut L[i] 32 = some (cutB 32 L[i]) := spCut L[i] 32 (Nat.le_trans hx (by decide))
      have hp : par1 L[i] = ⟨i1, (cutB 32 L[i]).2⟩ := by unfold par1; rw [e1]; rfl
      rw [F_spec_l07Read_l1.eq_2, dlt_t hi, cond_true, idx_nat hi, hc, Option.bind_some, e1, Option.bind_some, app_ok (by simp only [List.length_cons, List.length_nil]; omega), W_succ hi (by unfold maxLen; omega), ih _ (by simp only [List.length_append, List.length_cons, List.length_nil]; omega), List.drop_eq_getElem_cons hi, List.map_cons, hp, List.append_assoc]
      rfl
  exact key L.length 0 (L.length + 1) (by omega) (by omega) [] (Nat.le_refl _)
theorem im_par (L : List Bytes) (hL : L.length ≤ 1000000) (hl : ∀ x ∈ L, x.length ≤ 1048576) : F_impl_ReadStatute_l1 L (L.length + 1) [] 0 = some (L.map par2) := by
  have key : ∀ k i f, i + k = L.length → k < f → ∀ out : List DArticle, out.length ≤ i → F_impl_ReadStatute_l1 L f out (i : Int) = some (out ++ (L.drop i).map par2) := by
    refine up (P := fun i f => ∀ out : List DArticle, out.length ≤ i → F_impl_ReadStatute_l1 L f out (i : Int) = some (out ++ (L.drop i).map par2)) (fun f out ho => ?_) (fun i f hi ih out ho => ?_)
    · rw [F_impl_ReadStatute_l1.eq_2, dlt_f (Nat.lt_irrefl _), cond_false, List.drop_of_length_le (Nat.le_refl _), List.map_nil, List.append_nil]
    · have hx := hl _ (List.getElem_mem hi)
      obtain ⟨⟨i1, b1⟩, e1, -⟩ := imRead (cutB 32 L[i]).1 1 99 (by have := (cut_len 32 L[i]).1; omega)
      obtain ⟨b, hc⟩ := imCut L[i] 32 (Nat.le_trans hx (by decide))
      rw [show UInt8.toNat 32 = 32 from rfl] at hc
      have hp : par2 L[i] = ⟨i1, (cutB 32 L[i]).2⟩ := by unfold par2; rw [e1]; rfl
      rw [F_impl_ReadStatute_l1.eq_2, dlt_t hi, cond_true, idx_nat hi, hc, Option.bind_some, e1, Option.bind_some, app_ok (by simp only [List.length_cons, List.length_nil]; omega), W_succ hi (by unfold maxLen; omega), ih _ (by simp only [List.length_append, List.length_cons, List.length_nil]; omega), List.drop_eq_getElem_cons hi, List.map_cons, hp, List.append_assoc]
      rfl
  exact key L.length 0 (L.length + 1) (by omega) (by omega) [] (Nat.le_refl _)
theorem par_stat {L : List Bytes} (hl : ∀ x ∈ L, x.length ≤ 1048576) (h : statOk (L.map par1) = true ∨ statOk (L.map par2) = true) : L.map par1 = L.map par2 := by
  refine List.map_congr_left fun x hx => par_eq (hl x hx) ?_
  obtain ⟨i, hi, rfl⟩ := List.getElem_of_mem hx
  rcases h with h | h
  · left
    have := (stat_at h (i := i) (by rw [List.length_map]; exact hi)).1
    rwa [List.getElem_map] at this
  · right
    have := (stat_at h (i := i) (by rw [List.length_map]; exact hi)).1
    rwa [List.getElem_map] at this
theorem smT_par {L : List Bytes} (hL : L.length ≤ 1000000) (p : Bytes → DArticle) (hp : ∀ x ∈ L, (p x).fText.length ≤ 1048576) : smT (L.map p) := by
  refine ⟨by rw [List.length_map]; unfold maxLen; omega, fun a ha => ?_⟩
  obtain ⟨x, hx, rfl⟩ := List.mem_map.1 ha
  exact Nat.le_trans (hp x hx) (by decide)
theorem imStatText (l : List DArticle) (h : smT l) : F_impl_StatuteText l = (if statOk l = true then F_impl_StatuteText_l1 l (l.length + 1) [] 0 else some ([], false)) := by
  unfold F_impl_StatuteText
  rw [imStat l h, Option.bind_some]
  cases statOk l <;> rfl
theorem eqReadStat (t : Bytes) (ht : t.length ≤ 1048576) : ∃ r, F_spec_ReadStatute t = some r ∧ F_impl_ReadStatute t = some r ∧ r.1.length ≤ 1048576 := by
  obtain ⟨hl, hr⟩ := spl_len t []
  simp only [List.length_nil, Nat.zero_add] at hl hr
  have hcl := spl_count t []
  have hcnt : t.count 10 ≤ t.length := List.count_le_length
  have hsl : F_spec_l07Lines t 8 = some (if (spl [] t).1.length ≤ 8 then ((spl [] t).1, decide ((spl [] t).2 = [])) else ([], false)) := spLines t 8 (Nat.le_trans ht (by decide)) (by omega)
  have hl2 : ∀ x ∈ (spl [] t).1, x.length ≤ 1048576 := fun x hx => Nat.le_trans (hl x hx) ht
  generalize hLe : (spl [] t).1 = L at *
  unfold F_spec_ReadStatute F_spec_l07Read F_impl_ReadStatute
  by_cases h1000 : t.length ≤ 1000
  · rw [show decide ((List.length t : Int) > 1000) = false from decide_eq_false (by omega), cond_false, imLines t (by omega), hLe, Option.bind_some, im_par L (by omega) hl2, Option.bind_some,
      imStatText _ (smT_par (by omega) par2 fun x hx => Nat.le_trans (cut_len 32 x).2 (hl2 x hx)), hsl, Option.bind_some]
    by_cases h8 : L.length ≤ 8
    · rw [if_pos h8]
      by_cases hrest : (spl [] t).2 = []
      · simp only [hrest, decide_true, Bool.not_true, cond_false]
        rw [sp_par L true (by omega) hl2, Option.bind_some, spStat _ (smT_par (by omega) par1 fun x hx => Nat.le_trans (cut_len 32 x).2 (hl2 x hx)), Option.bind_some]
        cases q1 : statOk (L.map par1) with
        | true =>
          have he := par_stat hl2 (.inl q1)
          rw [← he, q1, if_pos rfl, Bool.not_true, cond_false]
          obtain ⟨r, e1, e2, e3, e4⟩ := stat_text q1
          rw [e1, e2, Option.bind_some, Option.bind_some, Option.bind_some]
          cases (r != t) with
          | true => exact ⟨_, rfl, rfl, by simp⟩
          | false => exact ⟨_, rfl, rfl, by rw [List.length_map]; omega⟩
        | false =>
          cases q2 : statOk (L.map par2) with
          | true =>
            have he := par_stat hl2 (.inr q2)
            rw [he, q2] at q1
            cases q1
          | false => exact ⟨_, rfl, rfl, by simp⟩
      · simp only [hrest, decide_false, Bool.not_false, cond_true]
        refine ⟨_, rfl, ?_, by simp⟩
        cases q2 : statOk (L.map par2) with
        | false => rfl
        | true =>
          obtain ⟨r, e1, e2, e3, e4⟩ := stat_text q2
          rw [if_pos rfl, e2, Option.bind_some]
          have hne : (r != t) = true := by
            rw [bne_iff_ne]
            rintro rfl
            exact hrest (ends_spl e4)
          simp only [Bool.not_true, Bool.false_or, hne, cond_true]
    · rw [if_neg h8]
      refine ⟨_, rfl, ?_, by simp⟩
      cases q2 : statOk (L.map par2) with
      | false => rfl
      | true =>
        have := stat_len q2
        rw [List.length_map] at this
        omega
  · rw [show decide ((List.length t : Int) > 1000) = true from decide_eq_true (by omega), cond_true, hsl, Option.bind_some]
    refine ⟨_, ?_, rfl, by simp⟩
    by_cases h8 : L.length ≤ 8
    · rw [if_pos h8]
      cases hd : decide ((spl [] t).2 = []) with
      | false => rfl
      | true =>
        simp only [Bool.not_true, cond_false]
        rw [sp_par L true (by omega) hl2, Option.bind_some, spStat _ (smT_par (by omega) par1 fun x hx => Nat.le_trans (cut_len 32 x).2 (hl2 x hx)), Option.bind_some]
        cases q1 : statOk (L.map par1) with
        | false => rfl
        | true =>
          obtain ⟨r, e1, e2, e3, e4⟩ := stat_text q1
          rw [Bool.not_true, cond_false, e1, Option.bind_some]
          have hne : (r != t) = true := by
            rw [bne_iff_ne]
            rintro rfl
            omega
          rw [hne]
          rfl
    · rw [if_neg h8]; rfl
end Go.FX
