/- The pure part: what the functions compute, in plain Lean, with no program in sight; no condition. -/
import Derived.Test.YtbmeejcmbnjncaaSgPure4
namespace Go.FX
open Go Go.GL Go.RowKit
theorem Srt.sub {l m : List DArticle} (hs : Srt l) (h : m.Sublist l) : Srt m := ⟨hs.1.sublist h, fun a ha => hs.2 a (h.subset ha)⟩
theorem cut_at {l : List DArticle} (hs : Srt l) {i : Nat} (hi : i < l.length) : l = l.take i ++ [l[i]] ++ l.drop (i + 1) ∧ (∀ u ∈ l.take i, u.fId < l[i].fId) ∧ (∀ u ∈ l.drop (i + 1), l[i].fId < u.fId) ∧ Srt (l.take i) ∧ Srt (l.drop (i + 1)) := by
  have e : l = l.take i ++ [l[i]] ++ l.drop (i + 1) := by rw [List.take_append_getElem, List.take_append_drop]
  have hp := hs.1
  rw [e, List.append_assoc, List.pairwise_append] at hp
  obtain ⟨-, h2, h3⟩ := hp
  rw [List.singleton_append, List.pairwise_cons] at h2
  exact ⟨e, fun u hu => h3 u hu _ (List.mem_append_left _ (List.mem_singleton.2 rfl)), fun u hu => h2.1 u hu, hs.sub (List.take_sublist ..), hs.sub (List.drop_sublist ..)⟩
theorem f_ins {l : List DArticle} {k : Nat} {x : DArticle} (hk : k ≤ l.length) (hl : l.length ≤ 150) : F_slices_Insert_impl_Article_impl_Article l (k : Int) [x] = some (l.take k ++ ([x] ++ l.drop k)) := by
  unfold F_slices_Insert_impl_Article_impl_Article
  rw [decide_eq_true (by omega), decide_eq_true (by omega), decide_eq_true (by simp), decide_eq_true (by simp; omega)]
  rfl
theorem f_del {l : List DArticle} {k : Nat} (hk : k < l.length) : F_slices_Delete_impl_Article_impl_Article l (k : Int) ((k + 1 : Nat) : Int) = some (l.take k ++ l.drop (k + 1)) := by
  unfold F_slices_Delete_impl_Article_impl_Article
  rw [decide_eq_true (by omega), decide_eq_true (by omega), decide_eq_true (by omega)]
  rfl
theorem edit_cases {e : DEdit} (h : editOk e = true) : (e.fKind = 1 ∧ e.fOld = [] ∧ e.fNew ≠ []) ∨ (e.fKind = 2 ∧ e.fOld ≠ [] ∧ e.fNew = []) ∨ (e.fKind = 3 ∧ e.fOld ≠ [] ∧ e.fNew ≠ []) := by
  unfold editOk at h
  by_cases h1 : e.fKind = 1
  · rw [h1] at h ⊢
    simp only [beq_self_eq_true, cond_true, Bool.and_eq_true, beq_iff_eq] at h
    exact .inl ⟨rfl, h.1, sent_ne h.2⟩
  · rw [beq_eq_false_iff_ne.2 h1, cond_false] at h
    by_cases h2 : e.fKind = 2
    · rw [h2] at h ⊢
      simp only [beq_self_eq_true, cond_true, Bool.and_eq_true, beq_iff_eq] at h
      exact .inr (.inl ⟨rfl, sent_ne h.1, h.2⟩)
    · rw [beq_eq_false_iff_ne.2 h2, cond_false] at h
      by_cases h3 : e.fKind = 3
      · rw [h3] at h ⊢
        simp only [beq_self_eq_true, cond_true, Bool.and_eq_true] at h
        exact .inr (.inr ⟨rfl, sent_ne h.1.1, sent_ne h.1.2⟩)
      · rw [beq_eq_false_iff_ne.2 h3] at h
        exact absurd h Bool.false_ne_true
theorem imGt (l : List DArticle) (e : DEdit) (hl : l.length ≤ maxLen) : F_slices_IndexFunc_impl_Article_impl_Article__impl_applied_1 l e = some (fidx (fun a : DArticle => decide (a.fId > e.fId)) l) :=
  idxf_loop (F := F_slices_IndexFunc_impl_Article_impl_Article__impl_applied_1_l1 l e) (P := fun x => F_impl_applied_1 x e) _ (fun _ _ => rfl) hl (fun _ _ => rfl)
theorem im_step {p : List DEdit} {a l : List DArticle} {i f : Nat} (hi : i < p.length) (hp : p.length ≤ 1000) (ha : a.length ≤ maxLen) (hs : Srt l) (he : editOk p[i] = true) (hid : 1 ≤ p[i].fId ∧ p[i].fId ≤ 99) (hm : ft a p[i].fId = p[i].fOld) (hl : ft l p[i].fId = p[i].fOld) :
    ∃ l', Srt l' ∧ (∀ y, ft l' y = if y = p[i].fId then p[i].fNew else ft l y) ∧ F_impl_applied_l1 p a (f + 1) l (i : Int) = F_impl_applied_l1 p a f l' ((i + 1 : Nat) : Int) := by
  have hll := hs.len
  have hlm : l.length ≤ maxLen := Nat.le_trans hll (by decide)
  rw [F_impl_applied_l1.eq_2, dlt_t hi, cond_true, idx_nat hi, W_succ hi (Nat.le_trans hp (by decide))]
  generalize p[i] = e at *
  rw [imTextOf a _ ha, Option.bind_some, hm, bne_self_eq_false, cond_false, imArticle l _ hlm, Option.bind_some]
  rcases edit_cases he with ⟨h1, h2, h3⟩ | ⟨h1, h2, h3⟩ | ⟨h1, h2, h3⟩
  · have hne : ∀ u ∈ l, u.fId ≠ e.fId := fun u hu hc => by
      have := ft_mem hs hu
      rw [hc, hl, h2] at this
      exact (hs.2 u hu).2.2 this.symm
    rw [h1, show ((1 : Int) == 2) = false from rfl, show ((1 : Int) == 3) = false from rfl, cond_false, cond_false, imGt l e hlm, Option.bind_some]
    have ho : one e.fId e.fNew = [⟨e.fId, e.fNew⟩] := if_neg h3
    cases hf : l.findIdx? fun a => decide (a.fId > e.fId) with
    | none =>
      rw [fidx_none hf, decide_eq_true (by decide), cond_true, f_ins (Nat.le_refl _) (by omega), Option.bind_some, List.take_length, List.drop_length]
      rw [List.findIdx?_eq_none_iff] at hf
      have hA : ∀ u ∈ l, u.fId < e.fId := fun u hu => by
        have h4 := hf u hu; have h5 := hne u hu
        simp only [decide_eq_false_iff_not] at h4
        omega
      refine ⟨l ++ one e.fId e.fNew ++ [], mid_srt hA (fun _ h => by cases h) hs Srt.nil hid, fun y => ?_, by rw [ho, List.append_assoc]⟩
      have := mid_ft (B := []) (t := e.fNew) hA (fun _ h => by cases h) [] (fun _ h => by cases h) (y := y)
      rw [this]; simp
    | some k =>
      obtain ⟨hk, hk1, hk2⟩ := List.findIdx?_eq_some_iff_getElem.1 hf
      rw [fidx_some hf, decide_eq_false (by omega), cond_false, f_ins (by omega) (by omega), Option.bind_some]
      have hk1 : l[k].fId > e.fId := by simpa using hk1
      have hA : ∀ u ∈ l.take k, u.fId < e.fId := fun u hu => by
        obtain ⟨j, hj, rfl⟩ := List.getElem_of_mem hu
        rw [List.length_take] at hj
        have h4 := hk2 j (by omega)
        have h5 := hne _ (List.mem_of_mem_take hu)
        rw [List.getElem_take] at h5 ⊢
        simp only [decide_eq_true_eq] at h4
        omega
      have hB : ∀ u ∈ l.drop k, e.fId < u.fId := fun u hu => by
        rw [List.drop_eq_getElem_cons hk] at hu
        rcases List.mem_cons.1 hu with rfl | hu
        · exact hk1
        · have := (cut_at hs hk).2.2.1 u hu
          omega
      refine ⟨l.take k ++ one e.fId e.fNew ++ l.drop k, mid_srt hA hB (hs.sub (List.take_sublist ..)) (hs.sub (List.drop_sublist ..)) hid, fun y => ?_, by rw [ho, List.append_assoc]⟩
      rw [mid_ft hA hB [] (fun _ h => by cases h), List.append_nil, List.take_append_drop]
  all_goals
    have hfs : ∃ k, (l.findIdx? fun a => a.fId == e.fId) = some k := by
      cases hf : l.findIdx? fun a => a.fId == e.fId with
      | some k => exact ⟨k, rfl⟩
      | none =>
        rw [List.findIdx?_eq_none_iff] at hf
        exact absurd (hl.symm.trans (ft_none fun u hu => by simpa using hf u hu)) h2
    obtain ⟨k, hf⟩ := hfs
    obtain ⟨hk, hk1, -⟩ := List.findIdx?_eq_some_iff_getElem.1 hf
    have hk1 : l[k].fId = e.fId := by simpa using hk1
    obtain ⟨e1, hA, hB, sA, sB⟩ := cut_at hs hk
    rw [hk1] at hA hB
    have hft : ∀ y, ft (l.take k ++ one e.fId e.fNew ++ l.drop (k + 1)) y = if y = e.fId then e.fNew else ft l y := fun y => by
      rw [mid_ft hA hB [l[k]] (fun u hu => by rw [List.mem_singleton.1 hu]; exact hk1), ← e1]
    rw [fidx_some hf]
  · rw [h1, show ((2 : Int) == 2) = true from rfl, cond_true, W_succ hk (Nat.le_trans hll (by decide)), f_del hk, Option.bind_some]
    refine ⟨_, mid_srt (t := e.fNew) hA hB sA sB hid, hft, ?_⟩
    rw [show one e.fId e.fNew = [] from if_pos h3, List.append_nil]
  · rw [h1, show ((3 : Int) == 2) = false from rfl, show ((3 : Int) == 3) = true from rfl, cond_false, cond_true, idx_nat hk, Int.toNat_natCast]
    refine ⟨_, mid_srt (t := e.fNew) hA hB sA sB hid, hft, ?_⟩
    rw [show one e.fId e.fNew = [⟨e.fId, e.fNew⟩] from if_neg h3, List.set_eq_take_append_cons_drop, if_pos hk, ← hk1, List.append_assoc]
    rfl
end Go.FX
