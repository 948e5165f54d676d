/- The pure part: what the functions compute, in plain Lean, with no program in sight; no condition. -/
import Derived.Test.YtbmeejcmbnjncaaSgPure2
namespace Go.FX
open Go Go.GL Go.RowKit
/-! statutes -/
def smT (l : List DArticle) : Prop := l.length ≤ maxLen ∧ ∀ a ∈ l, a.fText.length ≤ maxLen
def statC (l : List DArticle) (i : Nat) : Bool := match l[i]? with
  | some a => within a.fId 1 99 && sent a.fText && pairAt (fun a b => decide (a.fId < b.fId)) l i
  | none => false
theorem statC_at {l : List DArticle} {i : Nat} (hi : i < l.length) : statC l i = (within l[i].fId 1 99 && sent l[i].fText && pairAt (fun a b => decide (a.fId < b.fId)) l i) := by
  unfold statC
  rw [List.getElem?_eq_getElem hi]
def statOk (l : List DArticle) : Bool := decide (∀ i, i < l.length → statC l i = true) && decide (l.length ≤ 8)
theorem spStat (l : List DArticle) (h : smT l) : F_spec_l07Statute l = some (statOk l) := by
  unfold F_spec_l07Statute statOk
  rw [show decide (l.length ≤ 8) = decide ((l.length : Int) ≤ 8) by rw [decide_eq_decide]; omega]
  refine all_loop (F := F_spec_l07Statute_l1 l) (statC l) (fun f => by rw [F_spec_l07Statute_l1.eq_2, dlt_f (by omega)]; rfl) (fun i f hi => ?_)
  rw [F_spec_l07Statute_l1.eq_2, dlt_t hi, cond_true]
  simp only [idx_nat hi, spIn, spSentence _ (h.2 _ (List.getElem_mem hi)), Option.bind_some, W_succ hi h.1]
  rw [pair_code (R := fun a b => decide (a.fId < b.fId)) hi h.1 (fun x _ => by rw [not_ge]), statC_at hi]
  cases within l[i].fId 1 99 <;> cases sent l[i].fText <;> cases pairAt (fun a b => decide (a.fId < b.fId)) l i <;> rfl
theorem imStat (l : List DArticle) (h : smT l) : F_impl_ValidStatute l = some (statOk l) := by
  unfold F_impl_ValidStatute statOk
  rw [show decide (l.length ≤ 8) = decide ((l.length : Int) ≤ 8) by rw [decide_eq_decide]; omega]
  refine all_loop (F := F_impl_ValidStatute_l1 l) (statC l) (fun f => by rw [F_impl_ValidStatute_l1.eq_2, dlt_f (by omega)]; rfl) (fun i f hi => ?_)
  rw [F_impl_ValidStatute_l1.eq_2, dlt_t hi, cond_true]
  simp only [idx_nat hi, imIn, imSentence _ (h.2 _ (List.getElem_mem hi)), Option.bind_some, W_succ hi h.1]
  rw [pair_code (R := fun a b => decide (a.fId < b.fId)) hi h.1 (fun x _ => by rw [not_ge]), statC_at hi]
  cases within l[i].fId 1 99 <;> cases sent l[i].fText <;> cases pairAt (fun a b => decide (a.fId < b.fId)) l i <;> rfl
theorem smT_to {l : List LArticle} (h : l.length ≤ maxLen ∧ ∀ e ∈ l, ok_LArticle e) : smT (l.map to_LArticle) := by
  refine ⟨by rw [List.length_map]; exact h.1, fun e he => ?_⟩
  obtain ⟨c, hc, rfl⟩ := List.mem_map.1 he
  exact (h.2 c hc).2
def ft (l : List DArticle) (id : Int) : Bytes := ((l.find? fun a => a.fId == id).map DArticle.fText).getD []
theorem spFind (l : List DArticle) (id : Int) (hl : l.length ≤ maxLen) : F_spec_l07Find l id = some (ft l id) :=
  find_loop (l := l) (F := F_spec_l07Find_l1 l id) (p := fun a => a.fId == id) (g := DArticle.fText) (z := []) (fun _ _ => rfl) hl
theorem imArticle (l : List DArticle) (id : Int) (hl : l.length ≤ maxLen) : F_impl_article l id = some (fidx (fun a : DArticle => a.fId == id) l) := by
  unfold F_impl_article
  have h : F_slices_IndexFunc_impl_Article_impl_Article__impl_article_1 l id = some (fidx (fun a : DArticle => a.fId == id) l) :=
    idxf_loop (F := F_slices_IndexFunc_impl_Article_impl_Article__impl_article_1_l1 l id) (P := fun x => F_impl_article_1 x id) _ (fun _ _ => rfl) hl (fun _ _ => rfl)
  rw [h, Option.bind_some]
theorem imTextOf (l : List DArticle) (id : Int) (hl : l.length ≤ maxLen) : F_impl_textOf l id = some (ft l id) := by
  unfold F_impl_textOf
  rw [imArticle l id hl, Option.bind_some]
  cases hf : l.findIdx? fun a => a.fId == id with
  | none => rw [fidx_none hf]; unfold ft; rw [find_none hf]; rfl
  | some i =>
    rw [fidx_some hf, decide_eq_true (by omega), cond_true]
    obtain ⟨x, e1, e2⟩ := find_at hf (fun x : DArticle => some x.fText)
    rw [e2]; unfold ft; rw [e1]; rfl
/-! acts in force -/
def smAs (l : List DAct) : Prop := l.length ≤ maxLen ∧ ∀ a ∈ l, smA a
theorem acts_len {l : List DAct} (h : actsOk l = true) : l.length ≤ 8 := by
  unfold actsOk at h
  rw [Bool.and_eq_true, decide_eq_true_eq, decide_eq_true_eq] at h
  exact h.2
def forceC (l : List DAct) (day : Int) (i : Nat) : Bool := match l[i]? with
  | some a => decide (a.fFrom ≤ day) && decide (day < a.fUntil)
  | none => false
theorem forceC_at {l : List DAct} {day : Int} {i : Nat} (hi : i < l.length) : forceC l day i = (decide (l[i].fFrom ≤ day) && decide (day < l[i].fUntil)) := by
  unfold forceC
  rw [List.getElem?_eq_getElem hi]
theorem spForce (l : List DAct) (day : Int) (hl : l.length ≤ 8) : F_spec_l07Force l day = some (lst l.length (forceC l day)) := by
  refine st_loop (n := l.length) (F := F_spec_l07Force_l1 l day) (fun i => lst i (forceC l day)) (fun f => ?_) (fun i f hi => ?_) (m := l.length + 1) (by omega)
  · rw [F_spec_l07Force_l1.eq_2, dlt_f (by omega), cond_false]
  · rw [F_spec_l07Force_l1.eq_2, dlt_t hi, cond_true, idx_nat hi, idx_nat hi, W_succ hi (by unfold maxLen; omega), lst_succ]
    rw [forceC_at hi]
    have := lst_len (n := i) (p := forceC l day)
    cases decide (l[i].fFrom ≤ day) <;> cases decide (day < l[i].fUntil) <;> first | rfl | exact app_ok (l := lst i (forceC l day)) (m := [(i : Int)]) (k := fun _ => F_spec_l07Force_l1 l day f (lst i (forceC l day) ++ [(i : Int)]) ((i + 1 : Nat) : Int)) (by simp; omega)
theorem imForce (l : List DAct) (day : Int) (hl : l.length ≤ 8) : F_impl_inForce l day = some (lst l.length (forceC l day)) := by
  refine st_loop (n := l.length) (F := F_impl_inForce_l1 l day) (fun i => lst i (forceC l day)) (fun f => ?_) (fun i f hi => ?_) (m := l.length + 1) (by omega)
  · rw [F_impl_inForce_l1.eq_2, dlt_f (by omega), cond_false]
  · rw [F_impl_inForce_l1.eq_2, dlt_t hi, cond_true, idx_nat hi, W_succ hi (by unfold maxLen; omega), lst_succ]
    rw [forceC_at hi]
    have := lst_len (n := i) (p := forceC l day)
    cases decide (l[i].fFrom ≤ day) <;> cases decide (day < l[i].fUntil) <;> first | rfl | exact app_ok (l := lst i (forceC l day)) (m := [(i : Int)]) (k := fun _ => F_impl_inForce_l1 l day f (lst i (forceC l day) ++ [(i : Int)]) ((i + 1 : Nat) : Int)) (by simp; omega)
end Go.FX
