/- The pure part: what the functions compute, in plain Lean, with no program in sight; no condition. -/
import Derived.Test.YtnjfgdadnbekpaaDoorTtPure2
namespace Go.FX
open Go Go.GL Go.RowKit
/-! statutes -/
def smT (l : List DArticle) : Prop := l.length ≤ maxLen ∧ ∀ a ∈ l, a.fText.length ≤ maxLen
def statC (l : List DArticle) (i : Nat) : Bool := match l[i]? with
  | some a => within a.fId 1 99 && sent a.fText && pairAt (fun a b => decide (a.fId < b.fId)) l i
  | none => false
theorem statC_at {l : List DArticle} {i : Nat} (hi : i < l.length) : statC l i = (within l[i].fId 1 99 && sent l[i].fText && pairAt (fun a b => decide (a.fId < b.fId)) l i) := by
  unfold statC
  rw [List.getElem?_eq_getElem hi]
def statOk (l : List DArticle) : Bool := decide (∀ i, i < l.length → statC l i = true) && decide (l.length ≤ 8)
theorem spStat (l : List DArticle) (h : smT l) : F_spec_l07Statute l = some (statOk l) := by
  unfold F_spec_l07Statute statOk
  rw [show decide (l.length ≤ 8) = decide ((l.length : Int) ≤ 8) by rw [decide_eq_decide]; omega]
  refine all_loop (F := F_spec_l07Statute_l1 l) (statC l) (fun f => by rw [F_spec_l07Statute_l1.eq_2, dlt_f (by omega)]; rfl) (fun i f hi => ?_)
  rw [F_spec_l07Statute_l1.eq_2, dlt_t hi, cond_true]
  simp only [idx_nat hi, spIn, spSentence _ (h.2 _ (List.getElem_mem hi)), Option.bind_some, W_succ hi h.1]
  rw [pair_code (R := fun a b => decide (a.fId < b.fId)) hi h.1 (fun x _ => by rw [not_ge]), statC_at hi]
  cases within l[i].fId 1 99 <;> cases sent l[i].fText <;> cases pairAt (fun a b => decide (a.fId < b.fId)) l i <;> rfl
theorem imStat (l : List DArticle) (h : smT l) : F_impl_ValidStatute l = some (statOk l) := by
  unfold F_impl_ValidStatute statOk
  rw [show decide (l.length ≤ 8) = decide ((l.length : Int) ≤ 8) by rw [decide_eq_decide]; omega]
  refine all_loop (F := F_impl_ValidStatute_l1 l) (statC l) (fun f => by rw [F_impl_ValidStatute_l1.eq_2, dlt_f (by omega)]; rfl) (fun i f hi => ?_)
  rw [F_impl_ValidStatute_l1.eq_2, dlt_t hi, cond_true]
  simp only [idx_nat hi, imIn, imSentence _ (h.2 _ (List.getElem_mem hi)), Option.bind_some, W_succ hi h.1]
  rw [pair_code (R := fun a b => decide (a.fId < b.fId)) hi h.1 (fun x _ => by rw [not_ge]), statC_at hi]
  cases within l[i].fId 1 99 <;> cases sent l[i].fText <;> cases pairAt (fun a b => decide (a.fId < b.fId)) l i <;> rfl
/-! acts in force -/
end Go.FX
