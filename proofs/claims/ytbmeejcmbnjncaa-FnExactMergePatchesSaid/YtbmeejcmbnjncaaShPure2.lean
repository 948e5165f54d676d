/- The pure part: what the functions compute, in plain Lean, with no program in sight; no condition. -/
import Derived.Test.YtbmeejcmbnjncaaShPure1
namespace Go.FX
open Go Go.GL Go.RowKit
/-! steps, finds -/
def fe (p : List DEdit) (id : Int) : Option DEdit := p.find? fun e => e.fId == id
def noE : DEdit := ⟨0, 0, [], []⟩
theorem find_at {α β : Type} {l : List α} {p : α → Bool} {i : Nat} (h : l.findIdx? p = some i) (k : α → Option β) : ∃ x, l.find? p = some x ∧ idx l (i : Int) k = k x := by
  obtain ⟨hi, hp, hn⟩ := List.findIdx?_eq_some_iff_getElem.1 h
  refine ⟨l[i], ?_, idx_nat hi⟩
  rw [List.find?_eq_some_iff_getElem]
  exact ⟨hp, i, hi, rfl, fun j hj => by simpa using hn j hj⟩
theorem find_none {α : Type} {l : List α} {p : α → Bool} (h : l.findIdx? p = none) : l.find? p = none := by
  rw [List.find?_eq_none]
  rw [List.findIdx?_eq_none_iff] at h
  intro x hx
  rw [h x hx]; decide
theorem find_loop {α β : Type} {l : List α} {F : Nat → Int → Option β} {p : α → Bool} {g : α → β} {z : β}
    (hF : ∀ f i, F (f + 1) i = bif decide (i < (l.length : Int)) then idx l i (fun x => bif p x then idx l i (fun y => some (g y)) else F f (IntKind.i64.wrap (i + 1))) else some z)
    (hl : l.length ≤ maxLen) : F (l.length + 1) 0 = some (((l.find? p).map g).getD z) := by
  have key : ∀ k i f, i + k = l.length → k < f → F f (i : Int) = some ((((l.drop i).find? p).map g).getD z) := by
    refine up (P := fun i f => F f (i : Int) = some ((((l.drop i).find? p).map g).getD z)) (fun f => ?_) (fun i f hi ih => ?_)
    · rw [hF, dlt_f (by omega), List.drop_of_length_le (by omega)]; rfl
    · rw [hF, dlt_t hi, cond_true, idx_nat hi, idx_nat hi, W_succ hi hl, ih, List.drop_eq_getElem_cons hi, List.find?_cons]
      cases p l[i] <;> rfl
  have := key l.length 0 (l.length + 1) (by omega) (by omega)
  rw [List.drop_zero] at this
  exact this
theorem spEditOf (p : List DEdit) (id : Int) (hl : p.length ≤ maxLen) : F_spec_l07EditOf p id = some ((fe p id).getD noE) := by
  have := find_loop (l := p) (F := F_spec_l07EditOf_l1 p id) (p := fun e => e.fId == id) (g := fun e => e) (z := noE) (fun _ _ => rfl) hl
  rw [Option.map_id'] at this
  exact this
def isE (o : Option DEdit) : DEdit × Bool := match o with | some e => (e, true) | none => (noE, false)
theorem imEditOf (p : List DEdit) (id : Int) (hl : p.length ≤ maxLen) : F_impl_editOf p id = some (isE (fe p id)) := by
  unfold F_impl_editOf
  have h : F_slices_IndexFunc_impl_Edit_impl_Edit__impl_editOf_1 p id = some (fidx (fun e : DEdit => e.fId == id) p) :=
    idxf_loop (F := F_slices_IndexFunc_impl_Edit_impl_Edit__impl_editOf_1_l1 p id) (P := fun x => F_impl_editOf_1 x id) _ (fun _ _ => rfl) hl (fun _ _ => rfl)
  rw [h, Option.bind_some]
  cases hf : p.findIdx? fun e => e.fId == id with
  | none => rw [fidx_none hf]; unfold fe; rw [find_none hf]; rfl
  | some i =>
    rw [fidx_some hf, decide_eq_false (by omega), cond_false]
    obtain ⟨x, e1, e2⟩ := find_at hf (fun x => some (x, true))
    rw [e2]; unfold fe; rw [e1]; rfl
/-! valid patches -/
theorem pat_len {l : List DEdit} (h : patchOk l = true) : l.length ≤ 16 := by
  unfold patchOk at h
  rw [Bool.and_eq_true, decide_eq_true_eq, decide_eq_true_eq] at h
  exact h.2
theorem pat_ok {l : List DEdit} (h : patchOk l = true) {e : DEdit} (he : e ∈ l) : 1 ≤ e.fId ∧ e.fId ≤ 99 ∧ editOk e = true := by
  unfold patchOk at h
  rw [Bool.and_eq_true, decide_eq_true_eq] at h
  obtain ⟨i, hi, rfl⟩ := List.getElem_of_mem he
  have := h.1 i hi
  rw [patchC_at hi, Bool.and_eq_true, Bool.and_eq_true] at this
  obtain ⟨⟨h1, h2⟩, -⟩ := this
  unfold within at h1
  rw [Bool.and_eq_true, decide_eq_true_eq, decide_eq_true_eq] at h1
  exact ⟨h1.1, h1.2, h2⟩
theorem sent_ne {t : Bytes} (h : sent t = true) : t ≠ [] := by
  rintro rfl
  exact absurd h (by decide)
theorem edit_kind {e : DEdit} (h : editOk e = true) : e.fKind ≠ 0 ∧ e.fNew ≠ e.fOld := by
  unfold editOk at h
  by_cases h1 : e.fKind = 1
  · rw [h1] at h ⊢
    simp only [beq_self_eq_true, cond_true, Bool.and_eq_true, beq_iff_eq] at h
    exact ⟨by decide, by rw [h.1]; exact sent_ne h.2⟩
  · rw [beq_eq_false_iff_ne.2 h1, cond_false] at h
    by_cases h2 : e.fKind = 2
    · rw [h2] at h ⊢
      simp only [beq_self_eq_true, cond_true, Bool.and_eq_true, beq_iff_eq] at h
      exact ⟨by decide, by rw [h.2]; exact fun x => sent_ne h.1 x.symm⟩
    · rw [beq_eq_false_iff_ne.2 h2, cond_false] at h
      by_cases h3 : e.fKind = 3
      · rw [h3] at h ⊢
        simp only [beq_self_eq_true, cond_true, Bool.and_eq_true, bne_iff_ne, ne_eq] at h
        exact ⟨by decide, fun x => h.2 x.symm⟩
      · rw [beq_eq_false_iff_ne.2 h3, cond_false] at h; cases h
theorem fe_mem {p : List DEdit} {id : Int} {e : DEdit} (h : fe p id = some e) : e ∈ p ∧ e.fId = id := by
  unfold fe at h
  exact ⟨List.mem_of_find?_eq_some h, by simpa using List.find?_some h⟩
theorem fe_kind {p : List DEdit} (hp : patchOk p = true) {id : Int} : (((fe p id).getD noE).fKind != 0) = (fe p id).isSome := by
  cases h : fe p id with
  | none => rfl
  | some e => exact bne_t (edit_kind (pat_ok hp (fe_mem h).1).2.2).1
/-! inverse patches -/
def smP (p : List DEdit) : Prop := p.length ≤ maxLen ∧ ∀ e ∈ p, smE e
/-! conflicts -/
/-! composed patches -/
end Go.FX
