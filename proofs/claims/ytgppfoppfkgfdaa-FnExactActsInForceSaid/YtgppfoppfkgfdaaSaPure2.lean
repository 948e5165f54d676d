/- The pure part: what the functions compute, in plain Lean, with no program in sight; no condition. -/
import Derived.Test.YtgppfoppfkgfdaaSaPure1
namespace Go.FX
open Go Go.GL Go.RowKit
/-! steps, finds -/
def stp (id : Int) (a b : Bytes) : DEdit := if a = b then ⟨0, 0, [], []⟩ else if a = [] then ⟨1, id, a, b⟩ else if b = [] then ⟨2, id, a, b⟩ else ⟨3, id, a, b⟩
def edl (id : Int) (a b : Bytes) : List DEdit := if a = b then [] else [stp id a b]
theorem bif_beq {β : Type} {a b : Bytes} {x y : β} : (bif a == b then x else y) = if a = b then x else y := by
  by_cases h : a = b
  · rw [if_pos h, h, beq_self_eq_true]; rfl
  · rw [if_neg h, beq_eq_false_iff_ne.2 h]; rfl
theorem spStep (id : Int) (a b : Bytes) : F_spec_l07Step id a b = some (stp id a b) := by
  unfold F_spec_l07Step stp
  rw [bif_beq, bif_beq, bif_beq]
  by_cases h : a = b
  · rw [if_pos h, if_pos h]
  · rw [if_neg h, if_neg h]
    by_cases h1 : a = []
    · rw [if_pos h1, if_pos h1]
    · rw [if_neg h1, if_neg h1]
      by_cases h2 : b = []
      · rw [if_pos h2, if_pos h2]
      · rw [if_neg h2, if_neg h2]
theorem imStep (id : Int) (a b : Bytes) : F_impl_edit id a b = some (edl id a b) := by
  unfold F_impl_edit edl stp
  rw [bif_beq, bif_beq, bif_beq]
  by_cases h : a = b
  · rw [if_pos h, if_pos h]
  · rw [if_neg h, if_neg h, if_neg h]
    by_cases h1 : a = []
    · rw [if_pos h1, if_pos h1, h1]
    · rw [if_neg h1, if_neg h1]
      by_cases h2 : b = []
      · rw [if_pos h2, if_pos h2, h2]
      · rw [if_neg h2, if_neg h2]
theorem stp_kind (id : Int) (a b : Bytes) : ((stp id a b).fKind != 0) = !decide (a = b) := by
  unfold stp
  by_cases h : a = b
  · rw [if_pos h, decide_eq_true h]; rfl
  · rw [if_neg h, decide_eq_false h]
    split
    · rfl
    · split <;> rfl
theorem edl_len (id : Int) (a b : Bytes) : (edl id a b).length ≤ 1 := by unfold edl; split <;> simp
theorem edl_eq (id : Int) (a b : Bytes) : edl id a b = if ((stp id a b).fKind != 0) = true then [stp id a b] else [] := by
  rw [stp_kind]
  unfold edl
  by_cases h : a = b
  · rw [if_pos h, decide_eq_true h]; rfl
  · rw [if_neg h, decide_eq_false h]; rfl
def fe (p : List DEdit) (id : Int) : Option DEdit := p.find? fun e => e.fId == id
def noE : DEdit := ⟨0, 0, [], []⟩
theorem find_at {α β : Type} {l : List α} {p : α → Bool} {i : Nat} (h : l.findIdx? p = some i) (k : α → Option β) : ∃ x, l.find? p = some x ∧ idx l (i : Int) k = k x := by
  obtain ⟨hi, hp, hn⟩ := List.findIdx?_eq_some_iff_getElem.1 h
  refine ⟨l[i], ?_, idx_nat hi⟩
  rw [List.find?_eq_some_iff_getElem]
  exact ⟨hp, i, hi, rfl, fun j hj => by simpa using hn j hj⟩
theorem find_none {α : Type} {l : List α} {p : α → Bool} (h : l.findIdx? p = none) : l.find? p = none := by
  rw [List.find?_eq_none]
  rw [List.findIdx?_eq_none_iff] at h
  intro x hx
  rw [h x hx]; decide
theorem find_loop {α β : Type} {l : List α} {F : Nat → Int → Option β} {p : α → Bool} {g : α → β} {z : β}
    (hF : ∀ f i, F (f + 1) i = bif decide (i < (l.length : Int)) then idx l i (fun x => bif p x then idx l i (fun y => some (g y)) else F f (IntKind.i64.wrap (i + 1))) else some z)
    (hl : l.length ≤ maxLen) : F (l.length + 1) 0 = some (((l.find? p).map g).getD z) := by
  have key : ∀ k i f, i + k = l.length → k < f → F f (i : Int) = some ((((l.drop i).find? p).map g).getD z) := by
    refine up (P := fun i f => F f (i : Int) = some ((((l.drop i).find? p).map g).getD z)) (fun f => ?_) (fun i f hi ih => ?_)
    · rw [hF, dlt_f (by omega), List.drop_of_length_le (by omega)]; rfl
    · rw [hF, dlt_t hi, cond_true, idx_nat hi, idx_nat hi, W_succ hi hl, ih, List.drop_eq_getElem_cons hi, List.find?_cons]
      cases p l[i] <;> rfl
  have := key l.length 0 (l.length + 1) (by omega) (by omega)
  rw [List.drop_zero] at this
  exact this
theorem spEditOf (p : List DEdit) (id : Int) (hl : p.length ≤ maxLen) : F_spec_l07EditOf p id = some ((fe p id).getD noE) := by
  have := find_loop (l := p) (F := F_spec_l07EditOf_l1 p id) (p := fun e => e.fId == id) (g := fun e => e) (z := noE) (fun _ _ => rfl) hl
  rw [Option.map_id'] at this
  exact this
def isE (o : Option DEdit) : DEdit × Bool := match o with | some e => (e, true) | none => (noE, false)
theorem imEditOf (p : List DEdit) (id : Int) (hl : p.length ≤ maxLen) : F_impl_editOf p id = some (isE (fe p id)) := by
  unfold F_impl_editOf
  have h : F_slices_IndexFunc_impl_Edit_impl_Edit__impl_editOf_1 p id = some (fidx (fun e : DEdit => e.fId == id) p) :=
    idxf_loop (F := F_slices_IndexFunc_impl_Edit_impl_Edit__impl_editOf_1_l1 p id) (P := fun x => F_impl_editOf_1 x id) _ (fun _ _ => rfl) hl (fun _ _ => rfl)
  rw [h, Option.bind_some]
  cases hf : p.findIdx? fun e => e.fId == id with
  | none => rw [fidx_none hf]; unfold fe; rw [find_none hf]; rfl
  | some i =>
    rw [fidx_some hf, decide_eq_false (by omega), cond_false]
    obtain ⟨x, e1, e2⟩ := find_at hf (fun x => some (x, true))
    rw [e2]; unfold fe; rw [e1]; rfl
/-! valid patches -/
theorem pat_len {l : List DEdit} (h : patchOk l = true) : l.length ≤ 16 := by
  unfold patchOk at h
  rw [Bool.and_eq_true, decide_eq_true_eq, decide_eq_true_eq] at h
  exact h.2
theorem pat_ok {l : List DEdit} (h : patchOk l = true) {e : DEdit} (he : e ∈ l) : 1 ≤ e.fId ∧ e.fId ≤ 99 ∧ editOk e = true := by
  unfold patchOk at h
  rw [Bool.and_eq_true, decide_eq_true_eq] at h
  obtain ⟨i, hi, rfl⟩ := List.getElem_of_mem he
  have := h.1 i hi
  rw [patchC_at hi, Bool.and_eq_true, Bool.and_eq_true] at this
  obtain ⟨⟨h1, h2⟩, -⟩ := this
  unfold within at h1
  rw [Bool.and_eq_true, decide_eq_true_eq, decide_eq_true_eq] at h1
  exact ⟨h1.1, h1.2, h2⟩
theorem sent_ne {t : Bytes} (h : sent t = true) : t ≠ [] := by
  rintro rfl
  exact absurd h (by decide)
theorem edit_kind {e : DEdit} (h : editOk e = true) : e.fKind ≠ 0 ∧ e.fNew ≠ e.fOld := by
  unfold editOk at h
  by_cases h1 : e.fKind = 1
  · rw [h1] at h ⊢
    simp only [beq_self_eq_true, cond_true, Bool.and_eq_true, beq_iff_eq] at h
    exact ⟨by decide, by rw [h.1]; exact sent_ne h.2⟩
  · rw [beq_eq_false_iff_ne.2 h1, cond_false] at h
    by_cases h2 : e.fKind = 2
    · rw [h2] at h ⊢
      simp only [beq_self_eq_true, cond_true, Bool.and_eq_true, beq_iff_eq] at h
      exact ⟨by decide, by rw [h.2]; exact fun x => sent_ne h.1 x.symm⟩
    · rw [beq_eq_false_iff_ne.2 h2, cond_false] at h
      by_cases h3 : e.fKind = 3
      · rw [h3] at h ⊢
        simp only [beq_self_eq_true, cond_true, Bool.and_eq_true, bne_iff_ne, ne_eq] at h
        exact ⟨by decide, fun x => h.2 x.symm⟩
      · rw [beq_eq_false_iff_ne.2 h3, cond_false] at h; cases h
theorem fe_mem {p : List DEdit} {id : Int} {e : DEdit} (h : fe p id = some e) : e ∈ p ∧ e.fId = id := by
  unfold fe at h
  exact ⟨List.mem_of_find?_eq_some h, by simpa using List.find?_some h⟩
theorem fe_kind {p : List DEdit} (hp : patchOk p = true) {id : Int} : (((fe p id).getD noE).fKind != 0) = (fe p id).isSome := by
  cases h : fe p id with
  | none => rfl
  | some e => exact bne_t (edit_kind (pat_ok hp (fe_mem h).1).2.2).1
/-! inverse patches -/
theorem inv_loop (p : List DEdit) (hp : patchOk p = true) : ∃ r : List DEdit, F_spec_l07Inverse p = some r ∧ F_impl_InversePatch_l1 p (p.length + 1) [] 0 = some (r, true) ∧ r.length ≤ 16 := by
  have hl := pat_len hp
  have h1 := app_loop (n := p.length) (b := 1) (F := F_spec_l07Inverse_l1 p) (fun i => match p[i]? with | some e => [stp e.fId e.fNew e.fOld] | none => []) some 0 (fun i _ => by split <;> simp) (fun f acc => ?_) (fun f acc i hi ha => ?_) (m := p.length + 1) (acc := []) (by omega) (Nat.le_refl _)
  · have h2 := app_loop (n := p.length) (b := 1) (F := F_impl_InversePatch_l1 p) (fun i => match p[i]? with | some e => [stp e.fId e.fNew e.fOld] | none => []) (fun r => some (r, true)) 0 (fun i _ => by split <;> simp) (fun f acc => ?_) (fun f acc i hi ha => ?_) (m := p.length + 1) (acc := []) (by omega) (Nat.le_refl _)
    · refine ⟨_, h1, h2, ?_⟩
      rw [List.nil_append]
      have : ∀ n, ((List.range n).flatMap fun i => match p[i]? with | some e => [stp e.fId e.fNew e.fOld] | none => []).length ≤ n := by
        intro n
        induction n with
        | zero => simp
        | succ n ih =>
          rw [List.range_succ, List.flatMap_append, List.length_append]
          have : (List.flatMap (fun i => match p[i]? with | some e => [stp e.fId e.fNew e.fOld] | none => []) [n]).length ≤ 1 := by
            simp only [List.flatMap_cons, List.flatMap_nil, List.append_nil]
            split <;> simp
          omega
      exact Nat.le_trans (this _) hl
    · rw [F_impl_InversePatch_l1.eq_2, dlt_f (by omega), cond_false]
    · rw [F_impl_InversePatch_l1.eq_2, dlt_t hi, cond_true, idx_nat hi, imStep, Option.bind_some, W_succ hi (by unfold maxLen; omega), List.getElem?_eq_getElem hi]
      have := (edit_kind (pat_ok hp (List.getElem_mem hi)).2.2).2
      rw [show edl p[i].fId p[i].fNew p[i].fOld = [stp p[i].fId p[i].fNew p[i].fOld] from if_neg this, app_ok (by simp; omega)]
  · rw [F_spec_l07Inverse_l1.eq_2, dlt_f (by omega), cond_false]
  · rw [F_spec_l07Inverse_l1.eq_2, dlt_t hi, cond_true, idx_nat hi, idx_nat hi, idx_nat hi, spStep, Option.bind_some, W_succ hi (by unfold maxLen; omega), List.getElem?_eq_getElem hi, app_ok (by simp; omega)]
def smP (p : List DEdit) : Prop := p.length ≤ maxLen ∧ ∀ e ∈ p, smE e
theorem eqInverse (p : List DEdit) (h : smP p) : ∃ r, F_spec_InversePatch p = some r ∧ F_impl_InversePatch p = some r ∧ r.1.length ≤ 1048576 := by
  unfold F_spec_InversePatch F_impl_InversePatch
  rw [spPatch p h.1 h.2, imPatch p h.1 h.2, Option.bind_some, Option.bind_some]
  cases hp : patchOk p with
  | false => exact ⟨([], false), rfl, rfl, by simp⟩
  | true =>
    obtain ⟨r, e1, e2, e3⟩ := inv_loop p hp
    rw [e1, e2]
    exact ⟨_, rfl, rfl, by dsimp only; omega⟩
/-! conflicts -/
theorem conf_loop (p q : List DEdit) (hp : p.length ≤ 16) (hq : patchOk q = true) : ∃ r : List Int, F_spec_l07Conflicts p q = some r ∧ F_impl_conflicts p q = some r ∧ r.length ≤ 16 := by
  have hq2 : q.length ≤ maxLen := by have := pat_len hq; unfold maxLen; omega
  have key := up (n := p.length) (P := fun i f => ∀ acc : List Int, acc.length ≤ i → ∃ r : List Int, F_spec_l07Conflicts_l1 p q f acc (i : Int) = some r ∧ F_impl_conflicts_l1 p q f acc (i : Int) = some r ∧ r.length ≤ p.length) (fun f acc ha => ?_) (fun i f hi ih acc ha => ?_) p.length 0 (p.length + 1) (by omega) (by omega) [] (by simp)
  · obtain ⟨r, e1, e2, e3⟩ := key
    exact ⟨r, e1, e2, by omega⟩
  · rw [F_spec_l07Conflicts_l1.eq_2, F_impl_conflicts_l1.eq_2, dlt_f (by omega)]
    exact ⟨acc, rfl, rfl, by omega⟩
  · rw [F_spec_l07Conflicts_l1.eq_2, F_impl_conflicts_l1.eq_2, dlt_t hi]
    simp only [cond_true, idx_nat hi, spEditOf q _ hq2, imEditOf q _ hq2, Option.bind_some, W_succ hi (show p.length ≤ maxLen by unfold maxLen; omega), fe_kind hq]
    cases hf : fe q p[i].fId with
    | none => exact ih acc (by omega)
    | some e =>
      have e1 : (p[i] != (DEdit.mk (isE (some e)).1.fKind (isE (some e)).1.fId (isE (some e)).1.fOld (isE (some e)).1.fNew)) = (e != p[i]) := by
        show (p[i] != e) = (e != p[i])
        rw [bne_comm]
      rw [e1]
      simp only [Option.isSome_some, cond_true, Option.bind_some, isE, Bool.true_and, Option.getD_some]
      cases e != p[i] with
      | false => exact ih acc (by omega)
      | true =>
        rw [cond_true, cond_true, app_ok (by simp; omega), app_ok (by simp; omega)]
        exact ih _ (by simp; omega)
theorem eqConf (p q : List DEdit) (h1 : smP p) (h2 : smP q) : ∃ r, F_spec_ConflictsOf p q = some r ∧ F_impl_ConflictsOf p q = some r ∧ r.1.length ≤ 1048576 := by
  unfold F_spec_ConflictsOf F_impl_ConflictsOf
  rw [spPatch p h1.1 h1.2, imPatch p h1.1 h1.2, spPatch q h2.1 h2.2, imPatch q h2.1 h2.2, Option.bind_some, Option.bind_some]
  cases hp : patchOk p with
  | false => exact ⟨([], false), rfl, rfl, by simp⟩
  | true =>
    cases hq : patchOk q with
    | false => exact ⟨([], false), rfl, rfl, by simp⟩
    | true =>
      obtain ⟨r, e1, e2, e3⟩ := conf_loop p q (pat_len hp) hq
      rw [e1, e2]
      exact ⟨_, rfl, rfl, by dsimp only; omega⟩
/-! composed patches -/
theorem comp_loop (p q : List DEdit) (hp : patchOk p = true) (hq : patchOk q = true) : ∃ r : List DEdit × Bool, F_spec_ComposePatches_l1 p q 100 [] 1 = some r ∧ F_impl_ComposePatches_l1 p q 100 [] 1 = some r ∧ r.1.length ≤ 99 := by
  have hp2 : p.length ≤ maxLen := by have := pat_len hp; unfold maxLen; omega
  have hq2 : q.length ≤ maxLen := by have := pat_len hq; unfold maxLen; omega
  refine up (n := 99) (P := fun i f => ∀ acc : List DEdit, acc.length ≤ i → ∃ r : List DEdit × Bool, F_spec_ComposePatches_l1 p q f acc ((i + 1 : Nat) : Int) = some r ∧ F_impl_ComposePatches_l1 p q f acc ((i + 1 : Nat) : Int) = some r ∧ r.1.length ≤ 99) (fun f acc ha => ?_) (fun i f hi ih acc ha => ?_) 99 0 100 (by omega) (by omega) [] (by simp)
  · rw [F_spec_ComposePatches_l1.eq_2, F_impl_ComposePatches_l1.eq_2, decide_eq_false (by omega)]
    cases decide ((acc.length : Int) > 16)
    · exact ⟨(acc, true), rfl, rfl, ha⟩
    · exact ⟨([], false), rfl, rfl, by simp⟩
  · rw [F_spec_ComposePatches_l1.eq_2, F_impl_ComposePatches_l1.eq_2, decide_eq_true (show ((i + 1 : Nat) : Int) ≤ 99 by omega)]
    have hw : IntKind.i64.wrap (((i + 1 : Nat) : Int) + 1) = ((i + 1 + 1 : Nat) : Int) := W_succ (n := 1000) (by omega) (by decide)
    simp only [cond_true, spEditOf p _ hp2, imEditOf p _ hp2, spEditOf q _ hq2, imEditOf q _ hq2, Option.bind_some, hw, fe_kind hp, fe_kind hq, spStep, imStep, stp_kind]
    cases hd : fe p ((i + 1 : Nat) : Int) with
    | none =>
      cases he : fe q ((i + 1 : Nat) : Int) with
      | none =>
        simp only [Option.isSome_none, Bool.false_and, cond_false, isE, Option.getD_none]
        rw [show (noE.fKind == 0) = true from rfl, cond_true]
        exact ih acc (by omega)
      | some e =>
        have hk := (edit_kind (pat_ok hq (fe_mem he).1).2.2).1
        simp only [Option.isSome_none, Option.isSome_some, Bool.false_and, cond_false, isE, Option.getD_some]
        rw [beq_eq_false_iff_ne.2 hk, cond_false, cond_true, cond_true, app_ok (by simp; omega), app_ok (by simp; omega)]
        exact ih _ (by simp; omega)
    | some d =>
      cases he : fe q ((i + 1 : Nat) : Int) with
      | none =>
        simp only [Option.isSome_none, Option.isSome_some, Bool.and_false, Bool.false_and, cond_false, cond_true, isE, Option.getD_none, Option.getD_some]
        rw [show (noE.fKind == 0) = true from rfl, cond_true, app_ok (by simp; omega), app_ok (by simp; omega)]
        exact ih _ (by simp; omega)
      | some e =>
        simp only [Option.isSome_some, Bool.true_and, Bool.and_true, cond_true, isE, Option.getD_some]
        cases (d.fNew : Bytes) != e.fOld with
        | true => exact ⟨([], false), rfl, rfl, by simp⟩
        | false =>
          simp only [cond_false]
          unfold edl
          by_cases hs : d.fOld = e.fNew
          · rw [decide_eq_true hs, if_pos hs, Bool.not_true, cond_false, app_ok (by simp; omega), List.append_nil]
            exact ih acc (by omega)
          · rw [decide_eq_false hs, if_neg hs, app_ok (by simp; omega), Bool.not_false, cond_true, app_ok (by simp; omega)]
            exact ih _ (by simp; omega)
theorem eqComp (p q : List DEdit) (h1 : smP p) (h2 : smP q) : ∃ r, F_spec_ComposePatches p q = some r ∧ F_impl_ComposePatches p q = some r ∧ r.1.length ≤ 1048576 := by
  unfold F_spec_ComposePatches F_impl_ComposePatches
  rw [spPatch p h1.1 h1.2, imPatch p h1.1 h1.2, spPatch q h2.1 h2.2, imPatch q h2.1 h2.2, Option.bind_some, Option.bind_some]
  cases hp : patchOk p with
  | false => exact ⟨([], false), rfl, rfl, by simp⟩
  | true =>
    cases hq : patchOk q with
    | false => exact ⟨([], false), rfl, rfl, by simp⟩
    | true =>
      obtain ⟨r, e1, e2, e3⟩ := comp_loop p q hp hq
      rw [show Int.toNat (99 - 1) + 2 = 100 from rfl, e1, e2]
      exact ⟨_, rfl, rfl, by omega⟩
end Go.FX
