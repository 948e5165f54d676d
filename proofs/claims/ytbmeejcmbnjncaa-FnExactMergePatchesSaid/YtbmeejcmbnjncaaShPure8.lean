/- The pure part: what the functions compute, in plain Lean, with no program in sight; no condition. -/
import Derived.Test.YtbmeejcmbnjncaaShPure7
namespace Go.FX
open Go Go.GL Go.RowKit
/-! a patch behind another -/
def cfree (q : List DEdit) (a : DEdit) : Prop := ∀ e, fe q a.fId = some e → e = a
theorem conf2 (p q : List DEdit) (hp : p.length ≤ 16) (hq : patchOk q = true) : ∃ r : List Int, F_spec_l07Conflicts p q = some r ∧ F_impl_conflicts p q = some r ∧ r.length ≤ 16 ∧ (r = [] → ∀ a ∈ p, cfree q a) := by
  have hq2 : q.length ≤ maxLen := by have := pat_len hq; unfold maxLen; omega
  have key := up (n := p.length) (P := fun i f => ∀ acc : List Int, acc.length ≤ i → ∃ r : List Int, F_spec_l07Conflicts_l1 p q f acc (i : Int) = some r ∧ F_impl_conflicts_l1 p q f acc (i : Int) = some r ∧ r.length ≤ p.length ∧ (r = [] → acc = [] ∧ ∀ a ∈ p.drop i, cfree q a)) (fun f acc ha => ?_) (fun i f hi ih acc ha => ?_) p.length 0 (p.length + 1) (by omega) (by omega) [] (by simp)
  · obtain ⟨r, e1, e2, e3, e4⟩ := key
    exact ⟨r, e1, e2, by omega, fun h => by simpa using (e4 h).2⟩
  · rw [F_spec_l07Conflicts_l1.eq_2, F_impl_conflicts_l1.eq_2, dlt_f (by omega)]
    exact ⟨acc, rfl, rfl, by omega, fun h => ⟨h, by simp⟩⟩
  · rw [F_spec_l07Conflicts_l1.eq_2, F_impl_conflicts_l1.eq_2, dlt_t hi]
    simp only [cond_true, idx_nat hi, spEditOf q _ hq2, imEditOf q _ hq2, Option.bind_some, W_succ hi (show p.length ≤ maxLen by unfold maxLen; omega), fe_kind hq]
    have hd : p.drop i = p[i] :: p.drop (i + 1) := List.drop_eq_getElem_cons hi
    cases hf : fe q p[i].fId with
    | none =>
      obtain ⟨r, e1, e2, e3, e4⟩ := ih acc (by omega)
      refine ⟨r, e1, e2, e3, fun h => ⟨(e4 h).1, fun a ha => ?_⟩⟩
      rw [hd] at ha
      rcases List.mem_cons.1 ha with rfl | ha
      · intro e he; rw [hf] at he; cases he
      · exact (e4 h).2 a ha
    | some e =>
      have e1 : (p[i] != (DEdit.mk (isE (some e)).1.fKind (isE (some e)).1.fId (isE (some e)).1.fOld (isE (some e)).1.fNew)) = (e != p[i]) := by
        show (p[i] != e) = (e != p[i])
        rw [bne_comm]
      rw [e1]
      simp only [Option.isSome_some, cond_true, Option.bind_some, isE, Bool.true_and, Option.getD_some]
      cases hb : e != p[i] with
      | false =>
        obtain ⟨r, e1, e2, e3, e4⟩ := ih acc (by omega)
        refine ⟨r, e1, e2, e3, fun h => ⟨(e4 h).1, fun a ha => ?_⟩⟩
        rw [hd] at ha
        rcases List.mem_cons.1 ha with rfl | ha
        · intro e' he
          rw [hf] at he
          cases he
          simpa using hb
        · exact (e4 h).2 a ha
      | true =>
        rw [cond_true, cond_true, app_ok (by simp; omega), app_ok (by simp; omega)]
        obtain ⟨r, e1, e2, e3, e4⟩ := ih (acc ++ [p[i].fId]) (by simp; omega)
        exact ⟨r, e1, e2, e3, fun h => by have := (e4 h).1; simp at this⟩
def inP (p : List DEdit) (e : DEdit) : Bool := p.any fun x => e == x
theorem imIn1 (p : List DEdit) (hp : p.length ≤ maxLen) (e : DEdit) : F_impl_RebasePatch_1 e p = some (inP p e) := by
  have h : F_slices_Index_impl_Edit_impl_Edit p e = some (fidx (fun x => e == x) p) :=
    idxf_loop (F := F_slices_Index_impl_Edit_impl_Edit_l1 p e) (P := fun x => some (e == x)) _ (fun _ _ => rfl) hp (fun _ _ => rfl)
  unfold F_impl_RebasePatch_1 F_slices_Contains_impl_Edit_impl_Edit
  rw [h]
  simp only [Option.bind_some]
  rw [fidx_ge]
  rfl
theorem del_loop (p l : List DEdit) (hp : p.length ≤ maxLen) (hl : l.length ≤ 1000) : ∀ k j f, j + k = l.length → k < f → ∀ (L : List DEdit) (i : Nat), i < j → L.length = l.length → L.take i = (l.take j).filter (fun e => !inP p e) → L.drop j = l.drop j →
    F_slices_DeleteFunc_impl_Edit_impl_Edit__impl_RebasePatch_1_l1 p f L (i : Int) (j : Int) = some (l.filter fun e => !inP p e) := by
  refine up (P := fun j f => ∀ (L : List DEdit) (i : Nat), i < j → L.length = l.length → L.take i = (l.take j).filter (fun e => !inP p e) → L.drop j = l.drop j →
    F_slices_DeleteFunc_impl_Edit_impl_Edit__impl_RebasePatch_1_l1 p f L (i : Int) (j : Int) = some (l.filter fun e => !inP p e)) (fun f L i hij hL ht hd => ?_) (fun j f hj ih L i hij hL ht hd => ?_)
  · have hi : (L.take i).length = i := by rw [List.length_take]; omega
    rw [F_slices_DeleteFunc_impl_Edit_impl_Edit__impl_RebasePatch_1_l1.eq_2, dlt_f (by omega), cond_false, sub_ok (by omega) (Nat.le_refl _), Int.toNat_natCast, sub_ok0 (by rw [List.length_append, hi]; omega), show Int.toNat 0 = 0 from rfl, List.drop_zero, List.take_left' hi, ht, List.take_length]
  · have hjL : j < L.length := by omega
    have e : L[j] = l[j] := by
      have h1 := List.drop_eq_getElem_cons hjL
      have h2 := List.drop_eq_getElem_cons hj
      rw [hd, h2] at h1
      exact (List.cons.inj h1).1.symm
    have hd' : L.drop (j + 1) = l.drop (j + 1) := by
      have h1 := List.drop_eq_getElem_cons hjL
      have h2 := List.drop_eq_getElem_cons hj
      rw [hd, h2] at h1
      exact (List.cons.inj h1).2.symm
    rw [F_slices_DeleteFunc_impl_Edit_impl_Edit__impl_RebasePatch_1_l1.eq_2, dlt_t hjL, cond_true, idx_nat hjL, e, imIn1 p hp, Option.bind_some, W_succ hj (Nat.le_trans hl (by decide))]
    have hft : (l.take (j + 1)).filter (fun e => !inP p e) = (l.take j).filter (fun e => !inP p e) ++ (if inP p l[j] then [] else [l[j]]) := by
      rw [← List.take_append_getElem hj, List.filter_append]
      cases h9 : inP p l[j]
      · rw [List.filter_cons_of_pos (by rw [h9]; rfl)]; rfl
      · rw [List.filter_cons_of_neg (by rw [h9]; decide)]; rfl
    cases hb : inP p l[j] with
    | true =>
      rw [Bool.not_true, cond_false]
      exact ih L i (by omega) hL (by rw [ht, hft, if_pos hb, List.append_nil]) hd'
    | false =>
      have hiL : i < L.length := by omega
      rw [Bool.not_false, cond_true, idx_nat hiL, W_succ hiL (by rw [hL]; exact Nat.le_trans hl (by decide)), Int.toNat_natCast]
      refine ih (L.set i l[j]) (i + 1) (by omega) (by rw [List.length_set]; exact hL) ?_ ?_
      · rw [hft, if_neg (by rw [hb]; decide), ← ht, List.take_succ_eq_append_getElem (by rw [List.length_set]; exact hiL), List.getElem_set_self, List.take_set, List.set_eq_of_length_le (by rw [List.length_take]; omega)]
      · rw [List.drop_set_of_lt (by omega), hd']
theorem im_del (p l : List DEdit) (hp : p.length ≤ maxLen) (hl : l.length ≤ 1000) : F_slices_DeleteFunc_impl_Edit_impl_Edit__impl_RebasePatch_1 l p = some (l.filter fun e => !inP p e) := by
  unfold F_slices_DeleteFunc_impl_Edit_impl_Edit__impl_RebasePatch_1
  have h : F_slices_IndexFunc_impl_Edit_impl_Edit__impl_RebasePatch_1 l p = some (fidx (inP p) l) :=
    idxf_loop (F := F_slices_IndexFunc_impl_Edit_impl_Edit__impl_RebasePatch_1_l1 l p) (P := fun x => F_impl_RebasePatch_1 x p) _ (fun _ _ => rfl) (Nat.le_trans hl (by decide)) (fun x _ => imIn1 p hp x)
  rw [h, Option.bind_some]
  cases hf : l.findIdx? (inP p) with
  | none =>
    rw [fidx_none hf]
    rw [List.findIdx?_eq_none_iff] at hf
    rw [show ((-1 : Int) == -1) = true from rfl, cond_true]
    congr 1
    exact (List.filter_eq_self.2 fun e he => by rw [hf e he]; rfl).symm
  | some k =>
    obtain ⟨hk, hk1, hk2⟩ := List.findIdx?_eq_some_iff_getElem.1 hf
    rw [fidx_some hf, beq_eq_false_iff_ne.2 (show (k : Int) ≠ -1 by omega), cond_false, W_succ hk (Nat.le_trans hl (by decide))]
    have ht : (l.take k).filter (fun e => !inP p e) = l.take k := List.filter_eq_self.2 fun e he => by
      obtain ⟨j, hj, rfl⟩ := List.getElem_of_mem he
      rw [List.length_take] at hj
      have := hk2 j (by omega)
      rw [List.getElem_take]
      simpa using this
    refine del_loop p l hp hl (l.length - (k + 1)) (k + 1) _ (by omega) (by omega) l k (by omega) rfl ?_ rfl
    rw [← List.take_append_getElem hk, List.filter_append, ht, List.filter_cons_of_neg (by rw [hk1]; decide), List.filter_nil, List.append_nil]
end Go.FX
