/- The pure part: what the functions compute, in plain Lean, with no program in sight; no condition. -/
import Derived.Test.YthgmjhiccdjboaaSdPure7
namespace Go.FX
open Go Go.GL Go.RowKit
/-! a patch behind another -/
def cfree (q : List DEdit) (a : DEdit) : Prop := ∀ e, fe q a.fId = some e → e = a
theorem conf2 (p q : List DEdit) (hp : p.length ≤ 16) (hq : patchOk q = true) : ∃ r : List Int, F_spec_l07Conflicts p q = some r ∧ F_impl_conflicts p q = some r ∧ r.length ≤ 16 ∧ (r = [] → ∀ a ∈ p, cfree q a) := by
  have hq2 : q.length ≤ maxLen := by have := pat_len hq; unfold maxLen; omega
  have key := up (n := p.length) (P := fun i f => ∀ acc : List Int, acc.length ≤ i → ∃ r : List Int, F_spec_l07Conflicts_l1 p q f acc (i : Int) = some r ∧ F_impl_conflicts_l1 p q f acc (i : Int) = some r ∧ r.length ≤ p.length ∧ (r = [] → acc = [] ∧ ∀ a ∈ p.drop i, cfree q a)) (fun f acc ha => ?_) (fun i f hi ih acc ha => ?_) p.length 0 (p.length + 1) (by omega) (by omega) [] (by simp)
  · obtain ⟨r, e1, e2, e3, e4⟩ := key
    exact ⟨r, e1, e2, by omega, fun h => by simpa using (e4 h).2⟩
  · rw [F_spec_l07Conflicts_l1.eq_2, F_impl_conflicts_l1.eq_2, dlt_f (by omega)]
    exact ⟨acc, rfl, rfl, by omega, fun h => ⟨h, by simp⟩⟩
  · rw [F_spec_l07Conflicts_l1.eq_2, F_impl_conflicts_l1.eq_2, dlt_t hi]
    simp only [cond_true, idx_nat hi, spEditOf q _ hq2, imEditOf q _ hq2, Option.bind_some, W_succ hi (show p.length ≤ maxLen by unfold maxLen; omega), fe_kind hq]
    have hd : p.drop i = p[i] :: p.drop (i + 1) := List.drop_eq_getElem_cons hi
    cases hf : fe q p[i].fId with
    | none =>
      obtain ⟨r, e1, e2, e3, e4⟩ := ih acc (by omega)
      refine ⟨r, e1, e2, e3, fun h => ⟨(e4 h).1, fun a ha => ?_⟩⟩
      rw [hd] at ha
      rcases List.mem_cons.1 ha with rfl | ha
      · intro e he; rw [hf] at he; cases he
      · exact (e4 h).2 a ha
    | some e =>
      have e1 : (p[i] != (DEdit.mk (isE (some e)).1.fKind (isE (some e)).1.fId (isE (some e)).1.fOld (isE (some e)).1.fNew)) = (e != p[i]) := by
        show (p[i] != e) = (e != p[i])
        rw [bne_comm]
      rw [e1]
      simp only [Option.isSome_some, cond_true, Option.bind_some, isE, Bool.true_and, Option.getD_some]
      cases hb : e != p[i] with
      | false =>
        obtain ⟨r, e1, e2, e3, e4⟩ := ih acc (by omega)
        refine ⟨r, e1, e2, e3, fun h => ⟨(e4 h).1, fun a ha => ?_⟩⟩
        rw [hd] at ha
        rcases List.mem_cons.1 ha with rfl | ha
        · intro e' he
          rw [hf] at he
          cases he
          simpa using hb
        · exact (e4 h).2 a ha
      | true =>
        rw [cond_true, cond_true, app_ok (by simp; omega), app_ok (by simp; omega)]
        obtain ⟨r, e1, e2, e3, e4⟩ := ih (acc ++ [p[i].fId]) (by simp; omega)
        exact ⟨r, e1, e2, e3, fun h => by have := (e4 h).1; simp at this⟩
def inP (p : List DEdit) (e : DEdit) : Bool := p.any fun x => e == x
theorem imIn1 (p : List DEdit) (hp : p.length ≤ maxLen) (e : DEdit) : F_impl_RebasePatch_1 e p = some (inP p e) := by
  have h : F_slices_Index_impl_Edit_impl_Edit p e = some (fidx (fun x => e == x) p) :=
    idxf_loop (F := F_slices_Index_impl_Edit_impl_Edit_l1 p e) (P := fun x => some (e == x)) _ (fun _ _ => rfl) hp (fun _ _ => rfl)
  unfold F_impl_RebasePatch_1 F_slices_Contains_impl_Edit_impl_Edit
  rw [h]
  simp only [Option.bind_some]
  rw [fidx_ge]
  rfl
theorem del_loop (p l : List DEdit) (hp : p.length ≤ maxLen) (hl : l.length ≤ 1000) : ∀ k j f, j + k = l.length → k < f → ∀ (L : List DEdit) (i : Nat), i < j → L.length = l.length → L.take i = (l.take j).filter (fun e => !inP p e) → L.drop j = l.drop j →
    F_slices_DeleteFunc_impl_Edit_impl_Edit__impl_RebasePatch_1_l1 p f L (i : Int) (j : Int) = some (l.filter fun e => !inP p e) := by
  refine up (P := fun j f => ∀ (L : List DEdit) (i : Nat), i < j → L.length = l.length → L.take i = (l.take j).filter (fun e => !inP p e) → L.drop j = l.drop j →
    F_slices_DeleteFunc_impl_Edit_impl_Edit__impl_RebasePatch_1_l1 p f L (i : Int) (j : Int) = some (l.filter fun e => !inP p e)) (fun f L i hij hL ht hd => ?_) (fun j f hj ih L i hij hL ht hd => ?_)
  · have hi : (L.take i).length = i := by rw [List.length_take]; omega
    rw [F_slices_DeleteFunc_impl_Edit_impl_Edit__impl_RebasePatch_1_l1.eq_2, dlt_f (by omega), cond_false, sub_ok (by omega) (Nat.le_refl _), Int.toNat_natCast, sub_ok0 (by rw [List.length_append, hi]; omega), show Int.toNat 0 = 0 from rfl, List.drop_zero, List.take_left' hi, ht, List.take_length]
  · have hjL : j < L.length := by omega
    have e : L[j] = l[j] := by
      have h1 := List.drop_eq_getElem_cons hjL
      have h2 := List.drop_eq_getElem_cons hj
      rw [hd, h2] at h1
      exact (List.cons.inj h1).1.symm
    have hd' : L.drop (j + 1) = l.drop (j + 1) := by
      have h1 := List.drop_eq_getElem_cons hjL
      have h2 := List.drop_eq_getElem_cons hj
      rw [hd, h2] at h1
      exact (List.cons.inj h1).2.symm
    rw [F_slices_DeleteFunc_impl_Edit_impl_Edit__impl_RebasePatch_1_l1.eq_2, dlt_t hjL, cond_true, idx_nat hjL, e, imIn1 p hp, Option.bind_some, W_succ hj (Nat.le_trans hl (by decide))]
    have hft : (l.take (j + 1)).filter (fun e => !inP p e) = (l.take j).filter (fun e => !inP p e) ++ (if inP p l[j] then [] else [l[j]]) := by
      rw [← List.take_append_getElem hj, List.filter_append]
      cases h9 : inP p l[j]
      · rw [List.filter_cons_of_pos (by rw [h9]; rfl)]; rfl
      · rw [List.filter_cons_of_neg (by rw [h9]; decide)]; rfl
    cases hb : inP p l[j] with
    | true =>
      rw [Bool.not_true, cond_false]
      exact ih L i (by omega) hL (by rw [ht, hft, if_pos hb, List.append_nil]) hd'
    | false =>
      have hiL : i < L.length := by omega
      rw [Bool.not_false, cond_true, idx_nat hiL, W_succ hiL (by rw [hL]; exact Nat.le_trans hl (by decide)), Int.toNat_natCast]
      refine ih (L.set i l[j]) (i + 1) (by omega) (by rw [List.length_set]; exact hL) ?_ ?_
      · rw [hft, if_neg (by rw [hb]; decide), ← ht, List.take_succ_eq_append_getElem (by rw [List.length_set]; exact hiL), List.getElem_set_self, List.take_set, List.set_eq_of_length_le (by rw [List.length_take]; omega)]
      · rw [List.drop_set_of_lt (by omega), hd']
theorem im_del (p l : List DEdit) (hp : p.length ≤ maxLen) (hl : l.length ≤ 1000) : F_slices_DeleteFunc_impl_Edit_impl_Edit__impl_RebasePatch_1 l p = some (l.filter fun e => !inP p e) := by
  unfold F_slices_DeleteFunc_impl_Edit_impl_Edit__impl_RebasePatch_1
  have h : F_slices_IndexFunc_impl_Edit_impl_Edit__impl_RebasePatch_1 l p = some (fidx (inP p) l) :=
    idxf_loop (F := F_slices_IndexFunc_impl_Edit_impl_Edit__impl_RebasePatch_1_l1 l p) (P := fun x => F_impl_RebasePatch_1 x p) _ (fun _ _ => rfl) (Nat.le_trans hl (by decide)) (fun x _ => imIn1 p hp x)
  rw [h, Option.bind_some]
  cases hf : l.findIdx? (inP p) with
  | none =>
    rw [fidx_none hf]
    rw [List.findIdx?_eq_none_iff] at hf
    rw [show ((-1 : Int) == -1) = true from rfl, cond_true]
    congr 1
    exact (List.filter_eq_self.2 fun e he => by rw [hf e he]; rfl).symm
  | some k =>
    obtain ⟨hk, hk1, hk2⟩ := List.findIdx?_eq_some_iff_getElem.1 hf
    rw [fidx_some hf, beq_eq_false_iff_ne.2 (show (k : Int) ≠ -1 by omega), cond_false, W_succ hk (Nat.le_trans hl (by decide))]
    have ht : (l.take k).filter (fun e => !inP p e) = l.take k := List.filter_eq_self.2 fun e he => by
      obtain ⟨j, hj, rfl⟩ := List.getElem_of_mem he
      rw [List.length_take] at hj
      have := hk2 j (by omega)
      rw [List.getElem_take]
      simpa using this
    refine del_loop p l hp hl (l.length - (k + 1)) (k + 1) _ (by omega) (by omega) l k (by omega) rfl ?_ rfl
    rw [← List.take_append_getElem hk, List.filter_append, ht, List.filter_cons_of_neg (by rw [hk1]; decide), List.filter_nil, List.append_nil]
theorem sp_reb (p q : List DEdit) (hp : patchOk p = true) (hq : q.length ≤ 16) : ∀ k i f, i + k = q.length → k < f → ∀ acc : List DEdit, acc.length ≤ i → F_spec_RebasePatch_l1 q p f acc (i : Int) = some (acc ++ (q.drop i).filter (fun e => !(fe p e.fId).isSome), true) := by
  have hpl := pat_len hp
  refine up (P := fun i f => ∀ acc : List DEdit, acc.length ≤ i → F_spec_RebasePatch_l1 q p f acc (i : Int) = some (acc ++ (q.drop i).filter (fun e => !(fe p e.fId).isSome), true)) (fun f acc ha => ?_) (fun i f hi ih acc ha => ?_)
  · rw [F_spec_RebasePatch_l1.eq_2, dlt_f (by omega), List.drop_length]
    simp
  · have hk : (((fe p q[i].fId).getD noE).fKind == 0) = !(fe p q[i].fId).isSome := by
      rw [← fe_kind hp]
      cases h : ((fe p q[i].fId).getD noE).fKind == 0 <;> simp_all [bne]
    rw [F_spec_RebasePatch_l1.eq_2, dlt_t hi, cond_true, idx_nat hi, spEditOf p _ (Nat.le_trans hpl (by decide)), Option.bind_some, hk, W_succ hi (Nat.le_trans hq (by decide)), List.drop_eq_getElem_cons hi]
    cases hs : (fe p q[i].fId).isSome with
    | true =>
      rw [Bool.not_true, cond_false, ih acc (by omega), List.filter_cons_of_neg (by rw [hs]; decide)]
    | false =>
      rw [Bool.not_false, cond_true, idx_nat hi, app_ok (by simp; omega), ih _ (by simp; omega), List.filter_cons_of_pos (by rw [hs]; rfl), List.append_assoc]
      rfl
theorem eqReb (p q : List DEdit) (h1 : smP p) (h2 : smP q) : ∃ r, F_spec_RebasePatch p q = some r ∧ F_impl_RebasePatch p q = some r ∧ r.1.length ≤ 1048576 := by
  unfold F_spec_RebasePatch F_impl_RebasePatch
  rw [spPatch p h1.1 h1.2, imPatch p h1.1 h1.2]
  simp only [Option.bind_some]
  cases q1 : patchOk p
  · exact ⟨_, rfl, rfl, by simp⟩
  · rw [spPatch q h2.1 h2.2, imPatch q h2.1 h2.2]
    cases q2 : patchOk q
    · exact ⟨_, rfl, rfl, by simp⟩
    · obtain ⟨r, e1, e2, e3, e4⟩ := conf2 p q (pat_len q1) q2
      simp only [Bool.not_true, cond_false, Option.bind_some]
      rw [e1, e2]
      simp only [Option.bind_some]
      cases q3 : decide ((r.length : Int) > 0)
      · have hr : r = [] := List.eq_nil_of_length_eq_zero (by have := of_decide_eq_false q3; omega)
        have hpl := pat_len q1; have hql := pat_len q2
        simp only [cond_false]
        rw [app_ok (by simp; omega), List.nil_append, im_del p q (Nat.le_trans hpl (by decide)) (by omega), Option.bind_some]
        have hs := sp_reb p q q1 hql q.length 0 (q.length + 1) (by omega) (by omega) [] (Nat.le_refl _)
        rw [List.nil_append, List.drop_zero] at hs
        have hfe : q.filter (fun e => !(fe p e.fId).isSome) = q.filter (fun e => !inP p e) := List.filter_congr fun e he => by
          congr 1
          cases hx : fe p e.fId with
          | none =>
            symm
            unfold inP
            rw [Option.isSome_none, List.any_eq_false]
            intro x hx2 hc
            have hxe : e = x := by simpa using hc
            subst hxe
            rw [fe_at (pat_pair q1) hx2] at hx
            cases hx
          | some a =>
            obtain ⟨ha1, ha2⟩ := fe_mem hx
            have h9 := e4 hr a ha1 e (by rw [ha2]; exact fe_at (pat_pair q2) he)
            symm
            unfold inP
            rw [Option.isSome_some, List.any_eq_true]
            exact ⟨a, ha1, by rw [h9]; exact beq_self_eq_true _⟩
        rw [hfe] at hs
        refine ⟨_, hs, rfl, ?_⟩
        have := List.length_filter_le (fun e => !inP p e) q
        show (q.filter fun e => !inP p e).length ≤ _
        omega
      · exact ⟨_, rfl, rfl, by simp⟩
end Go.FX
