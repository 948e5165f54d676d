/- The pure part: what the functions compute, in plain Lean, with no program in sight; no condition. -/
import Derived.Test.YtbmeejcmbnjncaaSgPure8
namespace Go.FX
open Go Go.GL Go.RowKit
/-! the days on which acts begin or end -/
def putL : List Int → Int → List Int
  | [], x => [x]
  | a :: l, x => if a < x then a :: putL l x else if x < a then x :: a :: l else a :: l
def Inc (l : List Int) : Prop := l.Pairwise (· < ·)
theorem putL_mem {l : List Int} {x y : Int} : y ∈ putL l x ↔ y = x ∨ y ∈ l := by
  induction l with
  | nil => simp [putL]
  | cons a l ih =>
    unfold putL
    split
    · rw [List.mem_cons, ih, List.mem_cons]
      constructor
      · rintro (h | h | h) <;> simp_all
      · rintro (h | h | h) <;> simp_all
    · split
      · simp
      · have : a = x := by omega
        subst this
        simp
theorem putL_inc {l : List Int} {x : Int} (h : Inc l) : Inc (putL l x) := by
  induction l with
  | nil => exact List.pairwise_singleton _ _
  | cons a l ih =>
    have h1 := List.pairwise_cons.1 h
    unfold putL
    split
    · refine List.pairwise_cons.2 ⟨fun y hy => ?_, ih h1.2⟩
      rcases putL_mem.1 hy with rfl | hy
      · assumption
      · exact h1.1 y hy
    · split
      · refine List.pairwise_cons.2 ⟨fun y hy => ?_, h⟩
        rcases List.mem_cons.1 hy with rfl | hy
        · assumption
        · have := h1.1 y hy; omega
      · exact h
theorem putL_len {l : List Int} {x : Int} : (putL l x).length ≤ l.length + 1 := by
  induction l with
  | nil => simp [putL]
  | cons a l ih =>
    unfold putL
    split
    · simp only [List.length_cons]; omega
    · split <;> simp
theorem inc_ext : ∀ {l m : List Int}, Inc l → Inc m → (∀ x, x ∈ l ↔ x ∈ m) → l = m := by
  intro l
  induction l with
  | nil =>
    intro m _ _ h
    cases m with
    | nil => rfl
    | cons b m => exact absurd ((h b).2 (List.mem_cons_self ..)) (by simp)
  | cons a l ih =>
    intro m hl hm h
    cases m with
    | nil => exact absurd ((h a).1 (List.mem_cons_self ..)) (by simp)
    | cons b m =>
      have h1 := List.pairwise_cons.1 hl
      have h2 := List.pairwise_cons.1 hm
      have hab : a = b := by
        have ha := (h a).1 (List.mem_cons_self ..)
        have hb := (h b).2 (List.mem_cons_self ..)
        rcases List.mem_cons.1 ha with e | e
        · exact e
        · rcases List.mem_cons.1 hb with e2 | e2
          · exact e2.symm
          · have := h2.1 a e; have := h1.1 b e2; omega
      subst hab
      rw [ih h1.2 h2.2 fun x => ?_]
      constructor
      · intro hx
        have := (h x).1 (List.mem_cons_of_mem _ hx)
        rcases List.mem_cons.1 this with rfl | h3
        · have := h1.1 x hx; omega
        · exact h3
      · intro hx
        have := (h x).2 (List.mem_cons_of_mem _ hx)
        rcases List.mem_cons.1 this with rfl | h3
        · have := h2.1 x hx; omega
        · exact h3
theorem spPut {l : List Int} {x : Int} (hl : l.length ≤ 1000) : F_spec_l00Put l x = some (putL l x) := by
  -- behind the place the rest goes over as it is
  have k2 : ∀ k i f, i + k = l.length → k < f → ∀ acc : List Int, acc.length ≤ i + 1 → F_spec_l00Put_l1 l x f acc true (i : Int) = some (acc ++ l.drop i, true) := by
    refine up (P := fun i f => ∀ acc : List Int, acc.length ≤ i + 1 → F_spec_l00Put_l1 l x f acc true (i : Int) = some (acc ++ l.drop i, true)) (fun f acc _ => ?_) (fun i f hi ih acc ha => ?_)
    · rw [F_spec_l00Put_l1.eq_2, dlt_f (by omega), List.drop_length, List.append_nil]; rfl
    · rw [F_spec_l00Put_l1.eq_2, dlt_t hi, cond_true]
      simp only [Bool.not_true, cond_false, Option.bind_some]
      rw [idx_nat hi, app_ok (by simp; omega), W_succ hi (Nat.le_trans hl (by decide)), ih _ (by simp; omega), List.drop_eq_getElem_cons hi, List.append_assoc]
      rfl
  have k1 : ∀ k i f, i + k = l.length → k < f → l.length - i < f → ∀ acc : List Int, acc.length ≤ i → ∃ r q, F_spec_l00Put_l1 l x f acc false (i : Int) = some (r, q) ∧ (bif !q then app r [x] fun _ => some (r ++ [x]) else some r) = some (acc ++ putL (l.drop i) x) := by
    refine up (P := fun i f => l.length - i < f → ∀ acc : List Int, acc.length ≤ i → ∃ r q, F_spec_l00Put_l1 l x f acc false (i : Int) = some (r, q) ∧ (bif !q then app r [x] fun _ => some (r ++ [x]) else some r) = some (acc ++ putL (l.drop i) x)) (fun f _ acc ha => ?_) (fun i f hi ih hf acc ha => ?_)
    · refine ⟨acc, false, ?_, ?_⟩
      · rw [F_spec_l00Put_l1.eq_2, dlt_f (by omega)]; rfl
      · rw [List.drop_length, Bool.not_false, cond_true, app_ok (by simp; omega)]; rfl
    · have hd : l.drop i = l[i] :: l.drop (i + 1) := List.drop_eq_getElem_cons hi
      rw [F_spec_l00Put_l1.eq_2, dlt_t hi, cond_true, Bool.not_false, cond_true, idx_nat hi, Option.bind_some, W_succ hi (Nat.le_trans hl (by decide)), hd]
      by_cases h1 : l[i] < x
      · obtain ⟨r, q, e1, e2⟩ := ih (by omega) (acc ++ [l[i]]) (by simp; omega)
        refine ⟨r, q, ?_, ?_⟩
        · rw [decide_eq_false (by omega), cond_false, idx_nat hi, app_ok (by simp; omega), e1]
        · rw [e2, putL, if_pos h1, List.append_assoc]; rfl
      · rw [decide_eq_true (by omega), cond_true, idx_nat hi]
        by_cases h2 : x < l[i]
        · refine ⟨((acc ++ [x]) ++ [l[i]]) ++ l.drop (i + 1), true, ?_, ?_⟩
          · rw [decide_eq_true (by omega), cond_true, app_ok (by simp; omega), idx_nat hi, app_ok (by simp; omega), k2 (l.length - (i + 1)) (i + 1) f (by omega) (by omega) _ (by simp; omega)]
          · rw [putL, if_neg h1, if_pos h2, Bool.not_true, cond_false, List.append_assoc, List.append_assoc]; rfl
        · refine ⟨(acc ++ [l[i]]) ++ l.drop (i + 1), true, ?_, ?_⟩
          · rw [decide_eq_false (by omega), cond_false, idx_nat hi, app_ok (by simp; omega), k2 (l.length - (i + 1)) (i + 1) f (by omega) (by omega) _ (by simp; omega)]
          · rw [putL, if_neg h1, if_neg h2, Bool.not_true, cond_false, List.append_assoc]; rfl
  obtain ⟨r, q, e1, e2⟩ := k1 l.length 0 (l.length + 1) (by omega) (by omega) (by omega) [] (Nat.le_refl _)
  unfold F_spec_l00Put
  rw [show F_spec_l00Put_l1 l x (l.length + 1) [] false 0 = some (r, q) from e1, Option.bind_some]
  exact e2
end Go.FX
