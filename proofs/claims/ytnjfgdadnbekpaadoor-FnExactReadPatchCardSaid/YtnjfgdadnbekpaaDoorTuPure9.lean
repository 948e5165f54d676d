/- The pure part: what the functions compute, in plain Lean, with no program in sight; no condition. -/
import Derived.Test.YtnjfgdadnbekpaaDoorTuPure8
namespace Go.FX
open Go Go.GL Go.RowKit
/-! lines put together, and taken apart -/
theorem spl_app : ∀ (x t cur : Bytes), (10 : UInt8) ∉ x → spl cur (x ++ 10 :: t) = ((cur ++ x) :: (spl [] t).1, (spl [] t).2) := by
  intro x
  induction x with
  | nil => intro t cur _; rw [List.nil_append, spl, if_pos (show UInt8.toNat 10 = 10 from rfl), List.append_nil]
  | cons c x ih =>
    intro t cur h
    rw [List.mem_cons, not_or] at h
    rw [List.cons_append, spl, if_neg (fun e => h.1 (u8_10.1 e).symm), ih t _ h.2]
    simp
theorem spl_lines : ∀ Ls : List Bytes, (∀ x ∈ Ls, (10 : UInt8) ∉ x) → spl [] (Ls.flatMap fun x => x ++ [10]) = (Ls, []) := by
  intro Ls
  induction Ls with
  | nil => intro _; rfl
  | cons x Ls ih =>
    intro h
    rw [List.flatMap_cons, List.append_assoc, List.singleton_append, spl_app x _ [] (h x (by simp)), ih fun y hy => h y (List.mem_cons_of_mem _ hy), List.nil_append]
theorem sent_no10 {t : Bytes} (h : sent t = true) : (10 : UInt8) ∉ t := by
  intro h10
  unfold sent at h
  rw [Bool.and_eq_true, List.all_eq_true] at h
  exact absurd (h.2 10 h10) (by decide)
theorem dd_no10 : ∀ k : Fin 1001, (dd 5 k.val).contains 10 = false := by decide +kernel
theorem dd_not10 {x : Nat} (h : x ≤ 1000) : (10 : UInt8) ∉ dd 5 x := by
  have := dd_no10 ⟨x, by omega⟩
  intro hm
  rw [List.contains_iff_mem.2 hm] at this
  cases this
/-! the line of an edit -/
def pline (e : DEdit) : Bytes :=
  if e.fKind = 1 then 43 :: (dd 5 e.fId.toNat ++ 32 :: e.fNew) else if e.fKind = 2 then 45 :: (dd 5 e.fId.toNat ++ 32 :: e.fOld) else 126 :: (dd 5 e.fId.toNat ++ 32 :: (e.fOld ++ 124 :: e.fNew))
theorem edit_parts {e : DEdit} (h : editOk e = true) : (e.fKind = 1 ∨ e.fKind = 2 ∨ e.fKind = 3) ∧ (10 : UInt8) ∉ e.fOld ∧ (10 : UInt8) ∉ e.fNew ∧ e.fOld.length ≤ 24 ∧ e.fNew.length ≤ 24 := by
  unfold editOk at h
  by_cases h1 : e.fKind = 1
  · rw [h1] at h
    simp only [beq_self_eq_true, cond_true, Bool.and_eq_true, beq_iff_eq] at h
    exact ⟨.inl h1, by rw [h.1]; simp, sent_no10 h.2, by rw [h.1]; simp, sent_len h.2⟩
  · rw [beq_eq_false_iff_ne.2 h1, cond_false] at h
    by_cases h2 : e.fKind = 2
    · rw [h2] at h
      simp only [beq_self_eq_true, cond_true, Bool.and_eq_true, beq_iff_eq] at h
      exact ⟨.inr (.inl h2), sent_no10 h.1, by rw [h.2]; simp, sent_len h.1, by rw [h.2]; simp⟩
    · rw [beq_eq_false_iff_ne.2 h2, cond_false] at h
      by_cases h3 : e.fKind = 3
      · rw [h3] at h
        simp only [beq_self_eq_true, cond_true, Bool.and_eq_true] at h
        exact ⟨.inr (.inr h3), sent_no10 h.1.1, sent_no10 h.1.2, sent_len h.1.1, sent_len h.1.2⟩
      · rw [beq_eq_false_iff_ne.2 h3] at h
        exact absurd h Bool.false_ne_true
theorem pline_no10 {e : DEdit} (h1 : 1 ≤ e.fId) (h2 : e.fId ≤ 99) (h : editOk e = true) : (10 : UInt8) ∉ pline e := by
  obtain ⟨-, ho, hn, -, -⟩ := edit_parts h
  have hd : (10 : UInt8) ∉ dd 5 e.fId.toNat := dd_not10 (by omega)
  unfold pline
  split
  · simp [hd, hn]
  · split
    · simp [hd, ho]
    · simp [hd, ho, hn]
theorem pline_len {e : DEdit} (h1 : 1 ≤ e.fId) (h2 : e.fId ≤ 99) (h : editOk e = true) : (pline e).length ≤ 53 := by
  obtain ⟨-, -, -, ho, hn⟩ := edit_parts h
  have hd : (dd 5 e.fId.toNat).length ≤ 2 := dlen2_tab ⟨e.fId.toNat, by omega⟩
  unfold pline
  split
  · simp; omega
  · split
    · simp; omega
    · simp; omega
def ptxt (l : List DEdit) : Bytes := l.flatMap fun e => pline e ++ [10]
theorem ptxt_spl {l : List DEdit} (h : patchOk l = true) : spl [] (ptxt l) = (l.map pline, []) := by
  have : ptxt l = (l.map pline).flatMap fun x => x ++ [10] := by unfold ptxt; rw [List.flatMap_map]
  rw [this]
  refine spl_lines _ fun x hx => ?_
  obtain ⟨e, he, rfl⟩ := List.mem_map.1 hx
  obtain ⟨h1, h2, h3⟩ := pat_ok h he
  exact pline_no10 h1 h2 h3
theorem flat_len {α : Type} {f : α → Bytes} {n : Nat} : ∀ l : List α, (∀ e ∈ l, (f e).length ≤ n) → (l.flatMap f).length ≤ l.length * n := by
  intro l
  induction l with
  | nil => intro _; simp
  | cons a l ih =>
    intro h
    have h1 := h a (by simp)
    have h2 := ih fun e he => h e (List.mem_cons_of_mem _ he)
    rw [List.flatMap_cons, List.length_append, List.length_cons, Nat.succ_mul]
    omega
theorem ptxt_len {l : List DEdit} (h : patchOk l = true) : (ptxt l).length ≤ 864 := by
  have hl := pat_len h
  have := flat_len (f := fun e => pline e ++ [10]) (n := 54) l fun e he => by
    obtain ⟨h1, h2, h3⟩ := pat_ok h he
    have := pline_len h1 h2 h3
    rw [List.length_append, List.length_singleton]
    omega
  unfold ptxt
  omega
theorem patch_loop {l : List DEdit} (h : patchOk l = true) : ∀ k i f, i + k = l.length → k < f → ∀ acc : Bytes, acc.length ≤ i * 100 →
    F_spec_l07PatchText_l1 l f acc (i : Int) = some (acc ++ ptxt (l.drop i)) ∧ F_impl_PatchText_l1 l f acc (i : Int) = some (acc ++ ptxt (l.drop i), true) := by
  have hl := pat_len h
  refine up (P := fun i f => ∀ acc : Bytes, acc.length ≤ i * 100 →
    F_spec_l07PatchText_l1 l f acc (i : Int) = some (acc ++ ptxt (l.drop i)) ∧ F_impl_PatchText_l1 l f acc (i : Int) = some (acc ++ ptxt (l.drop i), true)) (fun f acc _ => ?_) (fun i f hi ih acc hacc => ?_)
  · rw [F_spec_l07PatchText_l1.eq_2, F_impl_PatchText_l1.eq_2, dlt_f (by omega), List.drop_of_length_le (Nat.le_refl _)]
    simp [ptxt]
  · obtain ⟨h1, h2, h3⟩ := pat_ok h (List.getElem_mem hi)
    obtain ⟨hk, -, -, l1, l2⟩ := edit_parts h3
    obtain ⟨m, hm⟩ : ∃ m : Nat, l[i].fId = (m : Int) := ⟨l[i].fId.toNat, by omega⟩
    have h4 : (dd 5 m).length ≤ 2 := dlen2_tab ⟨m, by omega⟩
    have i8 : i < 16 := by omega
    have hp : ptxt (l.drop i) = pline l[i] ++ [10] ++ ptxt (l.drop (i + 1)) := by unfold ptxt; rw [List.drop_eq_getElem_cons hi, List.flatMap_cons]
    rw [F_spec_l07PatchText_l1.eq_2, F_impl_PatchText_l1.eq_2, dlt_t hi, cond_true, cond_true, hp]
    simp only [idx_nat hi]
    rw [hm, spDec (by omega), imDec (by omega)]
    simp only [Option.bind_some]
    rw [W_succ hi (Nat.le_trans hl (by decide))]
    unfold pline
    rw [hm, Int.toNat_natCast]
    by_cases q1 : l[i].fKind = 1
    · rw [beq_iff_eq.2 q1, if_pos q1]
      simp only [cond_true]
      iterate 10 rw [cat_ok (by simp only [List.length_append, List.length_cons, List.length_nil]; omega)]
      have := ih (acc ++ (((([43] ++ dd 5 m) ++ [32]) ++ l[i].fNew) ++ [10])) (by simp only [List.length_append, List.length_cons, List.length_nil]; omega)
      rw [this.1, this.2]
      simp
    · rw [beq_eq_false_iff_ne.2 q1, if_neg q1]
      by_cases q2 : l[i].fKind = 2
      · rw [beq_iff_eq.2 q2, if_pos q2]
        simp only [cond_true, cond_false]
        iterate 10 rw [cat_ok (by simp only [List.length_append, List.length_cons, List.length_nil]; omega)]
        have := ih (acc ++ (((([45] ++ dd 5 m) ++ [32]) ++ l[i].fOld) ++ [10])) (by simp only [List.length_append, List.length_cons, List.length_nil]; omega)
        rw [this.1, this.2]
        simp
      · rw [beq_eq_false_iff_ne.2 q2, if_neg q2]
        simp only [cond_false]
        iterate 14 rw [cat_ok (by simp only [List.length_append, List.length_cons, List.length_nil]; omega)]
        have := ih (acc ++ (((((([126] ++ dd 5 m) ++ [32]) ++ l[i].fOld) ++ [124]) ++ l[i].fNew) ++ [10])) (by simp only [List.length_append, List.length_cons, List.length_nil]; omega)
        rw [this.1, this.2]
        simp
theorem pat_text {l : List DEdit} (h : patchOk l = true) : F_spec_l07PatchText l = some (ptxt l) ∧ F_impl_PatchText_l1 l (l.length + 1) [] 0 = some (ptxt l, true) := by
  obtain ⟨e1, e2⟩ := patch_loop h l.length 0 (l.length + 1) (by omega) (by omega) [] (Nat.le_refl _)
  rw [List.drop_zero, List.nil_append] at e1 e2
  exact ⟨e1, e2⟩
/-! the edits of lines -/
def num1 (a : Bytes) : Int := ((F_spec_l01Read a).getD (0, false)).1
def num2 (a : Bytes) : Int := ((F_impl_readNumber a 1 99).getD (0, false)).1
theorem num_eq {a : Bytes} (hl : a.length ≤ 1100000) (h : within (num1 a) 1 99 = true ∨ within (num2 a) 1 99 = true) : num1 a = num2 a := by
  obtain ⟨i1, b1, i2, b2, e1, e2, e3⟩ := ids a hl
  have h1 : num1 a = i1 := by unfold num1; rw [e1]; rfl
  have h2 : num2 a = i2 := by unfold num2; rw [e2]; rfl
  rw [h1, h2] at h ⊢
  exact e3 h
def ed1 : Bytes → DEdit
  | [] => ⟨0, 0, [], []⟩
  | c :: y => if c.toNat = 43 then ⟨1, num1 (cutB 32 y).1, [], (cutB 32 y).2⟩ else if c.toNat = 45 then ⟨2, num1 (cutB 32 y).1, (cutB 32 y).2, []⟩ else if c.toNat = 126 then ⟨3, num1 (cutB 32 y).1, (cutB 124 (cutB 32 y).2).1, (cutB 124 (cutB 32 y).2).2⟩ else ⟨0, 0, [], []⟩
def ed2 : Bytes → DEdit
  | [] => ⟨0, 0, [], []⟩
  | c :: y => if c.toNat = 43 then ⟨1, num2 (cutB 32 y).1, [], (cutB 32 y).2⟩ else if c.toNat = 45 then ⟨2, num2 (cutB 32 y).1, (cutB 32 y).2, []⟩ else ⟨3, num2 (cutB 32 y).1, (cutB 124 (cutB 32 y).2).1, (cutB 124 (cutB 32 y).2).2⟩
theorem ed_eq1 {x : Bytes} (hl : x.length ≤ 1048576) (h : within (ed1 x).fId 1 99 = true) : x ≠ [] ∧ ed1 x = ed2 x := by
  cases x with
  | nil => exact absurd h (by decide)
  | cons c y =>
    have hc := (cut_len 32 y).1
    rw [List.length_cons] at hl
    refine ⟨by simp, ?_⟩
    rw [ed1] at h
    rw [ed1, ed2]
    by_cases h1 : c.toNat = 43
    · rw [if_pos h1] at h ⊢
      rw [if_pos h1, num_eq (by omega) (.inl h)]
    · rw [if_neg h1] at h ⊢
      rw [if_neg h1]
      by_cases h2 : c.toNat = 45
      · rw [if_pos h2] at h ⊢
        rw [if_pos h2, num_eq (by omega) (.inl h)]
      · rw [if_neg h2] at h ⊢
        rw [if_neg h2]
        by_cases h3 : c.toNat = 126
        · rw [if_pos h3] at h ⊢
          rw [num_eq (by omega) (.inl h)]
        · rw [if_neg h3] at h
          exact absurd h (by decide)
theorem ed_eq2 {x : Bytes} (hl : x.length ≤ 1048576) (h : within (ed2 x).fId 1 99 = true) (hp : pline (ed2 x) = x) : ed1 x = ed2 x := by
  cases x with
  | nil => rfl
  | cons c y =>
    have hc := (cut_len 32 y).1
    rw [List.length_cons] at hl
    rw [ed2] at hp h
    rw [ed1, ed2]
    by_cases h1 : c.toNat = 43
    · rw [if_pos h1] at h ⊢
      rw [if_pos h1, num_eq (by omega) (.inr h)]
    · rw [if_neg h1] at h hp ⊢
      rw [if_neg h1]
      by_cases h2 : c.toNat = 45
      · rw [if_pos h2] at h ⊢
        rw [if_pos h2, num_eq (by omega) (.inr h)]
      · rw [if_neg h2] at h hp ⊢
        rw [if_neg h2]
        unfold pline at hp
        simp only [show ¬ ((3 : Int) = 1) by decide, show ¬ ((3 : Int) = 2) by decide, if_false] at hp
        have h3 : c.toNat = 126 := by rw [← (List.cons.inj hp).1]; rfl
        rw [if_pos h3, num_eq (by omega) (.inr h)]
end Go.FX
