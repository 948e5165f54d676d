/- The pure part: what the functions compute, in plain Lean, with no program in sight; no condition. -/
import Derived.Test.YtbmeejcmbnjncaaSgPure5
namespace Go.FX
open Go Go.GL Go.RowKit
theorem pairs_up {α : Type} {g : α → Int} {l : List α} (h : ∀ i, i < l.length → pairAt (fun a b => decide (g a < g b)) l i = true) : l.Pairwise (fun a b => g a < g b) := by
  rw [List.pairwise_iff_getElem]
  have step : ∀ i (hi : i + 1 < l.length), g (l[i]'(by omega)) < g l[i + 1] := fun i hi => by
    have := h (i + 1) hi
    rw [pairAt_succ hi, decide_eq_true_eq] at this
    exact this
  have far : ∀ k i (hi : i + k + 1 < l.length), g (l[i]'(by omega)) < g l[i + k + 1] := by
    intro k
    induction k with
    | zero => intro i hi; exact step i hi
    | succ k ih => intro i hi; exact Int.lt_trans (ih i (by omega)) (step (i + k + 1) hi)
  intro i j hi hj hij
  obtain ⟨k, rfl⟩ : ∃ k, j = i + k + 1 := ⟨j - i - 1, by omega⟩
  exact far k i hj
theorem pat_pair {p : List DEdit} (h : patchOk p = true) : p.Pairwise (fun a b => a.fId < b.fId) := by
  unfold patchOk at h
  rw [Bool.and_eq_true, decide_eq_true_eq] at h
  refine pairs_up fun i hi => ?_
  have := h.1 i hi
  rw [patchC_at hi, Bool.and_eq_true] at this
  exact this.2
theorem stat_srt {l : List DArticle} (h : statOk l = true) : Srt l := by
  unfold statOk at h
  rw [Bool.and_eq_true, decide_eq_true_eq] at h
  refine ⟨pairs_up fun i hi => ?_, fun a ha => ?_⟩
  · have := h.1 i hi
    rw [statC_at hi, Bool.and_eq_true] at this
    exact this.2
  · obtain ⟨i, hi, rfl⟩ := List.getElem_of_mem ha
    have := h.1 i hi
    rw [statC_at hi, Bool.and_eq_true, Bool.and_eq_true] at this
    obtain ⟨⟨h1, h2⟩, -⟩ := this
    unfold within at h1
    rw [Bool.and_eq_true, decide_eq_true_eq, decide_eq_true_eq] at h1
    exact ⟨h1.1, h1.2, sent_ne h2⟩
theorem fe_cons {e : DEdit} {q : List DEdit} {y : Int} : fe (e :: q) y = if e.fId = y then some e else fe q y := by
  unfold fe
  rw [List.find?_cons]
  by_cases h : e.fId = y
  · rw [if_pos h, beq_iff_eq.2 h]
  · rw [if_neg h, beq_eq_false_iff_ne.2 h]
theorem fe_none {q : List DEdit} {y : Int} (h : ∀ e ∈ q, e.fId ≠ y) : fe q y = none := by
  unfold fe
  exact List.find?_eq_none.2 fun e he => by simpa using h e he
theorem fe_at {p : List DEdit} (hp : p.Pairwise (fun a b => a.fId < b.fId)) {e : DEdit} (he : e ∈ p) : fe p e.fId = some e := by
  induction p with
  | nil => cases he
  | cons b q ih =>
    rw [fe_cons]
    rw [List.pairwise_cons] at hp
    rcases List.mem_cons.1 he with rfl | h
    · rw [if_pos rfl]
    · rw [if_neg (by have := hp.1 e h; omega), ih hp.2 h]
def fin (p : List DEdit) (g : Int → Bytes) (y : Int) : Bytes := match fe p y with
  | some e => e.fNew
  | none => g y
theorem im_key {p : List DEdit} {a : List DArticle} (hp : patchOk p = true) (hpl : p.length ≤ 16) (ha : a.length ≤ maxLen) : ∀ k i f, i + k = p.length → k < f → ∀ l, Srt l → (∀ e ∈ p.drop i, ft l e.fId = ft a e.fId) →
    ((∀ e ∈ p.drop i, ft a e.fId = e.fOld) → ∃ L, F_impl_applied_l1 p a f l (i : Int) = some (L, decide ((L.length : Int) ≤ 8)) ∧ Srt L ∧ ∀ y, ft L y = fin (p.drop i) (ft l) y) ∧
    ((∃ e ∈ p.drop i, ft a e.fId ≠ e.fOld) → F_impl_applied_l1 p a f l (i : Int) = some ([], false)) := by
  refine up (P := fun i f => ∀ l, Srt l → (∀ e ∈ p.drop i, ft l e.fId = ft a e.fId) →
    ((∀ e ∈ p.drop i, ft a e.fId = e.fOld) → ∃ L, F_impl_applied_l1 p a f l (i : Int) = some (L, decide ((L.length : Int) ≤ 8)) ∧ Srt L ∧ ∀ y, ft L y = fin (p.drop i) (ft l) y) ∧
    ((∃ e ∈ p.drop i, ft a e.fId ≠ e.fOld) → F_impl_applied_l1 p a f l (i : Int) = some ([], false))) (fun f l hs _ => ?_) (fun i f hi ih l hs hlk => ?_)
  · rw [List.drop_length]
    refine ⟨fun _ => ⟨l, ?_, hs, fun y => rfl⟩, fun ⟨e, he, _⟩ => by cases he⟩
    rw [F_impl_applied_l1.eq_2, dlt_f (by omega)]
    rfl
  · have hd : p.drop i = p[i] :: p.drop (i + 1) := List.drop_eq_getElem_cons hi
    have hmem : p[i] ∈ p := List.getElem_mem hi
    obtain ⟨i1, i2, hok⟩ := pat_ok hp hmem
    have hpw := pat_pair hp
    have hlater : ∀ e ∈ p.drop (i + 1), p[i].fId < e.fId := fun e he => by
      have := hpw.sublist (List.drop_sublist i p)
      rw [hd, List.pairwise_cons] at this
      exact this.1 e he
    by_cases hm : ft a p[i].fId = p[i].fOld
    · have hl0 : ft l p[i].fId = p[i].fOld := (hlk _ (by rw [hd]; exact List.mem_cons_self ..)).trans hm
      obtain ⟨l', s', f', e'⟩ := im_step (f := f) hi (by omega) ha hs hok ⟨i1, i2⟩ hm hl0
      obtain ⟨c1, c2⟩ := ih l' s' (fun e he => by
        rw [f', if_neg (by have := hlater e he; omega)]
        exact hlk e (by rw [hd]; exact List.mem_cons_of_mem _ he))
      rw [e']
      refine ⟨fun hall => ?_, fun ⟨e, he, hne⟩ => c2 ⟨e, ?_, hne⟩⟩
      · obtain ⟨L, h1, h2, h3⟩ := c1 fun e he => hall e (by rw [hd]; exact List.mem_cons_of_mem _ he)
        refine ⟨L, h1, h2, fun y => ?_⟩
        rw [h3, hd]
        unfold fin
        rw [fe_cons]
        by_cases hy : p[i].fId = y
        · subst hy
          rw [if_pos rfl, fe_none (fun e he => by have := hlater e he; omega)]
          exact (f' _).trans (if_pos rfl)
        · rw [if_neg hy]
          cases fe (p.drop (i + 1)) y with
          | some e => rfl
          | none => exact (f' y).trans (if_neg (Ne.symm hy))
      · rw [hd] at he
        rcases List.mem_cons.1 he with rfl | he
        · exact absurd hm hne
        · exact he
    · refine ⟨fun hall => absurd (hall _ (by rw [hd]; exact List.mem_cons_self ..)) hm, fun _ => ?_⟩
      rw [F_impl_applied_l1.eq_2, dlt_t hi, cond_true, idx_nat hi, imTextOf a _ ha, Option.bind_some, bne_iff_ne.2 hm, cond_true]
def allS (g : Int → Bytes) (n : Nat) : List DArticle := (List.range n).flatMap fun i => one ((i + 1 : Nat) : Int) (g ((i + 1 : Nat) : Int))
theorem allS_ok {g : Int → Bytes} : ∀ n, n ≤ 99 → Srt (allS g n) ∧ (∀ u ∈ allS g n, u.fId < ((n + 1 : Nat) : Int)) ∧ ∀ y, ft (allS g n) y = if 1 ≤ y ∧ y ≤ (n : Int) then g y else [] := by
  intro n
  induction n with
  | zero =>
    intro _
    refine ⟨Srt.nil, fun u hu => (by cases hu), fun y => ?_⟩
    rw [if_neg (by omega)]; rfl
  | succ n ih =>
    intro hn
    obtain ⟨s, b, f⟩ := ih (by omega)
    have e : allS g (n + 1) = allS g n ++ one ((n + 1 : Nat) : Int) (g ((n + 1 : Nat) : Int)) ++ [] := by
      unfold allS
      rw [List.range_succ, List.flatMap_append, List.append_nil]
      simp
    rw [e]
    refine ⟨mid_srt b (fun _ h => by cases h) s Srt.nil ⟨by omega, by omega⟩, fun u hu => ?_, fun y => ?_⟩
    · rw [List.append_nil] at hu
      rcases List.mem_append.1 hu with hu | hu
      · have := b u hu; omega
      · have := (one_mem hu).1; omega
    · rw [mid_ft b (fun _ h => by cases h) [] (fun _ h => by cases h), List.append_nil, List.append_nil, f]
      by_cases hy : y = ((n + 1 : Nat) : Int)
      · rw [if_pos hy, if_pos (by omega), hy]
      · rw [if_neg hy]
        by_cases h2 : 1 ≤ y ∧ y ≤ (n : Int)
        · rw [if_pos h2, if_pos (by omega)]
        · rw [if_neg h2, if_neg (by omega)]
theorem one_len {x : Int} {t : Bytes} : (one x t).length ≤ 1 := by unfold one; split <;> simp
theorem sp_step {p : List DEdit} {a acc : List DArticle} {f i : Nat} (hp : patchOk p = true) (hpl : p.length ≤ 16) (ha : a.length ≤ maxLen) (hi : i < 99) (hacc : acc.length ≤ 99) :
    F_spec_l07Apply_l1 a p (f + 1) acc ((i + 1 : Nat) : Int) = (match fe p ((i + 1 : Nat) : Int) with
      | some e => if ft a ((i + 1 : Nat) : Int) = e.fOld then F_spec_l07Apply_l1 a p f (acc ++ one ((i + 1 : Nat) : Int) e.fNew) ((i + 1 + 1 : Nat) : Int) else some ([], false)
      | none => F_spec_l07Apply_l1 a p f (acc ++ one ((i + 1 : Nat) : Int) (ft a ((i + 1 : Nat) : Int))) ((i + 1 + 1 : Nat) : Int)) := by
  rw [F_spec_l07Apply_l1.eq_2, decide_eq_true (show ((i + 1 : Nat) : Int) ≤ 99 by omega), cond_true, spFind a _ ha, Option.bind_some, spEditOf p _ (Nat.le_trans hpl (by decide)), Option.bind_some, W_succ (n := 1000) (by omega) (by decide)]
  rw [fe_kind hp]
  cases hf : fe p ((i + 1 : Nat) : Int) with
  | none =>
    simp only [Option.isSome_none, cond_false]
    by_cases ht : ft a ((i + 1 : Nat) : Int) = []
    · rw [ht, bne_self_eq_false, cond_false]
      unfold one
      rw [if_pos rfl, List.append_nil]
    · rw [bne_iff_ne.2 ht, cond_true, app_ok (by simp; omega)]
      unfold one
      rw [if_neg ht]
  | some e =>
    simp only [Option.isSome_some, cond_true, Option.getD_some]
    by_cases hm : ft a ((i + 1 : Nat) : Int) = e.fOld
    · rw [hm, bne_self_eq_false, cond_false, if_pos rfl]
      by_cases ht : e.fNew = []
      · rw [ht, bne_self_eq_false, cond_false]
        unfold one
        rw [if_pos rfl, List.append_nil]
      · rw [bne_iff_ne.2 ht, cond_true, app_ok (by simp; omega)]
        unfold one
        rw [if_neg ht]
    · rw [bne_iff_ne.2 hm, cond_true, if_neg hm]
theorem sp_good {p : List DEdit} {a : List DArticle} (hp : patchOk p = true) (hpl : p.length ≤ 16) (ha : a.length ≤ maxLen) (hm : ∀ e ∈ p, ft a e.fId = e.fOld) : F_spec_l07Apply a p = some (allS (fin p (ft a)) 99, decide (((allS (fin p (ft a)) 99).length : Int) ≤ 8)) := by
  have := app_loop (n := 99) (b := 1) (F := fun f acc i => F_spec_l07Apply_l1 a p f acc (i + 1)) (fun i => one ((i + 1 : Nat) : Int) (fin p (ft a) ((i + 1 : Nat) : Int))) (fun l => some (l, decide ((l.length : Int) ≤ 8))) 0 (fun i _ => one_len) (fun f acc => ?_) (fun f acc i hi hacc => ?_) (m := 100) (acc := []) (by omega) (Nat.le_refl _)
  · exact this
  · show F_spec_l07Apply_l1 a p (f + 1) acc 100 = _
    rw [F_spec_l07Apply_l1.eq_2]; rfl
  · show F_spec_l07Apply_l1 a p (f + 1) acc ((i + 1 : Nat) : Int) = F_spec_l07Apply_l1 a p f _ ((i + 1 + 1 : Nat) : Int)
    rw [sp_step hp hpl ha hi (by omega)]
    unfold fin
    cases hf : fe p ((i + 1 : Nat) : Int) with
    | none => rfl
    | some e =>
      obtain ⟨h1, h2⟩ := fe_mem hf
      exact if_pos (by rw [← h2]; exact hm e h1)
theorem sp_bad {p : List DEdit} {a : List DArticle} (hp : patchOk p = true) (hpl : p.length ≤ 16) (ha : a.length ≤ maxLen) {e : DEdit} (he : e ∈ p) (hm : ft a e.fId ≠ e.fOld) : F_spec_l07Apply a p = some ([], false) := by
  obtain ⟨h1, h2, -⟩ := pat_ok hp he
  have key : ∀ k i f acc, i + 1 + k = e.fId.toNat → k < f → acc.length ≤ i → F_spec_l07Apply_l1 a p f acc ((i + 1 : Nat) : Int) = some ([], false) := by
    intro k
    induction k with
    | zero =>
      intro i f acc hk hf hacc
      obtain ⟨f, rfl⟩ : ∃ g, f = g + 1 := ⟨f - 1, by omega⟩
      have hx : ((i + 1 : Nat) : Int) = e.fId := by omega
      rw [sp_step hp hpl ha (by omega) (by omega), hx, fe_at (pat_pair hp) he]
      exact if_neg hm
    | succ k ih =>
      intro i f acc hk hf hacc
      obtain ⟨f, rfl⟩ : ∃ g, f = g + 1 := ⟨f - 1, by omega⟩
      rw [sp_step hp hpl ha (by omega) (by omega)]
      cases fe p ((i + 1 : Nat) : Int) with
      | none => exact ih (i + 1) f _ (by omega) (by omega) (by rw [List.length_append]; have := one_len (x := ((i + 1 : Nat) : Int)) (t := ft a ((i + 1 : Nat) : Int)); omega)
      | some e' =>
        show (if _ then _ else _) = _
        split
        · exact ih (i + 1) f _ (by omega) (by omega) (by rw [List.length_append]; have := one_len (x := ((i + 1 : Nat) : Int)) (t := e'.fNew); omega)
        · rfl
  exact key (e.fId.toNat - 1) 0 100 [] (by omega) (by omega) (Nat.le_refl _)
theorem eqApply {p : List DEdit} {a : List DArticle} (hs : Srt a) (hp : patchOk p = true) : ∃ r, F_spec_l07Apply a p = some r ∧ F_impl_applied a p = some r ∧ Srt r.1 ∧ (r.2 = true → r.1.length ≤ 8) := by
  have hpl := pat_len hp
  have hal := hs.len
  have ha : a.length ≤ maxLen := Nat.le_trans hal (by decide)
  have e0 : F_impl_applied a p = F_impl_applied_l1 p a (p.length + 1) a ((0 : Nat) : Int) := by
    unfold F_impl_applied
    rw [app_ok (by simp; omega), List.nil_append]
    rfl
  obtain ⟨c1, c2⟩ := im_key hp hpl ha p.length 0 (p.length + 1) (by omega) (by omega) a hs (fun _ _ => rfl)
  rw [List.drop_zero] at c1 c2
  by_cases hm : ∀ e ∈ p, ft a e.fId = e.fOld
  · obtain ⟨L, h1, h2, h3⟩ := c1 hm
    obtain ⟨s, -, f⟩ := allS_ok (g := fin p (ft a)) 99 (Nat.le_refl _)
    have : L = allS (fin p (ft a)) 99 := Srt.ext h2 s fun y => by
      rw [h3, f]
      by_cases hy : 1 ≤ y ∧ y ≤ ((99 : Nat) : Int)
      · rw [if_pos hy]
      · rw [if_neg hy]
        unfold fin
        rw [fe_none fun e he => by have := pat_ok hp he; omega]
        exact ft_none fun u hu => by have := hs.2 u hu; omega
    rw [this] at h1
    exact ⟨_, sp_good hp hpl ha hm, e0.trans h1, s, fun h => Int.ofNat_le.1 (of_decide_eq_true h)⟩
  · obtain ⟨e, he, hne⟩ : ∃ e ∈ p, ft a e.fId ≠ e.fOld := Classical.byContradiction fun hc => hm fun e he => Classical.byContradiction fun hne => hc ⟨e, he, hne⟩
    exact ⟨_, sp_bad hp hpl ha he hne, e0.trans (c2 ⟨e, he, hne⟩), Srt.nil, fun h => by cases h⟩
end Go.FX
