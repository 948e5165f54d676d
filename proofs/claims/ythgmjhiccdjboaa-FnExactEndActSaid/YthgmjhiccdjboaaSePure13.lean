/- The pure part: what the functions compute, in plain Lean, with no program in sight; no condition. -/
import Derived.Test.YthgmjhiccdjboaaSePure12
namespace Go.FX
open Go Go.GL Go.RowKit
theorem acts_small {acts : List DAct} (hk : actsOk acts = true) {c : DAct} (hc : c ∈ acts) : c.fPatch.length ≤ 16 := pat_len (act_ok hk hc)
theorem imOwn {acts : List DAct} (hk : actsOk acts = true) : F_impl_cloneActs acts = some acts := by
  have h8 := acts_len hk
  have key : ∀ k i f, i + k = acts.length → k < f → ∀ acc : List DAct, acc.length ≤ i → F_impl_cloneActs_l1 acts f acc (i : Int) = some (acc ++ acts.drop i) := by
    refine up (P := fun i f => ∀ acc : List DAct, acc.length ≤ i → F_impl_cloneActs_l1 acts f acc (i : Int) = some (acc ++ acts.drop i)) (fun f acc _ => ?_) (fun i f hi ih acc ha => ?_)
    · rw [F_impl_cloneActs_l1.eq_2, dlt_f (by omega), List.drop_length, List.append_nil]; rfl
    · have hs := acts_small hk (List.getElem_mem hi)
      rw [F_impl_cloneActs_l1.eq_2, dlt_t hi, cond_true, idx_nat hi, app_ok (by simp; omega), app_ok (by simp; omega), W_succ hi (Nat.le_trans h8 (by decide)), ih _ (by simp; omega), List.drop_eq_getElem_cons hi, List.append_assoc, List.nil_append]
      rfl
  exact key acts.length 0 (acts.length + 1) (by omega) (by omega) [] (Nat.le_refl _)
theorem spOwn {acts : List DAct} (hk : actsOk acts = true) : F_spec_l07Own acts = some acts := by
  have h8 := acts_len hk
  have key : ∀ k i f, i + k = acts.length → k < f → ∀ acc : List DAct, acc.length ≤ i → F_spec_l07Own_l1 acts f acc (i : Int) = some (acc ++ acts.drop i) := by
    refine up (P := fun i f => ∀ acc : List DAct, acc.length ≤ i → F_spec_l07Own_l1 acts f acc (i : Int) = some (acc ++ acts.drop i)) (fun f acc _ => ?_) (fun i f hi ih acc ha => ?_)
    · rw [F_spec_l07Own_l1.eq_2, dlt_f (by omega), List.drop_length, List.append_nil]; rfl
    · have hs := acts_small hk (List.getElem_mem hi)
      rw [F_spec_l07Own_l1.eq_2, dlt_t hi, cond_true, idx_nat hi, idx_nat hi, idx_nat hi, app_ok (by simp; omega), app_ok (by simp; omega), W_succ hi (Nat.le_trans h8 (by decide)), ih _ (by simp; omega), List.drop_eq_getElem_cons hi, List.append_assoc, List.nil_append]
      rfl
  exact key acts.length 0 (acts.length + 1) (by omega) (by omega) [] (Nat.le_refl _)
/-- an act that ends earlier: the acts stay valid -/
theorem acts_end {acts : List DAct} (hk : actsOk acts = true) {i : Nat} (hi : i < acts.length) {d : Int} (h1 : acts[i].fFrom < d) (h2 : d < acts[i].fUntil) : actsOk (acts.set i { acts[i] with fUntil := d }) = true := by
  have hk2 := hk
  unfold actsOk at hk ⊢
  rw [Bool.and_eq_true, decide_eq_true_eq, decide_eq_true_eq] at hk ⊢
  refine ⟨fun j hj => ?_, by rw [List.length_set]; exact hk.2⟩
  have hj2 : j < acts.length := by rwa [List.length_set] at hj
  have hc := hk.1 j hj2
  rw [actC_at hj2] at hc
  rw [actC_at hj]
  simp only [Bool.and_eq_true, decide_eq_true_eq] at hc ⊢
  obtain ⟨⟨⟨⟨c1, c2⟩, c3⟩, c4⟩, c5⟩ := hc
  have hff : ∀ t (ht : t < acts.length), ((acts.set i { acts[i] with fUntil := d })[t]'(by rw [List.length_set]; exact ht)).fFrom = acts[t].fFrom := fun t ht => by
    rw [List.getElem_set]
    split
    · rename_i e; subst e; rfl
    · rfl
  have hfp : ((acts.set i { acts[i] with fUntil := d })[j]).fPatch = acts[j].fPatch := by
    rw [List.getElem_set]
    split
    · rename_i e; subst e; rfl
    · rfl
  have hp : pairAt (fun a b => decide (a.fFrom ≤ b.fFrom)) (acts.set i { acts[i] with fUntil := d }) j = pairAt (fun a b => decide (a.fFrom ≤ b.fFrom)) acts j := by
    cases j with
    | zero => rfl
    | succ j => rw [pairAt_succ hj, pairAt_succ hj2, hff j (by omega), hff (j + 1) hj2]
  rw [hff j hj2, hfp, hp]
  refine ⟨⟨⟨⟨c1, ?_⟩, ?_⟩, c4⟩, c5⟩
  · rw [List.getElem_set]
    split
    · rename_i e
      subst e
      unfold within at c1 c2 ⊢
      simp only [Bool.and_eq_true, decide_eq_true_eq] at c1 c2 ⊢
      omega
    · exact c2
  · rw [List.getElem_set]
    split
    · rename_i e; subst e; exact h1
    · exact c3
theorem acts_bulk {acts : List DAct} (hk : actsOk acts = true) : acts.length + (acts.map fun e : DAct => e.fPatch.length).sum ≤ 1048576 := by
  have h8 := acts_len hk
  have key : ∀ l : List DAct, (∀ c ∈ l, c.fPatch.length ≤ 16) → (l.map fun e : DAct => e.fPatch.length).sum ≤ l.length * 16 := by
    intro l
    induction l with
    | nil => intro _; exact Nat.le_refl _
    | cons x l ih =>
      intro h
      have h1 := ih fun u hu => h u (List.mem_cons_of_mem _ hu)
      have h2 := h x (List.mem_cons_self ..)
      rw [List.map_cons, List.sum_cons, List.length_cons]
      omega
  have := key acts fun c hc => acts_small hk hc
  omega
theorem eqEndAct (a : List DArticle) (acts : List DAct) (k day : Int) (h1 : smT a) (h2 : smAs acts) : ∃ r, F_spec_EndAct a acts k day = some r ∧ F_impl_EndAct a acts k day = some r ∧ (r.1.length + (r.1.map fun e : DAct => e.fPatch.length).sum) ≤ 1048576 := by
  unfold F_spec_EndAct F_impl_EndAct
  rw [spBoth a acts h1 h2, imStat a h1, imActs acts h2.1 h2.2, spDay, imDate]
  cases q1 : statOk a
  · exact ⟨_, rfl, rfl, by simp⟩
  · cases q2 : actsOk acts
    · exact ⟨_, rfl, rfl, by simp⟩
    · have h8 := acts_len q2
      have hw : IntKind.i64.wrap ((acts.length : Int) - 1) = (acts.length : Int) - 1 := W_id (by omega) (by omega)
      cases q3 : within day 0 999
      · exact ⟨_, rfl, rfl, by simp⟩
      · simp only [Bool.and_self, Bool.not_true, cond_false, Option.bind_some]
        rw [hw, spIn, imIn, Option.bind_some]
        cases q4 : within k 0 ((acts.length : Int) - 1)
        · exact ⟨_, rfl, rfl, by simp⟩
        · have hk2 := q4
          unfold within at hk2
          simp only [Bool.and_eq_true, decide_eq_true_eq] at hk2
          obtain ⟨i, rfl⟩ : ∃ i : Nat, k = (i : Int) := ⟨k.toNat, by omega⟩
          have hi : i < acts.length := by omega
          simp only [Bool.not_true, cond_false]
          rw [idx_nat hi, idx_nat hi]
          by_cases c1 : day ≤ acts[i].fFrom
          · rw [decide_eq_true c1]; exact ⟨_, rfl, rfl, by simp⟩
          · rw [decide_eq_false c1]
            simp only [cond_false, Option.bind_some]
            by_cases c2 : day ≥ acts[i].fUntil
            · rw [decide_eq_true c2]; exact ⟨_, rfl, rfl, by simp⟩
            · rw [decide_eq_false c2, spOwn q2, imOwn q2]
              simp only [cond_false, Option.bind_some, idx_nat hi, Int.toNat_natCast]
              have hok := acts_end q2 hi (d := day) (by omega) (by omega)
              obtain ⟨r, e1, e2, -, -⟩ := eqBroken (stat_srt q1) hok
              rw [e1, e2]
              simp only [Option.bind_some]
              cases decide ((r.length : Int) > 0)
              · exact ⟨_, rfl, rfl, acts_bulk hok⟩
              · exact ⟨_, rfl, rfl, by simp⟩
end Go.FX
