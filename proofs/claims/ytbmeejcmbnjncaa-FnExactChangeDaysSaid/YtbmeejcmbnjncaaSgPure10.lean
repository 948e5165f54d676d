/- The pure part: what the functions compute, in plain Lean, with no program in sight; no condition. -/
import Derived.Test.YtbmeejcmbnjncaaSgPure9
namespace Go.FX
open Go Go.GL Go.RowKit
theorem comp_inc {l : List Int} (h : l.Pairwise (· ≤ ·)) : Inc (Lib.compact l) ∧ ∀ x, x ∈ Lib.compact l ↔ x ∈ l := by
  have hg : ∀ {j : Nat} (hj : j < l.length), l.toArray[j]! = l[j] := fun {j} hj => by
    rw [getElem!_pos l.toArray j (by simpa using hj)]; simp
  have hp := List.pairwise_iff_getElem.1 h
  unfold Lib.compact Lib.compactUpTo
  refine ⟨?_, fun x => ?_⟩
  · refine List.Pairwise.map _ (fun i j hij => ?_) (List.Pairwise.and_mem.1 (List.Pairwise.filter (Lib.keeps l.toArray) (List.pairwise_lt_range)))
    obtain ⟨hi, hj, hlt⟩ := hij
    obtain ⟨hi1, -⟩ := List.mem_filter.1 hi
    obtain ⟨hj1, hj2⟩ := List.mem_filter.1 hj
    rw [List.mem_range] at hi1 hj1
    unfold Lib.keeps at hj2
    have hj3 := of_decide_eq_true hj2
    rw [hg hi1, hg hj1]
    rcases hj3 with h0 | h0
    · omega
    · rw [hg hj1, hg (show j - 1 < l.length by omega)] at h0
      have h1 := hp (j - 1) j (by omega) hj1 (by omega)
      by_cases hij : i = j - 1
      · subst hij; omega
      · have h2 := hp i (j - 1) hi1 (by omega) (by omega)
        omega
  · rw [List.mem_map]
    constructor
    · rintro ⟨j, hj, rfl⟩
      have hj1 := List.mem_range.1 (List.mem_filter.1 hj).1
      rw [hg hj1]
      exact List.getElem_mem hj1
    · intro hx
      have key : ∀ n (j : Nat) (hj : j < l.length), j ≤ n → l[j] = x → ∃ a, a ∈ (List.range l.length).filter (Lib.keeps l.toArray) ∧ l.toArray[a]! = x := by
        intro n
        induction n with
        | zero =>
          intro j hj hn e
          have : j = 0 := by omega
          subst this
          exact ⟨0, List.mem_filter.2 ⟨List.mem_range.2 hj, by simp [Lib.keeps]⟩, by rw [hg hj]; exact e⟩
        | succ n ih =>
          intro j hj hn e
          by_cases hk : Lib.keeps l.toArray j = true
          · exact ⟨j, List.mem_filter.2 ⟨List.mem_range.2 hj, hk⟩, by rw [hg hj]; exact e⟩
          · unfold Lib.keeps at hk
            have hk2 : ¬ (j = 0 ∨ l.toArray[j]! ≠ l.toArray[j - 1]!) := fun h => hk (decide_eq_true h)
            have h0 : j ≠ 0 := fun h => hk2 (.inl h)
            have h1 : l.toArray[j]! = l.toArray[j - 1]! := Classical.byContradiction fun h => hk2 (.inr h)
            rw [hg hj, hg (show j - 1 < l.length by omega)] at h1
            exact ih (j - 1) (by omega) (by omega) (h1.symm.trans e)
      obtain ⟨j, hj, e⟩ := List.getElem_of_mem hx
      exact key j j hj (Nat.le_refl _) e
def datesOf (c : DAct) : List Int := (if within c.fFrom 0 999 = true then [c.fFrom] else []) ++ (if within c.fUntil 0 999 = true then [c.fUntil] else [])
def putAll (l : List Int) (d : List Int) : List Int := d.foldl putL l
theorem putAll_inc {d : List Int} : ∀ {l : List Int}, Inc l → Inc (putAll l d) := by
  induction d with
  | nil => intro l h; exact h
  | cons x d ih => intro l h; exact ih (putL_inc h)
theorem putAll_mem {d : List Int} : ∀ {l : List Int} {y : Int}, y ∈ putAll l d ↔ y ∈ l ∨ y ∈ d := by
  induction d with
  | nil => intro l y; simp [putAll]
  | cons x d ih =>
    intro l y
    show y ∈ putAll (putL l x) d ↔ _
    rw [ih, putL_mem, List.mem_cons]
    constructor
    · rintro ((h | h) | h) <;> simp [h]
    · rintro (h | h | h) <;> simp [h]
theorem putAll_len {d : List Int} : ∀ {l : List Int}, (putAll l d).length ≤ l.length + d.length := by
  induction d with
  | nil => intro l; simp [putAll]
  | cons x d ih =>
    intro l
    have h1 := ih (l := putL l x)
    have h2 := putL_len (l := l) (x := x)
    show (putAll (putL l x) d).length ≤ _
    simp only [List.length_cons]
    omega
theorem datesOf_len {c : DAct} : (datesOf c).length ≤ 2 := by
  unfold datesOf
  split <;> split <;> simp
theorem spTurns_l {acts : List DAct} (ha : acts.length ≤ 8) : ∀ k i f, i + k = acts.length → k < f → ∀ l : List Int, l.length ≤ 1 + 2 * i → F_spec_l07Turns_l1 acts f l (i : Int) = some (putAll l ((acts.drop i).flatMap datesOf)) := by
  refine up (P := fun i f => ∀ l : List Int, l.length ≤ 1 + 2 * i → F_spec_l07Turns_l1 acts f l (i : Int) = some (putAll l ((acts.drop i).flatMap datesOf))) (fun f l _ => ?_) (fun i f hi ih l hl => ?_)
  · rw [F_spec_l07Turns_l1.eq_2, dlt_f (by omega), List.drop_length]; rfl
  · have hd : (acts.drop i).flatMap datesOf = datesOf acts[i] ++ (acts.drop (i + 1)).flatMap datesOf := by rw [List.drop_eq_getElem_cons hi, List.flatMap_cons]
    rw [F_spec_l07Turns_l1.eq_2, dlt_t hi, cond_true, hd]
    simp only [idx_nat hi, spDay, Option.bind_some]
    rw [W_succ hi (Nat.le_trans ha (by decide))]
    have hi8 : i < 8 := by omega
    have hp : putAll l (datesOf acts[i] ++ (acts.drop (i + 1)).flatMap datesOf) = putAll (putAll l (datesOf acts[i])) ((acts.drop (i + 1)).flatMap datesOf) := by
      unfold putAll; rw [List.foldl_append]
    rw [hp]
    have hpl := putAll_len (l := l) (d := datesOf acts[i])
    have hdl := datesOf_len (c := acts[i])
    have e : putAll l (datesOf acts[i]) = (if within acts[i].fUntil 0 999 = true then putL (if within acts[i].fFrom 0 999 = true then putL l acts[i].fFrom else l) acts[i].fUntil else (if within acts[i].fFrom 0 999 = true then putL l acts[i].fFrom else l)) := by
      unfold putAll datesOf
      split <;> split <;> rfl
    have l1 := putL_len (l := l) (x := acts[i].fFrom)
    cases q1 : within acts[i].fFrom 0 999 <;> cases q2 : within acts[i].fUntil 0 999 <;> simp only [cond_false, cond_true, Option.bind_some] <;> rw [q1, q2] at e <;> simp only [Bool.false_eq_true, if_false, if_true] at e
    · rw [ih l (by omega), e]
    · rw [spPut (by omega), Option.bind_some, ih _ (by rw [← e]; omega), e]
    · rw [spPut (by omega)]
      simp only [Option.bind_some]
      rw [ih _ (by rw [← e]; omega), e]
    · rw [spPut (by omega)]
      simp only [Option.bind_some]
      rw [spPut (by omega), Option.bind_some, ih _ (by rw [← e]; omega), e]
theorem imTurns_2 {c : DAct} {l : List Int} (hl : l.length ≤ 1000) : F_impl_turns_l2 c 3 l 0 = some (l ++ datesOf c) := by
  unfold datesOf
  have i0 : ∀ {β : Type} (K : Int → Option β), idx [c.fFrom, c.fUntil] 0 K = K c.fFrom := fun K => rfl
  have i1 : ∀ {β : Type} (K : Int → Option β), idx [c.fFrom, c.fUntil] 1 K = K c.fUntil := fun K => rfl
  have w1 : IntKind.i64.wrap (0 + 1) = 1 := by decide
  have w2 : IntKind.i64.wrap (1 + 1) = 2 := by decide
  rw [F_impl_turns_l2.eq_2, show decide ((0 : Int) < (List.length [c.fFrom, c.fUntil] : Int)) = true from rfl, cond_true, i0, imDate, Option.bind_some, w1]
  cases q1 : within c.fFrom 0 999 <;> cases q2 : within c.fUntil 0 999 <;> simp only [cond_false, cond_true]
  · rw [F_impl_turns_l2.eq_2, show decide ((1 : Int) < (List.length [c.fFrom, c.fUntil] : Int)) = true from rfl, cond_true, i1, imDate, Option.bind_some, w2, q2, cond_false, F_impl_turns_l2.eq_2, show decide ((2 : Int) < (List.length [c.fFrom, c.fUntil] : Int)) = false from rfl]
    simp
  · rw [F_impl_turns_l2.eq_2, show decide ((1 : Int) < (List.length [c.fFrom, c.fUntil] : Int)) = true from rfl, cond_true, i1, imDate, Option.bind_some, w2, q2, cond_true, app_ok (by simp; omega), F_impl_turns_l2.eq_2, show decide ((2 : Int) < (List.length [c.fFrom, c.fUntil] : Int)) = false from rfl]
    simp
  · rw [app_ok (by simp; omega), F_impl_turns_l2.eq_2, show decide ((1 : Int) < (List.length [c.fFrom, c.fUntil] : Int)) = true from rfl, cond_true, i1, imDate, Option.bind_some, w2, q2, cond_false, F_impl_turns_l2.eq_2, show decide ((2 : Int) < (List.length [c.fFrom, c.fUntil] : Int)) = false from rfl]
    simp
  · rw [app_ok (by simp; omega), F_impl_turns_l2.eq_2, show decide ((1 : Int) < (List.length [c.fFrom, c.fUntil] : Int)) = true from rfl, cond_true, i1, imDate, Option.bind_some, w2, q2, cond_true, app_ok (by simp; omega), F_impl_turns_l2.eq_2, show decide ((2 : Int) < (List.length [c.fFrom, c.fUntil] : Int)) = false from rfl]
    simp
end Go.FX
