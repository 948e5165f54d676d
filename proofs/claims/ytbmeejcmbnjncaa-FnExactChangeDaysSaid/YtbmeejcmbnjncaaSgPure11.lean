/- The pure part: what the functions compute, in plain Lean, with no program in sight; no condition. -/
import Derived.Test.YtbmeejcmbnjncaaSgPure10
namespace Go.FX
open Go Go.GL Go.RowKit
theorem imTurns_l {acts : List DAct} (ha : acts.length ≤ 8) : ∀ k i f, i + k = acts.length → k < f → ∀ l : List Int, l.length ≤ 1 + 2 * i → F_impl_turns_l1 acts f l (i : Int) = some (Lib.compact ((l ++ (acts.drop i).flatMap datesOf).mergeSort fun x y => decide (x ≤ y))) := by
  refine up (P := fun i f => ∀ l : List Int, l.length ≤ 1 + 2 * i → F_impl_turns_l1 acts f l (i : Int) = some (Lib.compact ((l ++ (acts.drop i).flatMap datesOf).mergeSort fun x y => decide (x ≤ y)))) (fun f l hl => ?_) (fun i f hi ih l hl => ?_)
  · rw [F_impl_turns_l1.eq_2, dlt_f (by omega), List.drop_length, List.flatMap_nil, List.append_nil, cond_false]
    unfold F_slices_Sort_int64_int64 F_slices_Compact_int64_int64
    rw [decide_eq_true (by omega), cond_true, Option.bind_some, Option.bind_some]
  · have hdl := datesOf_len (c := acts[i])
    rw [F_impl_turns_l1.eq_2, dlt_t hi, cond_true, idx_nat hi, W_succ hi (Nat.le_trans ha (by decide))]
    rw [show (List.length [acts[i].fFrom, acts[i].fUntil] + 1) = 3 from rfl, imTurns_2 (by omega), Option.bind_some, ih _ (by rw [List.length_append]; omega), List.drop_eq_getElem_cons hi, List.flatMap_cons, List.append_assoc]
def turnsL (acts : List DAct) : List Int := putAll [0] (acts.flatMap datesOf)
theorem turns_inc (acts : List DAct) : Inc (turnsL acts) := putAll_inc (List.pairwise_singleton _ _)
theorem turns_len {acts : List DAct} (ha : acts.length ≤ 8) : (turnsL acts).length ≤ 17 := by
  have h1 := putAll_len (l := [0]) (d := acts.flatMap datesOf)
  have h2 : (acts.flatMap datesOf).length ≤ acts.length * 2 := by
    induction acts with
    | nil => simp
    | cons a l ih =>
      have := ih (by simp at ha; omega) (putAll_len (l := [0]) (d := l.flatMap datesOf))
      have := datesOf_len (c := a)
      rw [List.flatMap_cons, List.length_append, List.length_cons]
      omega
  unfold turnsL
  simp only [List.length_cons, List.length_nil] at h1
  omega
theorem spTurns {acts : List DAct} (ha : acts.length ≤ 8) : F_spec_l07Turns acts = some (turnsL acts) := by
  have := spTurns_l ha acts.length 0 (acts.length + 1) (by omega) (by omega) [0] (by simp)
  rw [List.drop_zero] at this
  exact this
theorem imTurns {acts : List DAct} (ha : acts.length ≤ 8) : F_impl_turns acts = some (turnsL acts) := by
  have := imTurns_l ha acts.length 0 (acts.length + 1) (by omega) (by omega) [0] (by simp)
  rw [List.drop_zero] at this
  have hs : ((([0] : List Int) ++ acts.flatMap datesOf).mergeSort fun x y => decide (x ≤ y)).Pairwise (· ≤ ·) := by
    have := List.pairwise_mergeSort (le := fun x y : Int => decide (x ≤ y)) (fun a b c h1 h2 => by simp at *; omega) (fun a b => by simp; omega) ([0] ++ acts.flatMap datesOf)
    exact this.imp fun h => by simpa using h
  obtain ⟨c1, c2⟩ := comp_inc hs
  have e : Lib.compact ((([0] : List Int) ++ acts.flatMap datesOf).mergeSort fun x y => decide (x ≤ y)) = turnsL acts := inc_ext c1 (turns_inc acts) fun x => by
    rw [c2, List.mem_mergeSort, List.mem_append]
    unfold turnsL
    rw [putAll_mem]
  rw [e] at this
  exact this
theorem turns_rng {acts : List DAct} {x : Int} (h : x ∈ turnsL acts) : 0 ≤ x ∧ x ≤ 999 := by
  unfold turnsL at h
  rcases putAll_mem.1 h with h | h
  · rw [List.mem_singleton] at h; omega
  · obtain ⟨c, -, hc⟩ := List.mem_flatMap.1 h
    unfold datesOf at hc
    rcases List.mem_append.1 hc with hc | hc
    · split at hc
      · rename_i hw
        unfold within at hw
        simp only [Bool.and_eq_true, decide_eq_true_eq] at hw
        rw [List.mem_singleton] at hc
        omega
      · cases hc
    · split at hc
      · rename_i hw
        unfold within at hw
        simp only [Bool.and_eq_true, decide_eq_true_eq] at hw
        rw [List.mem_singleton] at hc
        omega
      · cases hc
theorem dlt_gt {n : Nat} (h : 0 < n) : decide ((n : Int) > 0) = true := decide_eq_true (by omega)
/-- the end of the last interval, as the two programs keep it -/
def lastEnd (l : List (List Int)) (q : Bool) (d : Int) : Prop := (l = [] ∧ q = false) ∨ ∃ m s e, l = m ++ [[s, e]] ∧ (q = true → e = d - 1) ∧ (q = false → e < d - 1) ∧ e ≤ 999
theorem brk_loop {a : List DArticle} {acts : List DAct} (hs : Srt a) (hk : actsOk acts = true) {D : List Int} (hD : Inc D) (hr : ∀ x ∈ D, 0 ≤ x ∧ x ≤ 999) (hl : D.length ≤ 17) : ∀ k i f, i + k = D.length → k < f → ∀ (l : List (List Int)) (q : Bool), l.length ≤ i → (∀ (h : i < D.length), lastEnd l q D[i]) →
    ∃ r, F_spec_l07Broken_l1 D a acts f l q (i : Int) = some r ∧ F_impl_broken_l1 D a acts f l (i : Int) = some r ∧ r.length ≤ D.length ∧ ∀ u ∈ r, u ∈ l ∨ u.length = 2 := by
  refine up (P := fun i f => ∀ (l : List (List Int)) (q : Bool), l.length ≤ i → (∀ (h : i < D.length), lastEnd l q D[i]) →
    ∃ r, F_spec_l07Broken_l1 D a acts f l q (i : Int) = some r ∧ F_impl_broken_l1 D a acts f l (i : Int) = some r ∧ r.length ≤ D.length ∧ ∀ u ∈ r, u ∈ l ∨ u.length = 2) (fun f l q hll _ => ?_) (fun i f hi ih l q hll hq => ?_)
  · rw [F_spec_l07Broken_l1.eq_2, F_impl_broken_l1.eq_2, dlt_f (by omega)]
    exact ⟨l, rfl, rfl, by omega, fun u hu => .inl hu⟩
  · have hq := hq hi
    obtain ⟨d1, d2⟩ := hr _ (List.getElem_mem hi)
    have hpw := List.pairwise_iff_getElem.1 hD
    obtain ⟨last, hb, hlast, h999⟩ : ∃ last : Int, (bif (decide (IntKind.i64.wrap ((i : Int) + 1) < (D.length : Int))) then (idx D (IntKind.i64.wrap ((i : Int) + 1)) fun x => some (IntKind.i64.wrap (x - 1))) else some 999) = some last ∧ (∀ (h : i + 1 < D.length), last = D[i + 1] - 1) ∧ last ≤ 999 := by
      rw [W_succ hi (Nat.le_trans hl (by decide))]
      by_cases h : i + 1 < D.length
      · obtain ⟨d3, d4⟩ := hr _ (List.getElem_mem h)
        refine ⟨D[i + 1] - 1, ?_, fun _ => rfl, by omega⟩
        rw [dlt_t h, cond_true, idx_nat h, W_id (by omega) (by omega)]
      · refine ⟨999, ?_, fun h2 => absurd h2 h, by omega⟩
        rw [dlt_f (by omega)]; rfl
    obtain ⟨r, e1, e2, -⟩ := eqOn D[i] hs hk
    have hw : IntKind.i64.wrap (D[i] - 1) = D[i] - 1 := W_id (by omega) (by omega)
    rw [F_spec_l07Broken_l1.eq_2, F_impl_broken_l1.eq_2, dlt_t hi, cond_true, cond_true, idx_nat hi, hb, Option.bind_some, Option.bind_some, idx_nat hi, e1, e2, Option.bind_some, Option.bind_some, W_succ hi (Nat.le_trans hl (by decide))]
    cases hr2 : r.2 with
    | true =>
      simp only [Bool.not_true, Bool.false_and, cond_false, cond_true]
      refine ih l false (by omega) fun h => ?_
      have h3 := hpw i (i + 1) hi h (by omega)
      rcases hq with ⟨h1, -⟩ | ⟨m, s, e, h1, h2, h4, h5⟩
      · exact .inl ⟨h1, rfl⟩
      · refine .inr ⟨m, s, e, h1, fun h => (by cases h), fun _ => ?_, h5⟩
        cases q
        · have := h4 rfl; omega
        · have := h2 rfl; omega
    | false =>
      have hnew : ∀ (l' : List (List Int)) (s : Int) (m : List (List Int)), l' = m ++ [[s, last]] → ∀ (h : i + 1 < D.length), lastEnd l' true D[i + 1] := fun l' s m hl' h =>
        .inr ⟨m, s, last, hl', fun _ => hlast h, fun h => (by cases h), h999⟩
      cases q with
      | true =>
        rcases hq with ⟨-, h1⟩ | ⟨m, s, e, rfl, h2, -, -⟩
        · cases h1
        · obtain rfl : e = D[i] - 1 := h2 rfl
          have hml : m.length < (m ++ [[s, D[i] - 1]]).length := by simp
          have hwl : IntKind.i64.wrap (((m ++ [[s, D[i] - 1]]).length : Int) - 1) = (m.length : Int) := by
            rw [W_id (by omega) (by omega)]; simp
          have hx : ∀ {β : Type} (K : List Int → Option β), idx (m ++ [[s, D[i] - 1]]) (m.length : Int) K = K [s, D[i] - 1] := fun K => by
            rw [idx_nat hml]; simp
          have hi1 : ∀ {β : Type} (K : Int → Option β), idx [s, D[i] - 1] 1 K = K (D[i] - 1) := fun K => rfl
          have hset : List.set (m ++ [[s, D[i] - 1]]) m.length (List.set [s, D[i] - 1] (Int.toNat 1) last) = m ++ [[s, last]] := by
            rw [show List.set [s, D[i] - 1] (Int.toNat 1) last = [s, last] from rfl]; simp
          simp only [Bool.not_false, Bool.true_and, cond_true, cond_false]
          rw [hwl, hx, hi1, dlt_gt (show 0 < (m ++ [[s, D[i] - 1]]).length by simp), cond_true, hx, hi1, Option.bind_some, hw, beq_self_eq_true, cond_true, hx, hi1, Int.toNat_natCast, hset]
          obtain ⟨r', f1, f2, f3, f4⟩ := ih (m ++ [[s, last]]) true (by simp at hll ⊢; omega) (hnew _ s m rfl)
          refine ⟨r', f1, f2, f3, fun u hu => ?_⟩
          rcases f4 u hu with h | h
          · rcases List.mem_append.1 h with h | h
            · exact .inl (List.mem_append_left _ h)
            · right; rw [List.mem_singleton.1 h]; rfl
          · exact .inr h
      | false =>
        have hfin : ∃ r, F_spec_l07Broken_l1 D a acts f (l ++ [[D[i], last]]) true ((i + 1 : Nat) : Int) = some r ∧ F_impl_broken_l1 D a acts f (l ++ [[D[i], last]]) ((i + 1 : Nat) : Int) = some r ∧ r.length ≤ D.length ∧ ∀ u ∈ r, u ∈ l ∨ u.length = 2 := by
          obtain ⟨r', f1, f2, f3, f4⟩ := ih (l ++ [[D[i], last]]) true (by simp; omega) (hnew _ D[i] l rfl)
          refine ⟨r', f1, f2, f3, fun u hu => ?_⟩
          rcases f4 u hu with h | h
          · rcases List.mem_append.1 h with h | h
            · exact .inl h
            · right; rw [List.mem_singleton.1 h]; rfl
          · exact .inr h
        simp only [Bool.not_false, Bool.and_false, cond_true, cond_false]
        rcases hq with ⟨rfl, -⟩ | ⟨m, s, e, rfl, -, h4, -⟩
        · rw [idx_nat hi, app_ok (by simp), app_ok (by simp)]
          exact hfin
        · have he := h4 rfl
          have hml : m.length < (m ++ [[s, e]]).length := by simp
          have hwl : IntKind.i64.wrap (((m ++ [[s, e]]).length : Int) - 1) = (m.length : Int) := by
            rw [W_id (by omega) (by omega)]; simp
          have hx : ∀ {β : Type} (K : List Int → Option β), idx (m ++ [[s, e]]) (m.length : Int) K = K [s, e] := fun K => by
            rw [idx_nat hml]; simp
          have hi1 : ∀ {β : Type} (K : Int → Option β), idx [s, e] 1 K = K e := fun K => rfl
          rw [idx_nat hi, app_ok (by simp at hll ⊢; omega), dlt_gt (show 0 < (m ++ [[s, e]]).length by simp), cond_true, hwl, hx, hi1, Option.bind_some, hw, beq_eq_false_iff_ne.2 (by omega), cond_false, app_ok (by simp at hll ⊢; omega)]
          exact hfin
end Go.FX
