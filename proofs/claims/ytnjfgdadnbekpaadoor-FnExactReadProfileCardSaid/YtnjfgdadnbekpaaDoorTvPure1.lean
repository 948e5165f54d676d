/- The pure part: what the functions compute, in plain Lean, with no program in sight; no condition. -/
import Derived.Test.YtnjfgdadnbekpaaDoorTvEq
import Derived.Test.YtnjfgdadnbekpaaDoorTvLib2
namespace Go.FX
open Go Go.GL Go.RowKit
def within (x a b : Int) : Bool := decide (a ≤ x) && decide (x ≤ b)
theorem spIn (x a b : Int) : F_spec_l00In x a b = some (within x a b) := rfl
theorem imIn (x a b : Int) : F_impl_within x a b = some (within x a b) := rfl
theorem not_ge (a b : Int) : decide (a ≥ b) = !decide (a < b) := by
  by_cases h : a < b
  · rw [decide_eq_true h, decide_eq_false (by omega)]; rfl
  · rw [decide_eq_false h, decide_eq_true (by omega)]; rfl
theorem within_iff {x a b : Int} : within x a b = true ↔ a ≤ x ∧ x ≤ b := by
  unfold within
  simp
/-! sets -/
def setC (l : List Int) (n : Int) (i : Nat) : Bool := match l[i]? with
  | some x => within x 0 n && pairAt (fun a b => decide (a < b)) l i
  | none => false
theorem setC_at {l : List Int} {n : Int} {i : Nat} (hi : i < l.length) : setC l n i = (within l[i] 0 n && pairAt (fun a b => decide (a < b)) l i) := by
  unfold setC
  rw [List.getElem?_eq_getElem hi]
def setOk (l : List Int) (n : Int) : Bool := decide (∀ i, i < l.length → setC l n i = true)
theorem imIsSet (l : List Int) (n : Int) (hl : l.length ≤ maxLen) : F_impl_isSet l n = some (setOk l (IntKind.i64.wrap (n - 1))) := by
  unfold F_impl_isSet setOk
  have := all_loop (n := l.length) (F := F_impl_isSet_l1 l n) (setC l (IntKind.i64.wrap (n - 1))) (d := true) (fun f => by rw [F_impl_isSet_l1.eq_2, dlt_f (by omega)]; rfl) (fun i f hi => by
    rw [F_impl_isSet_l1.eq_2, dlt_t hi, cond_true]
    simp only [idx_nat hi, imIn, Option.bind_some, W_succ hi hl]
    rw [pair_code (R := fun a b => decide (a < b)) hi hl (fun x _ => by rw [not_ge]), setC_at hi]
    cases within l[i] 0 (IntKind.i64.wrap (n - 1)) <;> cases pairAt (fun a b => decide (a < b)) l i <;> rfl)
  rw [Bool.and_true] at this
  exact this
/-! increasing lists -/
theorem pair_incr {l : List Int} (h : ∀ i, i < l.length → pairAt (fun a b => decide (a < b)) l i = true) : l.Pairwise (· < ·) := by
  rw [List.pairwise_iff_getElem]
  have step : ∀ i (hi : i + 1 < l.length), l[i]'(by omega) < l[i + 1] := fun i hi => by
    have := h (i + 1) hi
    rw [pairAt_succ hi, decide_eq_true_eq] at this
    exact this
  have far : ∀ k i (hi : i + k + 1 < l.length), l[i]'(by omega) < l[i + k + 1] := by
    intro k
    induction k with
    | zero => intro i hi; exact step i hi
    | succ k ih => intro i hi; exact Int.lt_trans (ih i (by omega)) (step (i + k + 1) hi)
  intro i j hi hj hij
  obtain ⟨k, rfl⟩ : ∃ k, j = i + k + 1 := ⟨j - i - 1, by omega⟩
  exact far k i hj
/-! membership -/
/-! elections -/
/-! profiles -/
def smP (p : DProfile) : Prop := p.fRankings.length ≤ 1048576 ∧ p.fWeights.length ≤ 1048576 ∧ ∀ l ∈ p.fRankings, l.length ≤ 1048576
def dis (l : List Int) (n : Int) (i : Nat) : Bool := match l[i]? with
  | some x => within x 0 (n - 1) && !(l.take i).contains x
  | none => false
theorem dis_at {l : List Int} {n : Int} {i : Nat} (hi : i < l.length) : dis l n i = (within l[i] 0 (n - 1) && !(l.take i).contains l[i]) := by
  unfold dis
  rw [List.getElem?_eq_getElem hi]
def rkOk (l : List Int) (n : Nat) : Bool := decide (l.length = n) && (List.range l.length).all (dis l n)
theorem dis_iff {l : List Int} {n : Int} : (List.range l.length).all (dis l n) = true ↔ (∀ x ∈ l, 0 ≤ x ∧ x ≤ n - 1) ∧ l.Nodup := by
  rw [List.all_eq_true]
  constructor
  · intro h
    have hi : ∀ i (hi : i < l.length), (0 ≤ l[i] ∧ l[i] ≤ n - 1) ∧ l[i] ∉ l.take i := fun i hi => by
      have := h i (List.mem_range.2 hi)
      rw [dis_at hi, Bool.and_eq_true, within_iff, Bool.not_eq_true', ← Bool.not_eq_true, List.contains_iff_mem] at this
      exact this
    refine ⟨fun x hx => ?_, ?_⟩
    · obtain ⟨i, h1, rfl⟩ := List.getElem_of_mem hx
      exact (hi i h1).1
    · rw [List.nodup_iff_pairwise_ne, List.pairwise_iff_getElem]
      intro i j h1 h2 hij e
      refine (hi j h2).2 ?_
      rw [← e, List.mem_iff_getElem]
      exact ⟨i, by rw [List.length_take]; omega, by rw [List.getElem_take]⟩
  · rintro ⟨h1, h2⟩ i hi
    have hi := List.mem_range.1 hi
    rw [dis_at hi, Bool.and_eq_true, within_iff, Bool.not_eq_true', ← Bool.not_eq_true, List.contains_iff_mem]
    refine ⟨h1 _ (List.getElem_mem hi), fun hm => ?_⟩
    obtain ⟨j, hj, e⟩ := List.mem_iff_getElem.1 hm
    rw [List.length_take] at hj
    rw [List.getElem_take] at e
    rw [List.nodup_iff_pairwise_ne, List.pairwise_iff_getElem] at h2
    exact h2 j i (by omega) hi (by omega) e
theorem spRanking {l : List Int} {n : Nat} (hn : 1 ≤ n) (hn6 : n ≤ 1000) (hl : l.length ≤ maxLen) : F_spec_l06Ranking l (n : Int) = some (rkOk l n) := by
  unfold F_spec_l06Ranking rkOk
  by_cases q : l.length = n
  · rw [q, bne_self_eq_false, cond_false, mk_ok (by omega), decide_eq_true rfl, Bool.true_and, Int.toNat_natCast, rep_tab]
    have key : ∀ k i f, i + k = l.length → k < f → F_spec_l06Ranking_l1 l (n : Int) f (tab n fun v => (l.take i).contains (v : Int)) (i : Int) = some (((List.range l.length).drop i).all (dis l n)) := by
      refine up (P := fun i f => F_spec_l06Ranking_l1 l (n : Int) f (tab n fun v => (l.take i).contains (v : Int)) (i : Int) = some (((List.range l.length).drop i).all (dis l n))) (fun f => ?_) (fun i f hi ih => ?_)
      · rw [F_spec_l06Ranking_l1.eq_2, dlt_f (by omega), List.drop_of_length_le (by simp)]; rfl
      · rw [F_spec_l06Ranking_l1.eq_2, dlt_t hi, cond_true, idx_nat hi, spIn, Option.bind_some, List.drop_eq_getElem_cons (by simpa using hi), List.all_cons, List.getElem_range, dis_at hi, W_id (n := (n : Int) - 1) (by omega) (by omega), idx_nat hi]
        cases q2 : within l[i] 0 ((n : Int) - 1)
        · rfl
        · have hr := within_iff.1 q2
          obtain ⟨v, hv⟩ : ∃ v : Nat, l[i] = v := ⟨l[i].toNat, by omega⟩
          have hvn : v < n := by omega
          rw [Bool.not_true, cond_false, hv, idx_tab hvn, Option.bind_some, Bool.true_and]
          cases q3 : (l.take i).contains (v : Int)
          · rw [cond_false, idx_nat hi, hv, idx_tab hvn, Int.toNat_natCast, set_tab, Bool.not_false, Bool.true_and, W_succ hi hl, ← ih]
            congr 1
            refine tab_congr fun j _ => ?_
            rw [← List.take_append_getElem hi, hv]
            by_cases e : j = v
            · rw [if_pos e, e]
              symm
              rw [List.contains_iff_mem, List.mem_append]
              exact .inr (by simp)
            · rw [if_neg e, Bool.eq_iff_iff, List.contains_iff_mem, List.contains_iff_mem, List.mem_append, List.mem_singleton]
              exact ⟨.inl, fun h => h.resolve_right (by omega)⟩
          · rfl
    have := key l.length 0 (l.length + 1) (by omega) (by omega)
    rw [List.drop_zero] at this
    rw [← q]
    rw [← q] at this
    simpa using this
  · rw [bne_t (by omega), decide_eq_false q]
    rfl
theorem imRanking {l : List Int} {n : Nat} (hl : l.length ≤ 1048576) : F_impl_isRanking l (n : Int) = some (rkOk l n && decide (1 ≤ n) && decide (n ≤ 6)) := by
  unfold F_impl_isRanking F_slices_Clone_int64_int64 F_slices_Sort_int64_int64 rkOk
  rw [app_ok (by simp; omega), Option.bind_some, List.nil_append, decide_eq_true (by omega), cond_true, Option.bind_some]
  have hm : (l.mergeSort fun x y => decide (x ≤ y)).length = l.length := List.length_mergeSort _
  by_cases q : l.length = n
  · rw [q, beq_self_eq_true, cond_true, imIsSet _ _ (by rw [hm]; unfold maxLen; omega), Option.bind_some, decide_eq_true rfl, Bool.true_and, W_id (n := (n : Int) - 1) (by omega) (by omega)]
    have e : setOk (l.mergeSort fun x y => decide (x ≤ y)) ((n : Int) - 1) = (List.range l.length).all (dis l n) := by
      have hp := List.mergeSort_perm l (fun x y => decide (x ≤ y))
      have hs : (l.mergeSort fun x y => decide (x ≤ y)).Pairwise (fun a b => a ≤ b) := by
        have := List.pairwise_mergeSort (le := fun x y : Int => decide (x ≤ y)) (fun a b c h1 h2 => by simp at *; omega) (fun a b => by simp; omega) l
        exact this.imp (by simp)
      rw [Bool.eq_iff_iff, dis_iff]
      constructor
      · intro h
        have h1 : ∀ i, i < (l.mergeSort fun x y => decide (x ≤ y)).length → setC (l.mergeSort fun x y => decide (x ≤ y)) ((n : Int) - 1) i = true := by
          unfold setOk at h
          exact of_decide_eq_true h
        have h2 := pair_incr (l := l.mergeSort fun x y => decide (x ≤ y)) fun i hi => by
          have := h1 i hi
          rw [setC_at hi, Bool.and_eq_true] at this
          exact this.2
        refine ⟨fun x hx => ?_, ?_⟩
        · obtain ⟨i, hi, rfl⟩ := List.getElem_of_mem (hp.mem_iff.2 hx)
          have := h1 i hi
          rw [setC_at hi, Bool.and_eq_true, within_iff] at this
          exact this.1
        · exact hp.nodup_iff.1 (h2.imp fun h e => by omega)
      · rintro ⟨h1, h2⟩
        unfold setOk
        refine decide_eq_true fun i hi => ?_
        rw [setC_at hi, Bool.and_eq_true, within_iff]
        refine ⟨h1 _ (hp.mem_iff.1 (List.getElem_mem hi)), ?_⟩
        cases i with
        | zero => rfl
        | succ j =>
          rw [pairAt_succ hi]
          refine decide_eq_true ?_
          have e1 := List.pairwise_iff_getElem.1 hs j (j + 1) (by omega) hi (by omega)
          have e2 := List.pairwise_iff_getElem.1 (List.nodup_iff_pairwise_ne.1 (hp.nodup_iff.2 h2)) j (j + 1) (by omega) hi (by omega)
          omega
    rw [e, q]
    have e1 : decide ((n : Int) ≥ 1) = decide (1 ≤ n) := by rw [decide_eq_decide]; omega
    have e2 : decide ((n : Int) ≤ 6) = decide (n ≤ 6) := by rw [decide_eq_decide]; omega
    rw [e1, e2]
    cases (List.range n).all (dis l n) <;> cases decide (1 ≤ n) <;> cases decide (n ≤ 6) <;> rfl
  · have : ((l.length : Int) == (n : Int)) = false := beq_eq_false_iff_ne.2 (by omega)
    rw [this, decide_eq_false q]
    rfl
end Go.FX
