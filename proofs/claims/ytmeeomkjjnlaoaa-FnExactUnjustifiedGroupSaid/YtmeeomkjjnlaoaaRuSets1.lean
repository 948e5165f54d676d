/- The pure part: what the functions compute, in plain Lean, with no program in sight; no condition. -/
import Derived.Test.YtmeeomkjjnlaoaaRuPure2
namespace Go.FX
open Go Go.GL Go.RowKit
/-! lists of numbers in the order of their elements -/
def cmpL : List Int → List Int → Int
  | [], [] => 0
  | [], _ :: _ => -1
  | _ :: _, [] => 1
  | a :: l, b :: m => if a < b then -1 else if b < a then 1 else cmpL l m
theorem cmpL_cons (a : Int) (l : List Int) (b : Int) (m : List Int) : cmpL (a :: l) (b :: m) = if a < b then -1 else if b < a then 1 else cmpL l m := rfl
theorem cmpL_swap : ∀ (x y : List Int), cmpL y x = - cmpL x y := by
  intro x
  induction x with
  | nil => intro y; cases y <;> rfl
  | cons a l ih =>
    intro y
    cases y with
    | nil => rfl
    | cons b m =>
      rw [cmpL_cons, cmpL_cons]
      by_cases h1 : a < b
      · rw [if_pos h1, if_neg (by omega), if_pos h1]; rfl
      · by_cases h2 : b < a
        · rw [if_pos h2, if_neg h1, if_pos h2]
        · rw [if_neg h2, if_neg h1, if_neg h1, if_neg h2, ih m]
theorem cmpL_eq : ∀ {x y : List Int}, cmpL x y = 0 → x = y := by
  intro x
  induction x with
  | nil => intro y h; cases y with
    | nil => rfl
    | cons b m => exact absurd (show (-1 : Int) = 0 from h) (by decide)
  | cons a l ih =>
    intro y h
    cases y with
    | nil => exact absurd (show (1 : Int) = 0 from h) (by decide)
    | cons b m =>
      rw [cmpL_cons] at h
      by_cases h1 : a < b
      · rw [if_pos h1] at h; exact absurd h (by decide)
      · rw [if_neg h1] at h
        by_cases h2 : b < a
        · rw [if_pos h2] at h; exact absurd h (by decide)
        · rw [if_neg h2] at h
          rw [ih h, show a = b by omega]
theorem cmpL_trans : ∀ {x y z : List Int}, cmpL x y < 0 → cmpL y z < 0 → cmpL x z < 0 := by
  intro x
  induction x with
  | nil =>
    intro y z h1 h2
    cases z with
    | nil => cases y with
      | nil => exact absurd h1 (by decide)
      | cons b m => exact absurd h2 (by unfold cmpL; decide)
    | cons c k => unfold cmpL; decide
  | cons a l ih =>
    intro y z h1 h2
    cases y with
    | nil => exact absurd h1 (by unfold cmpL; decide)
    | cons b m =>
      cases z with
      | nil => exact absurd h2 (by unfold cmpL; decide)
      | cons c k =>
        rw [cmpL_cons] at h1 h2 ⊢
        by_cases a1 : a < b
        · by_cases a2 : b < c
          · rw [if_pos (by omega)]; decide
          · rw [if_neg a2] at h2
            by_cases a3 : c < b
            · rw [if_pos a3] at h2; exact absurd h2 (by decide)
            · rw [if_pos (by omega)]; decide
        · rw [if_neg a1] at h1
          by_cases a2 : b < a
          · rw [if_pos a2] at h1; exact absurd h1 (by decide)
          · rw [if_neg a2] at h1
            by_cases a3 : b < c
            · rw [if_pos (by omega)]; decide
            · rw [if_neg a3] at h2
              by_cases a4 : c < b
              · rw [if_pos a4] at h2; exact absurd h2 (by decide)
              · rw [if_neg a4] at h2
                rw [if_neg (by omega), if_neg (by omega)]
                exact ih h1 h2
theorem cmpL_self (x : List Int) : cmpL x x = 0 := by
  have := cmpL_swap x x
  omega
theorem imCmp (a b : Int) : F_cmp_Compare_int64 a b = some (if a < b then -1 else if b < a then 1 else 0) := by
  unfold F_cmp_Compare_int64 F_cmp_isNaN_int64
  simp only [bne_self_eq_false, Option.bind_some, cond_false]
  by_cases h1 : a < b
  · rw [decide_eq_true h1, if_pos h1]; rfl
  · rw [decide_eq_false h1, if_neg h1, cond_false]
    by_cases h2 : b < a
    · rw [decide_eq_true (show a > b from h2), if_pos h2]; rfl
    · rw [decide_eq_false (show ¬ a > b from h2), if_neg h2]; rfl
theorem imCompare {a b : List Int} (ha : a.length ≤ maxLen) : F_slices_Compare_int64_int64 a b = some (cmpL a b) := by
  unfold F_slices_Compare_int64_int64
  have key := up (n := a.length) (P := fun i f => i ≤ b.length → F_slices_Compare_int64_int64_l1 a b f (i : Int) = some (cmpL (a.drop i) (b.drop i))) (fun f hb => ?_) (fun i f hi ih hb => ?_) a.length 0 (a.length + 1) (by omega) (by omega) (Nat.zero_le _)
  · simpa using key
  · rw [F_slices_Compare_int64_int64_l1.eq_2, dlt_f (by omega), cond_false, List.drop_length]
    by_cases h : a.length < b.length
    · rw [dlt_t h, cond_true, List.drop_eq_getElem_cons h]; rfl
    · rw [dlt_f h, cond_false, List.drop_of_length_le (by omega)]; rfl
  · rw [F_slices_Compare_int64_int64_l1.eq_2, dlt_t hi, cond_true, idx_nat hi, List.drop_eq_getElem_cons hi]
    by_cases h : i < b.length
    · rw [decide_eq_false (show ¬ ((i : Int) ≥ (b.length : Int)) by omega), cond_false, idx_nat h, imCmp, Option.bind_some, List.drop_eq_getElem_cons h, W_succ hi ha, ih (by omega), cmpL_cons]
      by_cases h1 : a[i] < b[i]
      · rw [if_pos h1, if_pos h1]; rfl
      · rw [if_neg h1, if_neg h1]
        by_cases h2 : b[i] < a[i]
        · rw [if_pos h2, if_pos h2]; rfl
        · rw [if_neg h2, if_neg h2]; rfl
    · rw [decide_eq_true (show (i : Int) ≥ (b.length : Int) by omega), cond_true, List.drop_of_length_le (show b.length ≤ i by omega)]; rfl
theorem imSort1 {x y : List Int} (h : x.length ≤ maxLen) : F_impl_allSets_1 x y = some (cmpL x y) := by
  unfold F_impl_allSets_1
  rw [imCompare h]; rfl
theorem sets_sort {l : List (List Int)} (hl : l.length ≤ 1000) (hn : l.Nodup) (hs : ∀ x ∈ l, x.length ≤ maxLen) : ∃ r, sortG F_impl_allSets_1 l = some r ∧ r.Perm l ∧ r.Pairwise (fun x y => cmpL x y < 0) := by
  have hv : ∀ x ∈ l, ∀ y, (F_impl_allSets_1 x y).getD 0 = cmpL x y := fun x hx y => by rw [imSort1 (hs x hx)]; rfl
  have hg : goodCmp F_impl_allSets_1 l := by
    refine ⟨by omega, hn, fun x hx y _ => by rw [imSort1 (hs x hx)]; rfl, fun x hx => ?_, fun x hx y hy z hz h1 h2 => ?_, fun x hx y hy z hz h1 h2 => ?_, fun x hx y hy h1 h2 => ?_⟩
    · rw [hv x hx, cmpL_self]; omega
    · rw [hv x hx] at h1; rw [hv y hy] at h2; rw [hv x hx]; exact cmpL_trans h1 h2
    · rw [hv x hx] at h1; rw [hv y hy] at h2; rw [hv x hx]
      intro h3
      have s1 := cmpL_swap x y
      by_cases e : cmpL x y = 0
      · rw [← cmpL_eq e] at h2; exact h2 h3
      · exact h2 (cmpL_trans (by omega) h3)
    · rw [hv x hx] at h1; rw [hv y hy] at h2
      have s1 := cmpL_swap x y
      exact cmpL_eq (by omega)
  refine ⟨_, sortG_ok hg, List.mergeSort_perm _ _, ?_⟩
  have hc : l.mergeSort (fun x y => !decide ((F_impl_allSets_1 y x).getD 0 < 0)) = l.mergeSort (fun x y => !decide (cmpL y x < 0)) := by
    have := List.map_mergeSort (l := l) (f := id) (r := fun x y => !decide ((F_impl_allSets_1 y x).getD 0 < 0)) (s := fun x y => !decide (cmpL y x < 0)) (fun a ha b hb => by
      simp only [id]
      rw [hv b hb])
    rwa [List.map_id, List.map_id] at this
  rw [hc]
  have h1 : (l.mergeSort fun x y => !decide (cmpL y x < 0)).Pairwise (fun x y => ¬ cmpL y x < 0) :=
    (List.pairwise_mergeSort (le := fun x y : List Int => !decide (cmpL y x < 0)) (fun a b c h1 h2 => by
      simp only [Bool.not_eq_true', decide_eq_false_iff_not] at h1 h2 ⊢
      intro h3
      have s1 := cmpL_swap a b
      by_cases e : cmpL a b = 0
      · rw [cmpL_eq e] at h3; exact h2 h3
      · exact h2 (cmpL_trans h3 (by omega))) (fun a b => by
      have s1 := cmpL_swap a b
      by_cases h : cmpL b a < 0
      · rw [decide_eq_true h, decide_eq_false (by omega)]; rfl
      · rw [decide_eq_false h]; rfl) l).imp fun h => by simpa using h
  have h2 : (l.mergeSort fun x y => !decide (cmpL y x < 0)).Pairwise (fun a b => a ≠ b) := (List.mergeSort_perm _ _).nodup_iff.2 hn
  refine (h1.and h2).imp fun {a b} h => ?_
  have s1 := cmpL_swap a b
  by_cases e : cmpL a b = 0
  · exact absurd (cmpL_eq e) h.2
  · omega
/-! all sets -/
def setB (n j : Nat) : List Int := lst n (fun i => (j + 1).testBit i)
theorem msk_self {n m : Nat} (h : m < 2 ^ n) : msk n (fun i => m.testBit i) = m := by
  apply Nat.eq_of_testBit_eq
  intro i
  rw [msk_bit]
  by_cases hi : i < n
  · rw [decide_eq_true hi, Bool.true_and]
  · rw [decide_eq_false hi, Bool.false_and, Nat.testBit_lt_two_pow (Nat.lt_of_lt_of_le h (Nat.pow_le_pow_right (by decide) (by omega)))]
theorem imSetOf {n : Nat} (hn : n ≤ 62) {p : Nat → Bool} : F_impl_setOf (msk n p : Int) = some (lst n p) := by
  unfold F_impl_setOf
  refine up (n := n) (P := fun i f => F_impl_setOf_l1 (msk n p : Int) f (lst i p) (i : Int) = some (lst n p)) (fun f => ?_) (fun i f hi ih => ?_) n 0 100 (by omega) (by omega)
  · rw [F_impl_setOf_l1.eq_2, shc_nat, m_shr hn (Nat.le_refl _), decide_eq_false (fun ⟨i, h1, h2, _⟩ => by omega), cond_false]
  · rw [F_impl_setOf_l1.eq_2, shc_nat, m_shr hn (by omega)]
    by_cases h : ∃ j, j < n ∧ i ≤ j ∧ p j = true
    · rw [decide_eq_true h, cond_true, shc_nat, m_bit hn hi, W_succ (n := 100) (i := i) (by omega) (by decide), ← ih, lst_succ]
      cases p i
      · rfl
      · rw [cond_true, app_ok (by have := lst_len (n := i) (p := p); simp; omega)]; rfl
    · rw [decide_eq_false h, cond_false, lst_more (n := i) (m := n) (by omega) (fun j h1 h2 => by
        cases hp : p j with
        | false => rfl
        | true => exact absurd ⟨j, h1, h2, hp⟩ h)]
theorem lst_inj {n : Nat} {p q : Nat → Bool} (h : lst n p = lst n q) : ∀ i, i < n → p i = q i := by
  intro i hi
  have h1 := lst_contains (n := n) (p := p) (i := i)
  rw [h, lst_contains, decide_eq_true hi, Bool.true_and, Bool.true_and] at h1
  exact h1.symm
theorem setB_inj {n j k : Nat} (hj : j + 1 < 2 ^ n) (hk : k + 1 < 2 ^ n) (h : setB n j = setB n k) : j = k := by
  have := lst_inj h
  have e : j + 1 = k + 1 := by
    rw [← msk_self hj, ← msk_self hk]
    exact msk_congr this
  omega
theorem sets_nodup (n : Nat) : ((List.range (2 ^ n - 1)).map (setB n)).Nodup := by
  refine List.Pairwise.map _ (fun a b hab => hab) (List.Pairwise.imp_of_mem (fun {a b} ha hb hab => ?_) List.pairwise_lt_range)
  intro e
  have h1 := List.mem_range.1 ha
  have h2 := List.mem_range.1 hb
  have := setB_inj (by omega) (by omega) e
  omega
theorem shl_one {n : Nat} (hn : n ≤ 6) : ishl .i64 1 (n : Int) = ((2 ^ n : Nat) : Int) := by
  have : ∀ k : Fin 7, ishl .i64 1 (k.val : Int) = ((2 ^ k.val : Nat) : Int) := by decide
  exact this ⟨n, by omega⟩
theorem imAllSets {n : Nat} (hn : n ≤ 6) : ∃ r, F_impl_allSets (n : Int) = some r ∧ r.Perm ((List.range (2 ^ n - 1)).map (setB n)) ∧ r.Pairwise (fun x y => cmpL x y < 0) := by
  have h64 : 2 ^ n ≤ 64 := Nat.pow_le_pow_right (n := 2) (by decide) hn
  have h1 : 1 ≤ 2 ^ n := Nat.one_le_two_pow
  have hlen : ((List.range (2 ^ n - 1)).map (setB n)).length = 2 ^ n - 1 := by rw [List.length_map, List.length_range]
  obtain ⟨r, e1, e2, e3⟩ := sets_sort (l := (List.range (2 ^ n - 1)).map (setB n)) (by omega) (sets_nodup n) (fun x hx => by
    obtain ⟨j, -, rfl⟩ := List.mem_map.1 hx
    have := lst_len (n := n) (p := fun i => (j + 1).testBit i)
    unfold setB maxLen; omega)
  refine ⟨r, ?_, e2, e3⟩
  unfold F_impl_allSets
  have := app_loop (n := 2 ^ n - 1) (b := 1) (F := fun f acc i => F_impl_allSets_l1 (n : Int) f acc (i + 1)) (fun j => [setB n j]) (fun l => (sortG F_impl_allSets_1 l).bind fun x => some x) 0 (fun _ _ => by simp) (fun f acc => ?_) (fun f acc i hi hacc => ?_) (m := Int.toNat (ishl .i64 1 (n : Int) - 1) + 2) (acc := []) (by rw [shl_one hn]; omega) (Nat.le_refl _)
  · rw [List.nil_append, ← List.map_eq_flatMap, e1] at this
    exact this
  · show F_impl_allSets_l1 (n : Int) (f + 1) acc ((((2 ^ n - 1 : Nat)) : Int) + 1) = _
    rw [F_impl_allSets_l1.eq_2, shc_nat, shl_one hn, decide_eq_false (by omega), cond_false]
    rfl
  · show F_impl_allSets_l1 (n : Int) (f + 1) acc ((i : Int) + 1) = F_impl_allSets_l1 (n : Int) f (acc ++ [setB n i]) (((i + 1 : Nat) : Int) + 1)
    have hm : F_impl_setOf ((i : Int) + 1) = some (setB n i) := by
      have := imSetOf (n := n) (by omega) (p := fun k => (i + 1).testBit k)
      rw [msk_self (by omega)] at this
      exact this
    rw [F_impl_allSets_l1.eq_2, shc_nat, shl_one hn, decide_eq_true (by omega), cond_true, hm, Option.bind_some, app_ok (by simp; omega), W_id (by omega) (by omega)]
    rfl
theorem sets_mem {n : Nat} {x : List Int} (h : x ∈ (List.range (2 ^ n - 1)).map (setB n)) : ∃ p : Nat → Bool, x = lst n p ∧ ∃ i, i < n ∧ p i = true := by
  obtain ⟨j, hj, rfl⟩ := List.mem_map.1 h
  rw [List.mem_range] at hj
  refine ⟨fun i => (j + 1).testBit i, rfl, Classical.byContradiction fun hc => ?_⟩
  have : msk n (fun i => (j + 1).testBit i) = 0 := by
    rw [msk_eq0]
    intro i hi
    cases hb : (j + 1).testBit i with
    | false => rfl
    | true => exact absurd ⟨i, hi, hb⟩ hc
  rw [msk_self (by omega)] at this
  omega
end Go.FX
