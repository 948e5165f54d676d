/- The pure part: what the functions compute, in plain Lean, with no program in sight; no condition. -/
import Derived.Test.YtmeeomkjjnlaoaaRdPure10
namespace Go.FX
open Go Go.GL Go.RowKit
/-! dominating sets -/
section
variable {n : Nat} {W : Nat → Nat → Int}
/-- a is not defeated by: b stands outside only if a defeats it -/
def edge (W : Nat → Nat → Int) (a b : Nat) : Bool := (a != b) && decide (W a b ≤ W b a)
def Dom (n : Nat) (W : Nat → Nat → Int) (p : Nat → Bool) : Prop := ∀ a, a < n → ∀ b, b < n → p a = true → edge W a b = true → p b = true
theorem lst_le {p q : Nat → Bool} : ∀ {n : Nat}, (∀ i, i < n → p i = true → q i = true) → (lst n p).length ≤ (lst n q).length ∧ ((lst n p).length = (lst n q).length → ∀ i, i < n → p i = q i) := by
  intro n
  induction n with
  | zero => intro _; exact ⟨Nat.le_refl _, fun _ i hi => by omega⟩
  | succ n ih =>
    intro h
    obtain ⟨h1, h2⟩ := ih fun i hi => h i (by omega)
    rw [lst_succ, lst_succ]
    cases hp : p n <;> cases hq : q n
    · simp only [Bool.false_eq_true, if_false]
      refine ⟨h1, fun e i hi => ?_⟩
      by_cases hin : i = n
      · rw [hin, hp, hq]
      · exact h2 e i (by omega)
    · simp only [Bool.false_eq_true, if_false, if_true, List.length_append, List.length_singleton]
      exact ⟨by omega, fun e => by omega⟩
    · have := h n (by omega) hp; rw [hq] at this; cases this
    · simp only [if_true, List.length_append, List.length_singleton]
      refine ⟨by omega, fun e i hi => ?_⟩
      by_cases hin : i = n
      · rw [hin, hp, hq]
      · exact h2 (by omega) i (by omega)
/-- of two dominating sets one lies in the other -/
theorem dom_chain {p q : Nat → Bool} (hp : Dom n W p) (hq : Dom n W q) : (∀ i, i < n → p i = true → q i = true) ∨ (∀ i, i < n → q i = true → p i = true) := by
  refine Classical.byContradiction fun hc => ?_
  rw [not_or] at hc
  obtain ⟨h1, h2⟩ := hc
  have h1' : ∃ a, a < n ∧ p a = true ∧ q a = false := Classical.byContradiction fun h => h1 fun i hi hpi => by
    cases hqi : q i with
    | true => rfl
    | false => exact absurd ⟨i, hi, hpi, hqi⟩ h
  have h2' : ∃ a, a < n ∧ q a = true ∧ p a = false := Classical.byContradiction fun h => h2 fun i hi hpi => by
    cases hqi : p i with
    | true => rfl
    | false => exact absurd ⟨i, hi, hpi, hqi⟩ h
  obtain ⟨a, ha, pa, qa⟩ := h1'
  obtain ⟨b, hb, qb, pb⟩ := h2'
  have hab : a ≠ b := fun e => by rw [e, qb] at qa; cases qa
  have e1 : edge W a b = false := by
    cases h : edge W a b with
    | false => rfl
    | true => rw [hp a ha b hb pa h] at pb; cases pb
  have e2 : edge W b a = false := by
    cases h : edge W b a with
    | false => rfl
    | true => rw [hq b hb a ha qb h] at qa; cases qa
  unfold edge at e1 e2
  rw [bne_iff_ne.2 hab, Bool.true_and, decide_eq_false_iff_not] at e1
  rw [bne_iff_ne.2 (Ne.symm hab), Bool.true_and, decide_eq_false_iff_not] at e2
  omega
theorem dom_min {p q : Nat → Bool} (hp : Dom n W p) (hq : Dom n W q) (hl : (lst n p).length = (lst n q).length) : lst n p = lst n q := by
  rcases dom_chain hp hq with h | h
  · exact lst_congr ((lst_le h).2 hl)
  · exact (lst_congr ((lst_le h).2 hl.symm)).symm
/-! the reference: the least dominating set with an option -/
theorem sp_d3 {i : Nat} (hi : i < n) (h6 : n ≤ 6) : ∀ k j f, j + k = n → k < f → ∀ p : Nat → Bool, ∃ p' : Nat → Bool, F_spec_l06Dominating_l3 (mat n W) (i : Int) f (tab n p) (j : Int) = some (tab n p') ∧ (∀ a, p a = true → p' a = true) ∧
    (∀ b, j ≤ b → b < n → p i = true → edge W i b = true → p' b = true) ∧ (∀ C, Dom n W C → (∀ a, a < n → p a = true → C a = true) → ∀ a, a < n → p' a = true → C a = true) := by
  refine up (P := fun j f => ∀ p : Nat → Bool, ∃ p' : Nat → Bool, F_spec_l06Dominating_l3 (mat n W) (i : Int) f (tab n p) (j : Int) = some (tab n p') ∧ (∀ a, p a = true → p' a = true) ∧
    (∀ b, j ≤ b → b < n → p i = true → edge W i b = true → p' b = true) ∧ (∀ C, Dom n W C → (∀ a, a < n → p a = true → C a = true) → ∀ a, a < n → p' a = true → C a = true)) (fun f p => ?_) (fun j f hj ih p => ?_)
  · rw [F_spec_l06Dominating_l3.eq_2, mat_len, dlt_f (by omega)]
    exact ⟨p, rfl, fun _ h => h, fun b h1 h2 => by omega, fun C _ h => h⟩
  · have hq : (Option.bind (idx (tab n p) (i : Int) fun x55 => bif x55 then (bif ((i : Int) != (j : Int)) then (idx (mat n W) (i : Int) fun x67 => idx x67 (j : Int) fun x78 => idx (mat n W) (j : Int) fun x87 => idx x87 (i : Int) fun x98 => some (decide (x78 ≤ x98))) else some false) else some false) : _ → Option (List Bool)) = Option.bind (some (p i && edge W i j)) := by
      congr 1
      rw [idx_tab hi]
      unfold edge
      cases p i
      · rfl
      · rw [cond_true, Bool.true_and]
        by_cases hij : i = j
        · subst hij; rw [bne_self_eq_false, bne_self_eq_false]; rfl
        · rw [bne_iff_ne.2 hij, bne_iff_ne.2 (show (i : Int) ≠ (j : Int) by omega), cond_true, idx_mat hi, idx_tab hj, idx_mat hj, idx_tab hi, Bool.true_and]
    rw [F_spec_l06Dominating_l3.eq_2, mat_len, dlt_t hj, cond_true, hq, Option.bind_some, W_succ hj (by unfold maxLen; omega)]
    cases hc : p i && edge W i j with
    | false =>
      obtain ⟨p', e1, e2, e3, e4⟩ := ih p
      refine ⟨p', e1, e2, fun b h1 h2 hpi he => ?_, e4⟩
      by_cases hb : b = j
      · subst hb; rw [hpi, he] at hc; cases hc
      · exact e3 b (by omega) h2 hpi he
    | true =>
      rw [Bool.and_eq_true] at hc
      rw [cond_true, idx_tab hj, Int.toNat_natCast, set_tab]
      obtain ⟨p', e1, e2, e3, e4⟩ := ih (fun a => if a = j then true else p a)
      refine ⟨p', e1, fun a ha => e2 a ?_, fun b h1 h2 hpi he => ?_, fun C hC hp => e4 C hC fun a ha hpa => ?_⟩
      · show (if a = j then true else p a) = true
        split
        · rfl
        · exact ha
      · by_cases hb : b = j
        · subst hb
          refine e2 b ?_
          show (if b = b then true else p b) = true
          rw [if_pos rfl]
        · refine e3 b (by omega) h2 ?_ he
          show (if i = j then true else p i) = true
          split
          · rfl
          · exact hpi
      · by_cases haj : a = j
        · subst haj; exact hC i hi a ha (hp i hi hc.1) hc.2
        · have hpa' : (if a = j then true else p a) = true := hpa
          rw [if_neg haj] at hpa'
          exact hp a ha hpa'
theorem sp_d2 (h6 : n ≤ 6) : ∀ k i f, i + k = n → k < f → ∀ p : Nat → Bool, ∃ p' : Nat → Bool, F_spec_l06Dominating_l2 (mat n W) f (tab n p) (i : Int) = some (tab n p') ∧ (∀ a, p a = true → p' a = true) ∧
    (∀ a b, i ≤ a → a < n → b < n → p a = true → edge W a b = true → p' b = true) ∧ (∀ C, Dom n W C → (∀ a, a < n → p a = true → C a = true) → ∀ a, a < n → p' a = true → C a = true) := by
  refine up (P := fun i f => ∀ p : Nat → Bool, ∃ p' : Nat → Bool, F_spec_l06Dominating_l2 (mat n W) f (tab n p) (i : Int) = some (tab n p') ∧ (∀ a, p a = true → p' a = true) ∧
    (∀ a b, i ≤ a → a < n → b < n → p a = true → edge W a b = true → p' b = true) ∧ (∀ C, Dom n W C → (∀ a, a < n → p a = true → C a = true) → ∀ a, a < n → p' a = true → C a = true)) (fun f p => ?_) (fun i f hi ih p => ?_)
  · rw [F_spec_l06Dominating_l2.eq_2, mat_len, dlt_f (by omega)]
    exact ⟨p, rfl, fun _ h => h, fun a b h1 h2 => by omega, fun C _ h => h⟩
  · obtain ⟨p1, a1, a2, a3, a4⟩ := sp_d3 (W := W) hi h6 n 0 (n + 1) (by omega) (by omega) p
    obtain ⟨p', e1, e2, e3, e4⟩ := ih p1
    rw [F_spec_l06Dominating_l2.eq_2, mat_len, dlt_t hi, cond_true, show ((0 : Nat) : Int) = 0 from rfl] at *
    rw [a1, Option.bind_some, W_succ hi (by unfold maxLen; omega)]
    refine ⟨p', e1, fun a ha => e2 a (a2 a ha), fun a b h1 h2 h3 hpa he => ?_, fun C hC hp => e4 C hC (a4 C hC hp)⟩
    by_cases hai : a = i
    · subst hai; exact e2 b (a3 b (by omega) h3 hpa he)
    · exact e3 a b (by omega) h2 h3 (a2 a hpa) he
theorem sp_d1 (h6 : n ≤ 6) : ∀ k r f, r + k = n → k < f → ∀ p : Nat → Bool, (Dom n W p ∨ r + 1 ≤ (lst n p).length) → ∃ p' : Nat → Bool, F_spec_l06Dominating_l1 (mat n W) f (tab n p) (r : Int) = some (tab n p') ∧ (∀ a, p a = true → p' a = true) ∧
    Dom n W p' ∧ (∀ C, Dom n W C → (∀ a, a < n → p a = true → C a = true) → ∀ a, a < n → p' a = true → C a = true) := by
  refine up (P := fun r f => ∀ p : Nat → Bool, (Dom n W p ∨ r + 1 ≤ (lst n p).length) → ∃ p' : Nat → Bool, F_spec_l06Dominating_l1 (mat n W) f (tab n p) (r : Int) = some (tab n p') ∧ (∀ a, p a = true → p' a = true) ∧
    Dom n W p' ∧ (∀ C, Dom n W C → (∀ a, a < n → p a = true → C a = true) → ∀ a, a < n → p' a = true → C a = true)) (fun f p hd => ?_) (fun r f hr ih p hd => ?_)
  · rw [F_spec_l06Dominating_l1.eq_2, mat_len, dlt_f (by omega)]
    refine ⟨p, rfl, fun _ h => h, ?_, fun C _ h => h⟩
    rcases hd with h | h
    · exact h
    · have := lst_len (n := n) (p := p); omega
  · obtain ⟨p1, a1, a2, a3, a4⟩ := sp_d2 (W := W) h6 n 0 (n + 1) (by omega) (by omega) p
    have hd1 : Dom n W p1 ∨ r + 1 + 1 ≤ (lst n p1).length := by
      by_cases hdp : Dom n W p
      · left
        have h1 := a4 p hdp fun _ _ h => h
        intro a ha b hb hpa he
        exact a2 b (hdp a ha b hb (h1 a ha hpa) he)
      · right
        have hl : r + 1 ≤ (lst n p).length := by
          rcases hd with h | h
          · exact absurd h hdp
          · exact h
        obtain ⟨h1, h2⟩ := lst_le (n := n) (p := p) (q := p1) fun i _ hi => a2 i hi
        have hne : (lst n p).length ≠ (lst n p1).length := fun e => by
          have h3 := h2 e
          refine hdp fun a ha b hb hpa he => ?_
          rw [h3 b hb]
          exact a3 a b (by omega) ha hb hpa he
        omega
    obtain ⟨p', e1, e2, e3, e4⟩ := ih p1 hd1
    rw [F_spec_l06Dominating_l1.eq_2, mat_len, dlt_t hr, cond_true]
    rw [show ((0 : Nat) : Int) = 0 from rfl] at a1
    rw [a1, Option.bind_some, W_succ hr (by unfold maxLen; omega)]
    exact ⟨p', e1, fun a ha => e2 a (a2 a ha), e3, fun C hC hp => e4 C hC (a4 C hC hp)⟩
theorem sp_d4 {p : Nat → Bool} (h6 : n ≤ 6) : F_spec_l06Dominating_l4 (tab n p) (n + 1) [] 0 = some (lst n p) := by
  refine st_loop (n := n) (F := F_spec_l06Dominating_l4 (tab n p)) (fun i => lst i p) (fun f => ?_) (fun i f hi => ?_) (by omega)
  · rw [F_spec_l06Dominating_l4.eq_2, tab_len, dlt_f (by omega), cond_false]
  · rw [F_spec_l06Dominating_l4.eq_2, tab_len, dlt_t hi, cond_true, idx_tab hi, W_succ hi (by unfold maxLen; omega), lst_succ]
    have := lst_len (n := i) (p := p)
    cases p i
    · rfl
    · rw [cond_true, app_ok (by simp; omega)]; rfl
theorem spDomin (h6 : n ≤ 6) {i : Nat} (hi : i < n) : ∃ p : Nat → Bool, F_spec_l06Dominating (mat n W) (i : Int) = some (lst n p) ∧ p i = true ∧ Dom n W p ∧ ∀ C, Dom n W C → C i = true → ∀ a, a < n → p a = true → C a = true := by
  have h0 : List.set (List.replicate (Int.toNat ((List.length (mat n W) : Int))) false) (Int.toNat (i : Int)) true = tab n (fun a => if a = i then true else false) := by
    rw [mat_len, Int.toNat_natCast, Int.toNat_natCast, show List.replicate n false = tab n (fun _ => false) by unfold tab; rw [List.map_const', List.length_range], set_tab]
  have hl : 0 + 1 ≤ (lst n (fun a => if a = i then true else false)).length := by
    have h1 := lst_contains (n := n) (p := fun a => if a = i then true else false) (i := i)
    rw [decide_eq_true hi, if_pos rfl] at h1
    cases hc : lst n (fun a => if a = i then true else false) with
    | nil => rw [hc] at h1; cases h1
    | cons => simp
  obtain ⟨p, e1, e2, e3, e4⟩ := sp_d1 (W := W) h6 n 0 (n + 1) (by omega) (by omega) (fun a => if a = i then true else false) (.inr hl)
  refine ⟨p, ?_, e2 i (if_pos rfl), e3, fun C hC hci => e4 C hC fun a _ h => ?_⟩
  · unfold F_spec_l06Dominating mk
    rw [grd_eq (decide_eq_true (by rw [mat_len]; omega)), grd_eq (decide_eq_true (by rw [mat_len]; omega))]
    have hr : i < (List.replicate (Int.toNat ((List.length (mat n W) : Int))) false).length := by rw [List.length_replicate, mat_len]; omega
    rw [idx_nat hr, h0, mat_len]
    rw [show ((0 : Nat) : Int) = 0 from rfl] at e1
    rw [e1, Option.bind_some, tab_len, sp_d4 h6]
  · by_cases hai : a = i
    · rw [hai]; exact hci
    · have h' : (if a = i then true else false) = true := h
      rw [if_neg hai] at h'; cases h'
end
end Go.FX
