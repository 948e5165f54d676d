/- The pure part: what the functions compute, in plain Lean, with no program in sight; no condition. -/
import Derived.Test.YtmeeomkjjnlaoaaRsPure8
namespace Go.FX
open Go Go.GL Go.RowKit
/-! the reference's distances -/
section
variable {n : Nat} {Lk : Nat → Nat → Int} {t : Int} {to : Nat}
def lnk (Lk : Nat → Nat → Int) (t : Int) (i k : Nat) : Bool := decide (Lk i k ≥ t)
def Good (n : Nat) (Lk : Nat → Nat → Int) (t : Int) (to : Nat) (φ : Nat → Int) : Prop := φ to = 0 ∧ ∀ i, i < n → φ i = -1 ∨ (φ i = 0 ∧ i = to) ∨ (1 ≤ φ i ∧ ∃ k, k < n ∧ lnk Lk t i k = true ∧ φ k = φ i - 1)
def ExtD (n : Nat) (d : Int) (φ φ' : Nat → Int) : Prop := ∀ j, j < n → (0 ≤ φ j → φ' j = φ j) ∧ (φ j < 0 → φ' j < 0 ∨ φ' j = d + 1)
theorem ExtD.refl {d : Int} {φ : Nat → Int} : ExtD n d φ φ := fun _ _ => ⟨fun _ => rfl, fun h => .inl h⟩
theorem ExtD.trans {d : Int} (hd : 0 ≤ d) {a b c : Nat → Int} (h : ExtD n d a b) (k : ExtD n d b c) : ExtD n d a c := fun j hj => by
  obtain ⟨h1, h2⟩ := h j hj
  obtain ⟨k1, k2⟩ := k j hj
  refine ⟨fun h0 => ?_, fun h0 => ?_⟩
  · rw [k1 (by rw [h1 h0]; exact h0), h1 h0]
  · rcases h2 h0 with h3 | h3
    · exact k2 h3
    · exact .inr ((k1 (by omega)).trans h3)
theorem sp_b4 (h6 : n ≤ 6) {d i : Nat} (hd : d < n) (hi : i < n) : ∀ m k f, k + m = n → m < f → ∀ φ : Nat → Int, Good n Lk t to φ → (∀ j, j < n → φ j ≤ (d : Int) + 1) → ∃ φ' : Nat → Int, F_spec_l06Shortest_l4 (mat n Lk) (d : Int) (i : Int) t f (tab n φ) (k : Int) = some (tab n φ') ∧ Good n Lk t to φ' ∧ (∀ j, j < n → φ' j ≤ (d : Int) + 1) ∧ ExtD n d φ φ' ∧
    ∀ k', k ≤ k' → k' < n → φ' k' = (d : Int) → lnk Lk t i k' = true → 0 ≤ φ' i := by
  refine up (P := fun k f => ∀ φ : Nat → Int, Good n Lk t to φ → (∀ j, j < n → φ j ≤ (d : Int) + 1) → ∃ φ' : Nat → Int, F_spec_l06Shortest_l4 (mat n Lk) (d : Int) (i : Int) t f (tab n φ) (k : Int) = some (tab n φ') ∧ Good n Lk t to φ' ∧ (∀ j, j < n → φ' j ≤ (d : Int) + 1) ∧ ExtD n d φ φ' ∧
    ∀ k', k ≤ k' → k' < n → φ' k' = (d : Int) → lnk Lk t i k' = true → 0 ≤ φ' i) (fun f φ hg hb => ?_) (fun k f hk ih φ hg hb => ?_)
  · rw [F_spec_l06Shortest_l4.eq_2, mat_len, dlt_f (by omega)]
    exact ⟨φ, rfl, hg, hb, ExtD.refl, fun k' h1 h2 => by omega⟩
  · have hq : (Option.bind (idx (tab n φ) (k : Int) fun x75 => bif (x75 == (d : Int)) then (idx (tab n φ) (i : Int) fun x82 => bif (decide (x82 < 0)) then (idx (mat n Lk) (i : Int) fun x89 => idx x89 (k : Int) fun x96 => some (decide (x96 ≥ t))) else some false) else some false) : _ → Option (List Int)) = Option.bind (some ((φ k == (d : Int)) && (decide (φ i < 0) && lnk Lk t i k))) := by
      congr 1
      rw [idx_tab hk]
      cases φ k == (d : Int)
      · rfl
      · rw [cond_true, idx_tab hi, Bool.true_and]
        cases decide (φ i < 0)
        · rfl
        · rw [cond_true, idx_mat hi, idx_tab hk, Bool.true_and]; rfl
    rw [F_spec_l06Shortest_l4.eq_2, mat_len, dlt_t hk, cond_true, hq, Option.bind_some, W_succ hk (by unfold maxLen; omega)]
    cases hc : (φ k == (d : Int)) && (decide (φ i < 0) && lnk Lk t i k) with
    | false =>
      obtain ⟨φ', e1, e2, e3, e4, e5⟩ := ih φ hg hb
      refine ⟨φ', e1, e2, e3, e4, fun k' h1 h2 h3 h4 => ?_⟩
      by_cases hkk : k' = k
      · subst hkk
        have hφ : φ k' = (d : Int) := by
          by_cases h0 : 0 ≤ φ k'
          · rw [← (e4 k' h2).1 h0]; exact h3
          · rcases (e4 k' h2).2 (by omega) with h5 | h5 <;> omega
        rw [beq_iff_eq.2 hφ, h4, Bool.true_and, Bool.and_true, decide_eq_false_iff_not] at hc
        rw [(e4 i hi).1 (by omega)]; omega
      · exact e5 k' (by omega) h2 h3 h4
    | true =>
      rw [Bool.and_eq_true, Bool.and_eq_true, beq_iff_eq, decide_eq_true_eq] at hc
      obtain ⟨c1, c2, c3⟩ := hc
      rw [cond_true, idx_tab hi, Int.toNat_natCast, set_tab, W_id (n := (d : Int) + 1) (by omega) (by omega)]
      have hik : k ≠ i := fun e => by rw [e] at c1; omega
      have hti : to ≠ i := fun e => by rw [← e, hg.1] at c2; omega
      have hg1 : Good n Lk t to (fun j => if j = i then (d : Int) + 1 else φ j) := by
        refine ⟨(if_neg hti).trans hg.1, fun j hj => ?_⟩
        show (if j = i then (d : Int) + 1 else φ j) = -1 ∨ ((if j = i then (d : Int) + 1 else φ j) = 0 ∧ j = to) ∨ (1 ≤ (if j = i then (d : Int) + 1 else φ j) ∧ ∃ k, k < n ∧ lnk Lk t j k = true ∧ (if k = i then (d : Int) + 1 else φ k) = (if j = i then (d : Int) + 1 else φ j) - 1)
        by_cases hji : j = i
        · subst hji
          rw [if_pos rfl]
          exact .inr (.inr ⟨by omega, k, hk, c3, by rw [if_neg hik, c1]; omega⟩)
        · rw [if_neg hji]
          rcases hg.2 j hj with h | h | ⟨h1, k2, h2, h3, h4⟩
          · exact .inl h
          · exact .inr (.inl h)
          · refine .inr (.inr ⟨h1, k2, h2, h3, ?_⟩)
            rw [if_neg (fun e => by rw [e] at h4; omega)]
            exact h4
      obtain ⟨φ', e1, e2, e3, e4, e5⟩ := ih (fun j => if j = i then (d : Int) + 1 else φ j) hg1 (fun j hj => by
        show (if j = i then (d : Int) + 1 else φ j) ≤ (d : Int) + 1
        split
        · omega
        · exact hb j hj)
      have hx : ExtD n d φ (fun j => if j = i then (d : Int) + 1 else φ j) := fun j hj => by
        show (0 ≤ φ j → (if j = i then (d : Int) + 1 else φ j) = φ j) ∧ (φ j < 0 → (if j = i then (d : Int) + 1 else φ j) < 0 ∨ (if j = i then (d : Int) + 1 else φ j) = (d : Int) + 1)
        by_cases hji : j = i
        · subst hji; rw [if_pos rfl]; exact ⟨fun h => by omega, fun _ => .inr rfl⟩
        · rw [if_neg hji]; exact ⟨fun _ => rfl, fun h => .inl h⟩
      have hi1 : 0 ≤ φ' i := by
        have hh : (if i = i then (d : Int) + 1 else φ i) = (d : Int) + 1 := if_pos rfl
        rw [(e4 i hi).1 (by show 0 ≤ (if i = i then (d : Int) + 1 else φ i); omega)]
        show 0 ≤ (if i = i then (d : Int) + 1 else φ i)
        omega
      exact ⟨φ', e1, e2, e3, hx.trans (by omega) e4, fun _ _ _ _ _ => hi1⟩
theorem sp_b3 (h6 : n ≤ 6) {d : Nat} (hd : d < n) : ∀ m i f, i + m = n → m < f → ∀ φ : Nat → Int, Good n Lk t to φ → (∀ j, j < n → φ j ≤ (d : Int) + 1) → ∃ φ' : Nat → Int, F_spec_l06Shortest_l3 (mat n Lk) (d : Int) t f (tab n φ) (i : Int) = some (tab n φ') ∧ Good n Lk t to φ' ∧ (∀ j, j < n → φ' j ≤ (d : Int) + 1) ∧ ExtD n d φ φ' ∧
    ∀ i' k', i ≤ i' → i' < n → k' < n → φ' k' = (d : Int) → lnk Lk t i' k' = true → 0 ≤ φ' i' := by
  refine up (P := fun i f => ∀ φ : Nat → Int, Good n Lk t to φ → (∀ j, j < n → φ j ≤ (d : Int) + 1) → ∃ φ' : Nat → Int, F_spec_l06Shortest_l3 (mat n Lk) (d : Int) t f (tab n φ) (i : Int) = some (tab n φ') ∧ Good n Lk t to φ' ∧ (∀ j, j < n → φ' j ≤ (d : Int) + 1) ∧ ExtD n d φ φ' ∧
    ∀ i' k', i ≤ i' → i' < n → k' < n → φ' k' = (d : Int) → lnk Lk t i' k' = true → 0 ≤ φ' i') (fun f φ hg hb => ?_) (fun i f hi ih φ hg hb => ?_)
  · rw [F_spec_l06Shortest_l3.eq_2, mat_len, dlt_f (by omega)]
    exact ⟨φ, rfl, hg, hb, ExtD.refl, fun i' k' h1 h2 => by omega⟩
  · obtain ⟨φ1, a1, a2, a3, a4, a5⟩ := sp_b4 h6 hd hi n 0 (n + 1) (by omega) (by omega) φ hg hb
    obtain ⟨φ', e1, e2, e3, e4, e5⟩ := ih φ1 a2 a3
    rw [show ((0 : Nat) : Int) = 0 from rfl] at a1
    rw [F_spec_l06Shortest_l3.eq_2, mat_len, dlt_t hi, cond_true, a1, Option.bind_some, W_succ hi (by unfold maxLen; omega)]
    refine ⟨φ', e1, e2, e3, a4.trans (by omega) e4, fun i' k' h1 h2 h3 h4 h5 => ?_⟩
    by_cases hii : i' = i
    · subst hii
      have hφ : φ1 k' = (d : Int) := by
        by_cases h0 : 0 ≤ φ1 k'
        · rw [← (e4 k' h3).1 h0]; exact h4
        · rcases (e4 k' h3).2 (by omega) with h6 | h6 <;> omega
      have := a5 k' (by omega) h3 hφ h5
      rw [(e4 i' h2).1 this]; exact this
    · exact e5 i' k' (by omega) h2 h3 h4 h5
def Clo (n : Nat) (Lk : Nat → Nat → Int) (t d : Int) (φ : Nat → Int) : Prop := ∀ i k, i < n → k < n → lnk Lk t i k = true → 0 ≤ φ k → φ k < d → 0 ≤ φ i ∧ φ i ≤ φ k + 1
theorem sp_b2 (h6 : n ≤ 6) : ∀ m d f, d + m = n → m < f → ∀ φ : Nat → Int, Good n Lk t to φ → (∀ j, j < n → φ j ≤ (d : Int)) → Clo n Lk t d φ → ∃ φ' : Nat → Int, F_spec_l06Shortest_l2 (mat n Lk) t f (tab n φ) (d : Int) = some (tab n φ') ∧ Good n Lk t to φ' ∧ Clo n Lk t n φ' := by
  refine up (P := fun d f => ∀ φ : Nat → Int, Good n Lk t to φ → (∀ j, j < n → φ j ≤ (d : Int)) → Clo n Lk t d φ → ∃ φ' : Nat → Int, F_spec_l06Shortest_l2 (mat n Lk) t f (tab n φ) (d : Int) = some (tab n φ') ∧ Good n Lk t to φ' ∧ Clo n Lk t n φ') (fun f φ hg hb hc => ?_) (fun d f hd ih φ hg hb hc => ?_)
  · rw [F_spec_l06Shortest_l2.eq_2, mat_len, dlt_f (by omega)]
    exact ⟨φ, rfl, hg, hc⟩
  · obtain ⟨φ1, a1, a2, a3, a4, a5⟩ := sp_b3 h6 hd n 0 (n + 1) (by omega) (by omega) φ hg (fun j hj => by have := hb j hj; omega)
    have hc1 : Clo n Lk t ((d + 1 : Nat) : Int) φ1 := fun i k hi hk hl h0 h1 => by
      by_cases hkd : φ1 k = (d : Int)
      · exact ⟨a5 i k (by omega) hi hk hkd hl, by have := a3 i hi; omega⟩
      · have hφk : 0 ≤ φ k := by
          by_cases h2 : 0 ≤ φ k
          · exact h2
          · rcases (a4 k hk).2 (by omega) with h3 | h3 <;> omega
        have hkk := (a4 k hk).1 hφk
        obtain ⟨h8, h9⟩ := hc i k hi hk hl hφk (by omega)
        rw [(a4 i hi).1 h8]; exact ⟨h8, by omega⟩
    obtain ⟨φ', e1, e2, e3⟩ := ih φ1 a2 (fun j hj => by have := a3 j hj; omega) hc1
    rw [show ((0 : Nat) : Int) = 0 from rfl] at a1
    rw [F_spec_l06Shortest_l2.eq_2, mat_len, dlt_t hd, cond_true, a1, Option.bind_some, W_succ hd (by unfold maxLen; omega)]
    exact ⟨φ', e1, e2, e3⟩
/-- no way is longer than the number of the options -/
theorem good_chain {φ : Nat → Int} (hg : Good n Lk t to φ) : ∀ (e : Nat) (i : Nat), i < n → φ i = (e : Int) → ∃ l : List Nat, l.length = e + 1 ∧ l.Nodup ∧ ∀ x ∈ l, x < n ∧ φ x ≤ (e : Int) := by
  intro e
  induction e with
  | zero => intro i hi h; exact ⟨[i], rfl, List.pairwise_singleton _ _, fun x hx => by rw [List.mem_singleton.1 hx]; exact ⟨hi, by omega⟩⟩
  | succ e ih =>
    intro i hi h
    rcases hg.2 i hi with h1 | ⟨h1, -⟩ | ⟨-, k, hk, -, h2⟩
    · omega
    · omega
    · obtain ⟨l, l1, l2, l3⟩ := ih k hk (by omega)
      refine ⟨i :: l, by rw [List.length_cons, l1], List.nodup_cons.2 ⟨fun hm => ?_, l2⟩, fun x hx => ?_⟩
      · have := (l3 i hm).2; omega
      · rcases List.mem_cons.1 hx with rfl | hx
        · exact ⟨hi, by omega⟩
        · have := l3 x hx; exact ⟨this.1, by omega⟩
theorem good_lt {φ : Nat → Int} (hg : Good n Lk t to φ) {i : Nat} (hi : i < n) : φ i < (n : Int) := by
  by_cases h0 : 0 ≤ φ i
  · obtain ⟨l, l1, l2, l3⟩ := good_chain hg (φ i).toNat i hi (by omega)
    have := l2.length_le_of_subset (l₂ := List.range n) fun x hx => List.mem_range.2 (l3 x hx).1
    rw [l1, List.length_range] at this
    omega
  · omega
/-- the distances to an option -/
structure Far (n : Nat) (Lk : Nat → Nat → Int) (t : Int) (to : Nat) (φ : Nat → Int) : Prop where
  good : Good n Lk t to φ
  clo : ∀ i k, i < n → k < n → lnk Lk t i k = true → 0 ≤ φ k → 0 ≤ φ i ∧ φ i ≤ φ k + 1
theorem spFar (h6 : n ≤ 6) : ∃ φ, F_spec_l06Shortest_l2 (mat n Lk) t (n + 1) (tab n fun i => if i = to then 0 else -1) 0 = some (tab n φ) ∧ Far n Lk t to φ := by
  obtain ⟨φ, e1, e2, e3⟩ := sp_b2 (Lk := Lk) (t := t) h6 n 0 (n + 1) (by omega) (by omega) (fun i => if i = to then 0 else -1) ⟨if_pos rfl, fun i hi => by
    show (if i = to then (0 : Int) else -1) = -1 ∨ ((if i = to then (0 : Int) else -1) = 0 ∧ i = to) ∨ _
    by_cases h : i = to
    · rw [if_pos h]; exact .inr (.inl ⟨rfl, h⟩)
    · rw [if_neg h]; exact .inl rfl⟩ (fun j hj => by
    show (if j = to then (0 : Int) else -1) ≤ ((0 : Nat) : Int)
    split <;> omega) (fun i k hi hk hl h0 h1 => by omega)
  exact ⟨φ, e1, e2, fun i k hi hk hl h0 => e3 i k hi hk hl h0 (good_lt e2 hk)⟩
/-! the reference's list -/
/-- the way from an option by the least next ones -/
def Gp (n : Nat) (Lk : Nat → Nat → Int) (t : Int) (to : Nat) (φ : Nat → Int) : Nat → List Nat → Prop
  | a, [] => a = to
  | a, k :: l => k < n ∧ lnk Lk t a k = true ∧ φ k = φ a - 1 ∧ (∀ y, y < k → lnk Lk t a y = true → φ y ≠ φ a - 1) ∧ Gp n Lk t to φ k l
theorem sp_b6 (h6 : n ≤ 6) {φ : Nat → Int} (hg : Good n Lk t to φ) {at_ : Nat} (ha : at_ < n) (h1 : 1 ≤ φ at_) {out : List Int} (ho : out.length ≤ 100) {k : Nat} (hk : k < n) (hl : lnk Lk t at_ k = true) (hφ : φ k = φ at_ - 1) :
    ∀ m j f, j + m = k → m < f → (∀ y, y < j → lnk Lk t at_ y = true → φ y ≠ φ at_ - 1) → ∃ x : Nat, x < n ∧ lnk Lk t at_ x = true ∧ φ x = φ at_ - 1 ∧ (∀ y, y < x → lnk Lk t at_ y = true → φ y ≠ φ at_ - 1) ∧ F_spec_l06Shortest_l6 (mat n Lk) (at_ : Int) t (tab n φ) out f (j : Int) = some (out ++ [(x : Int)], (x : Int)) := by
  have hlt := good_lt hg ha
  have step : ∀ j f, j < n → F_spec_l06Shortest_l6 (mat n Lk) (at_ : Int) t (tab n φ) out (f + 1) (j : Int) = bif !lnk Lk t at_ j || (φ j != φ at_ - 1) then F_spec_l06Shortest_l6 (mat n Lk) (at_ : Int) t (tab n φ) out f ((j + 1 : Nat) : Int) else some (out ++ [(j : Int)], (j : Int)) := by
    intro j f hj
    rw [F_spec_l06Shortest_l6.eq_2, idx_mat ha, idx_tab hj, idx_tab hj, idx_tab ha, W_id (n := φ at_ - 1) (by omega) (by omega), W_succ hj (by unfold maxLen; omega), app_ok (by simp; omega)]
    unfold lnk
    by_cases h : Lk at_ j < t
    · rw [decide_eq_true h, decide_eq_false (show ¬ Lk at_ j ≥ t by omega)]; rfl
    · rw [decide_eq_false h, decide_eq_true (show Lk at_ j ≥ t by omega)]; rfl
  intro m
  induction m with
  | zero =>
    intro j f hj hf hmin
    obtain ⟨f, rfl⟩ : ∃ g, f = g + 1 := ⟨f - 1, by omega⟩
    obtain rfl : j = k := by omega
    refine ⟨j, hk, hl, hφ, hmin, ?_⟩
    rw [step j f hk, hl, hφ, bne_self_eq_false]; rfl
  | succ m ih =>
    intro j f hj hf hmin
    obtain ⟨f, rfl⟩ : ∃ g, f = g + 1 := ⟨f - 1, by omega⟩
    rw [step j f (by omega)]
    cases hc : !lnk Lk t at_ j || (φ j != φ at_ - 1) with
    | true =>
      refine ih (j + 1) f (by omega) (by omega) fun y hy hly => ?_
      by_cases hyj : y = j
      · subst hyj
        intro he
        rw [hly, he, bne_self_eq_false] at hc
        cases hc
      · exact hmin y (by omega) hly
    | false =>
      rw [Bool.or_eq_false_iff] at hc
      exact ⟨j, by omega, by simpa using hc.1, by simpa using hc.2, hmin, rfl⟩
theorem sp_b5 (h6 : n ≤ 6) {φ : Nat → Int} (hg : Good n Lk t to φ) : ∀ (e : Nat) (at_ f : Nat), at_ < n → φ at_ = (e : Int) → e < f → ∀ out : List Int, out.length + e ≤ 100 → ∃ l : List Nat, l.length = e ∧ Gp n Lk t to φ at_ l ∧ F_spec_l06Shortest_l5 (to : Int) (mat n Lk) t (tab n φ) f out (at_ : Int) = some (out ++ l.map Int.ofNat) := by
  intro e
  induction e with
  | zero =>
    intro at_ f ha h hf out ho
    obtain ⟨f, rfl⟩ : ∃ g, f = g + 1 := ⟨f - 1, by omega⟩
    have : at_ = to := by
      rcases hg.2 at_ ha with h1 | ⟨-, h1⟩ | ⟨h1, -⟩
      · omega
      · exact h1
      · omega
    refine ⟨[], rfl, this, ?_⟩
    rw [F_spec_l06Shortest_l5.eq_2, this, bne_self_eq_false, List.map_nil, List.append_nil]; rfl
  | succ e ih =>
    intro at_ f ha h hf out ho
    obtain ⟨f, rfl⟩ : ∃ g, f = g + 1 := ⟨f - 1, by omega⟩
    have hne : at_ ≠ to := fun e2 => by rw [e2, hg.1] at h; omega
    obtain ⟨k, hk, hl, hφ⟩ : ∃ k, k < n ∧ lnk Lk t at_ k = true ∧ φ k = φ at_ - 1 := by
      rcases hg.2 at_ ha with h1 | ⟨h1, -⟩ | ⟨-, h1⟩
      · omega
      · omega
      · exact h1
    obtain ⟨x, hx, hlx, hφx, hmin, e6⟩ := sp_b6 h6 hg ha (by omega) (out := out) (by omega) hk hl hφ k 0 1000 (by omega) (by omega) (fun y hy => by omega)
    rw [show ((0 : Nat) : Int) = 0 from rfl] at e6
    obtain ⟨l, l1, l2, l3⟩ := ih x f hx (by omega) (by omega) (out ++ [(x : Int)]) (by simp; omega)
    refine ⟨x :: l, by rw [List.length_cons, l1], ⟨hx, hlx, hφx, hmin, l2⟩, ?_⟩
    rw [F_spec_l06Shortest_l5.eq_2, bne_iff_ne.2 (show (at_ : Int) ≠ (to : Int) by omega), cond_true, e6, Option.bind_some]
    refine l3.trans ?_
    rw [List.map_cons, List.append_assoc]; rfl
theorem spShort (h6 : n ≤ 6) (hto : to < n) {from_ : Nat} (hf : from_ < n) : ∃ φ, Far n Lk t to φ ∧ (φ from_ < 0 → F_spec_l06Shortest (mat n Lk) (from_ : Int) (to : Int) t = some []) ∧ (0 ≤ φ from_ → ∃ l : List Nat, (l.length : Int) = φ from_ ∧ Gp n Lk t to φ from_ l ∧ F_spec_l06Shortest (mat n Lk) (from_ : Int) (to : Int) t = some ((from_ :: l).map Int.ofNat)) := by
  obtain ⟨φ, e1, e2⟩ := spFar (Lk := Lk) (t := t) h6 (to := to)
  have h1 : F_spec_l06Shortest_l1 (mat n Lk) ((mat n Lk).length + 1) [] 0 = some (tab n fun _ => -1) := by
    have := app_loop (b := 1) (n := n) (F := F_spec_l06Shortest_l1 (mat n Lk)) (m := n + 1) (acc := []) (fun _ => [(-1 : Int)]) some 0
      (fun _ _ => Nat.le_refl _) (fun f acc => by rw [F_spec_l06Shortest_l1.eq_2, mat_len, dlt_f (by omega)]; rfl)
      (fun f acc i hi hacc => by rw [F_spec_l06Shortest_l1.eq_2, mat_len, dlt_t hi, cond_true, app_ok (by simp; omega), W_succ hi (by unfold maxLen; omega)]) (by omega) (by simp)
    rw [mat_len, this, List.nil_append, ← List.map_eq_flatMap]; rfl
  have hset : List.set (tab n fun _ => (-1 : Int)) (Int.toNat (to : Int)) 0 = tab n fun i => if i = to then 0 else -1 := by rw [Int.toNat_natCast, set_tab]
  refine ⟨φ, e2, fun h0 => ?_, fun h0 => ?_⟩
  · unfold F_spec_l06Shortest
    rw [h1, Option.bind_some, idx_tab hto, hset, mat_len, e1, Option.bind_some, idx_tab hf, decide_eq_true h0]; rfl
  · have hlt := good_lt e2.good hf
    obtain ⟨l, l1, l2, l3⟩ := sp_b5 h6 e2.good (φ from_).toNat from_ 1000 hf (by omega) (by omega) [(from_ : Int)] (by simp; omega)
    refine ⟨l, by omega, l2, ?_⟩
    unfold F_spec_l06Shortest
    rw [h1, Option.bind_some, idx_tab hto, hset, mat_len, e1, Option.bind_some, idx_tab hf, decide_eq_false (by omega), cond_false, l3]
    rfl
end
end Go.FX
