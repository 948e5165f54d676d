/- The pure part: what the functions compute, in plain Lean, with no program in sight; no condition. -/
import Derived.Test.YtmeeomkjjnlaoaaRdPure11
namespace Go.FX
open Go Go.GL Go.RowKit
theorem imContains (l : List Int) (x : Int) (hl : l.length ≤ maxLen) : F_slices_Contains_int64_int64 l x = some (l.contains x) := by
  have h : F_slices_Index_int64_int64 l x = some (fidx (fun y => x == y) l) :=
    idxf_loop (F := F_slices_Index_int64_int64_l1 l x) (P := fun y => some (x == y)) _ (fun _ _ => rfl) hl (fun _ _ => rfl)
  unfold F_slices_Contains_int64_int64
  rw [h, Option.bind_some, fidx_ge, any_beq]
section
variable {n : Nat} {W : Nat → Nat → Int}
theorem im_d3 (h6 : n ≤ 6) {p : Nat → Bool} {a : Nat} (ha : a < n) (hpa : p a = true) : ∀ k b f, b + k = n → k < f → ∀ q : Bool, F_impl_dominating_l3 (n : Int) (lst n p) (mat n W) (a : Int) f q (b : Int) = some (q && ((List.range n).drop b).all fun c => !edge W a c || p c) := by
  refine up (P := fun b f => ∀ q : Bool, F_impl_dominating_l3 (n : Int) (lst n p) (mat n W) (a : Int) f q (b : Int) = some (q && ((List.range n).drop b).all fun c => !edge W a c || p c)) (fun f q => ?_) (fun b f hb ih q => ?_)
  · rw [F_impl_dominating_l3.eq_2, dlt_f (by omega), List.drop_of_length_le (by simp)]
    simp
  · have hll := lst_len (n := n) (p := p)
    have hq : (Option.bind (bif q then ((F_slices_Contains_int64_int64 (lst n p) (b : Int)).bind fun x113 => bif x113 then some true else (idx (mat n W) (a : Int) fun x124 => idx x124 (b : Int) fun x135 => idx (mat n W) (b : Int) fun x145 => idx x145 (a : Int) fun x156 => some (decide (x135 > x156)))) else some false) : _ → Option Bool) = Option.bind (some (q && (!edge W a b || p b))) := by
      congr 1
      cases q
      · rfl
      · rw [cond_true, imContains _ _ (by unfold maxLen; omega), Option.bind_some, lst_contains, decide_eq_true hb, Bool.true_and, Bool.true_and]
        cases hpb : p b
        · rw [cond_false, idx_mat ha, idx_tab hb, idx_mat hb, idx_tab ha, Bool.or_false]
          have hne : a ≠ b := fun e => by rw [e, hpb] at hpa; cases hpa
          unfold edge
          rw [bne_iff_ne.2 hne, Bool.true_and]
          by_cases h : W a b ≤ W b a
          · rw [decide_eq_true h, decide_eq_false (by omega)]; rfl
          · rw [decide_eq_false h, decide_eq_true (by omega)]; rfl
        · rw [cond_true, Bool.or_true]
    rw [F_impl_dominating_l3.eq_2, dlt_t hb, cond_true, hq, Option.bind_some, W_succ hb (by unfold maxLen; omega), ih, List.drop_eq_getElem_cons (i := b) (l := List.range n) (by simpa using hb), List.all_cons, List.getElem_range, Bool.and_assoc]
def domB (n : Nat) (W : Nat → Nat → Int) (p : Nat → Bool) (v : Int) : Bool := (List.range n).all fun c => !edge W v.toNat c || p c
theorem im_d2 (h6 : n ≤ 6) {p : Nat → Bool} : ∀ k i f, i + k = (lst n p).length → k < f → ∀ q : Bool, F_impl_dominating_l2 (lst n p) (n : Int) (mat n W) f q (i : Int) = some (q && ((lst n p).drop i).all (domB n W p)) := by
  have hll := lst_len (n := n) (p := p)
  refine up (P := fun i f => ∀ q : Bool, F_impl_dominating_l2 (lst n p) (n : Int) (mat n W) f q (i : Int) = some (q && ((lst n p).drop i).all (domB n W p))) (fun f q => ?_) (fun i f hi ih q => ?_)
  · rw [F_impl_dominating_l2.eq_2, dlt_f (by omega), List.drop_length]
    simp
  · obtain ⟨a, e, ha, hpa⟩ := lst_get hi
    have h3 := im_d3 (W := W) h6 ha hpa n 0 (Int.toNat ((n : Int) - 0) + 2) (by omega) (by omega) q
    rw [show ((0 : Nat) : Int) = 0 from rfl, List.drop_zero] at h3
    rw [F_impl_dominating_l2.eq_2, dlt_t hi, cond_true, idx_nat hi, e, h3, Option.bind_some, W_succ hi (by unfold maxLen; omega), ih, List.drop_eq_getElem_cons hi, List.all_cons, e, Bool.and_assoc]
    rfl
theorem dom_iff {p : Nat → Bool} : (lst n p).all (domB n W p) = true ↔ Dom n W p := by
  rw [List.all_eq_true]
  constructor
  · intro h a ha b hb hpa he
    have hm : (a : Int) ∈ lst n p := by
      have := lst_contains (n := n) (p := p) (i := a)
      rw [decide_eq_true ha, hpa] at this
      exact List.contains_iff_mem.1 this
    have := h _ hm
    unfold domB at this
    rw [List.all_eq_true] at this
    have := this b (List.mem_range.2 hb)
    rw [Int.toNat_natCast, he] at this
    simpa using this
  · intro h v hv
    obtain ⟨i, hi, rfl⟩ := List.getElem_of_mem hv
    obtain ⟨a, e, ha, hpa⟩ := lst_get hi
    rw [e]
    unfold domB
    rw [List.all_eq_true]
    intro c hc
    rw [Int.toNat_natCast]
    cases he : edge W a c with
    | false => rfl
    | true => rw [h a ha c (List.mem_range.1 hc) hpa he]; rfl
def DomL (n : Nat) (W : Nat → Nat → Int) (x : List Int) : Prop := ∃ p, x = lst n p ∧ Dom n W p
theorem domL_lst {p : Nat → Bool} : DomL n W (lst n p) ↔ Dom n W p := by
  constructor
  · rintro ⟨q, e, hq⟩ a ha b hb hpa he
    have h := lst_inj e
    rw [h b hb]
    exact hq a ha b hb (by rw [← h a ha]; exact hpa) he
  · exact fun h => ⟨p, rfl, h⟩
def dInv (n : Nat) (W : Nat → Nat → Int) (S : List (List Int)) (i : Nat) (l : List Int) : Prop :=
  (l = [] ∧ ∀ x ∈ S.take i, ¬ DomL n W x) ∨ (l ≠ [] ∧ DomL n W l ∧ ∀ x ∈ S.take i, DomL n W x → l.length ≤ x.length)
theorem im_d1 (h6 : n ≤ 6) {S : List (List Int)} (hl : S.length ≤ 1000) (hS : ∀ x ∈ S, ∃ p : Nat → Bool, x = lst n p ∧ ∃ i, i < n ∧ p i = true) : ∀ k i f, i + k = S.length → k < f → ∀ l, dInv n W S i l → ∃ r, F_impl_dominating_l1 S (n : Int) (mat n W) f l (i : Int) = some r ∧ dInv n W S S.length r := by
  refine up (P := fun i f => ∀ l, dInv n W S i l → ∃ r, F_impl_dominating_l1 S (n : Int) (mat n W) f l (i : Int) = some r ∧ dInv n W S S.length r) (fun f l hi => ?_) (fun i f hi ih l hinv => ?_)
  · rw [F_impl_dominating_l1.eq_2, dlt_f (by omega)]
    exact ⟨l, rfl, hi⟩
  · obtain ⟨p, e, j, hj, hpj⟩ := hS _ (List.getElem_mem hi)
    have hne : lst n p ≠ [] := fun h0 => by
      have h1 := lst_contains (n := n) (p := p) (i := j)
      rw [h0, decide_eq_true hj, hpj] at h1
      cases h1
    have h2 := im_d2 (W := W) h6 (p := p) (lst n p).length 0 ((lst n p).length + 1) (by omega) (by omega) true
    rw [show ((0 : Nat) : Int) = 0 from rfl, List.drop_zero, Bool.true_and] at h2
    have htk : ∀ x, x ∈ S.take (i + 1) ↔ x ∈ S.take i ∨ x = lst n p := fun x => by
      rw [← List.take_append_getElem hi, List.mem_append, List.mem_singleton, e]
    rw [F_impl_dominating_l1.eq_2, dlt_t hi, cond_true, idx_nat hi, e, h2, Option.bind_some, W_succ hi (by unfold maxLen; omega)]
    cases hd : (lst n p).all (domB n W p) with
    | false =>
      have hnd : ¬ DomL n W (lst n p) := fun h => by rw [domL_lst, ← dom_iff, hd] at h; cases h
      rw [Bool.false_and, cond_false, Option.bind_some]
      refine ih l ?_
      rcases hinv with ⟨h1, h3⟩ | ⟨h1, h3, h4⟩
      · exact .inl ⟨h1, fun x hx => by
          rcases (htk x).1 hx with h | h
          · exact h3 x h
          · rw [h]; exact hnd⟩
      · exact .inr ⟨h1, h3, fun x hx hxd => by
          rcases (htk x).1 hx with h | h
          · exact h4 x h hxd
          · rw [h] at hxd; exact absurd hxd hnd⟩
    | true =>
      have hdm : DomL n W (lst n p) := domL_lst.2 (dom_iff.1 hd)
      rw [Bool.true_and]
      rcases hinv with ⟨h1, h3⟩ | ⟨h1, h3, h4⟩
      · subst h1
        rw [show ((List.length ([] : List Int) : Int) == 0) = true from rfl, Bool.true_or, cond_true, Option.bind_some]
        refine ih _ (.inr ⟨hne, hdm, fun x hx hxd => ?_⟩)
        rcases (htk x).1 hx with h | h
        · exact absurd hxd (h3 x h)
        · rw [h]; exact Nat.le_refl _
      · have hpos : 0 < l.length := List.length_pos_iff.2 h1
        rw [beq_eq_false_iff_ne.2 (show ((l.length : Int)) ≠ 0 by omega), Bool.false_or]
        by_cases hlt : (lst n p).length < l.length
        · rw [dlt_t hlt, cond_true, Option.bind_some]
          refine ih _ (.inr ⟨hne, hdm, fun x hx hxd => ?_⟩)
          rcases (htk x).1 hx with h | h
          · have := h4 x h hxd; omega
          · rw [h]; exact Nat.le_refl _
        · rw [dlt_f hlt, cond_false, Option.bind_some]
          refine ih _ (.inr ⟨h1, h3, fun x hx hxd => ?_⟩)
          rcases (htk x).1 hx with h | h
          · exact h4 x h hxd
          · rw [h]; omega
/-- the dominating set with the fewest options -/
def Best (n : Nat) (W : Nat → Nat → Int) (p : Nat → Bool) : Prop := Dom n W p ∧ (∃ i, i < n ∧ p i = true) ∧ ∀ q : Nat → Bool, Dom n W q → (∃ i, i < n ∧ q i = true) → (lst n p).length ≤ (lst n q).length
theorem imDomin {R : List (List Nat)} {T : List Nat} (h : Prof n R T) : ∃ p, F_impl_dominating (prof R T) = some (lst n p) ∧ Best n (pairM R T) p := by
  have h6 := h.n6
  have h1 := h.n1
  obtain ⟨S, e1, e2, -⟩ := imAllSets h6
  have h64 : 2 ^ n ≤ 64 := Nat.pow_le_pow_right (n := 2) (by decide) h6
  have hlen : S.length ≤ 64 := by rw [e2.length_eq, List.length_map, List.length_range]; omega
  unfold F_impl_dominating
  rw [imOptions h, Option.bind_some, imPairs h, Option.bind_some, e1, Option.bind_some]
  obtain ⟨r, f1, f2⟩ := im_d1 (W := pairM R T) h6 (S := S) (by omega) (fun x hx => sets_mem (e2.mem_iff.1 hx)) S.length 0 (S.length + 1) (by omega) (by omega) [] (.inl ⟨rfl, fun x hx => by rw [List.take_zero] at hx; cases hx⟩)
  rw [show ((0 : Nat) : Int) = 0 from rfl] at f1
  rw [f1]
  unfold dInv at f2
  rw [List.take_length] at f2
  have hin : ∀ q : Nat → Bool, (∃ i, i < n ∧ q i = true) → lst n q ∈ S := fun q hq => e2.mem_iff.2 (mem_sets hq)
  rcases f2 with ⟨-, g2⟩ | ⟨g1, ⟨p, rfl, g2⟩, g3⟩
  · exact absurd (domL_lst.2 fun _ _ _ _ _ _ => rfl) (g2 _ (hin (fun _ => true) ⟨0, by omega, rfl⟩))
  · refine ⟨p, rfl, g2, ?_, fun q hq hqn => g3 _ (hin q hqn) (domL_lst.2 hq)⟩
    obtain ⟨v, hv⟩ := List.exists_mem_of_ne_nil _ g1
    obtain ⟨i, hi, -⟩ := List.getElem_of_mem hv
    obtain ⟨a, -, ha, hpa⟩ := lst_get hi
    exact ⟨a, ha, hpa⟩
theorem best_eq {p q : Nat → Bool} (hp : Best n W p) (hq : Best n W q) : lst n p = lst n q := by
  have h1 := hp.2.2 q hq.1 hq.2.1
  have h2 := hq.2.2 p hp.1 hp.2.1
  exact dom_min hp.1 hq.1 (by omega)
theorem sp_l1 (h6 : n ≤ 6) : ∀ k i f, i + k = n → k < f → ∀ p : Nat → Bool, (Dom n W p ∧ (∃ i, i < n ∧ p i = true) ∧ ∀ q : Nat → Bool, Dom n W q → (∃ j, j < i ∧ q j = true) → (lst n p).length ≤ (lst n q).length) →
    ∃ p', F_spec_LeastDominating_l1 (mat n W) f (lst n p) (i : Int) = some (lst n p', true) ∧ Best n W p' := by
  refine up (P := fun i f => ∀ p : Nat → Bool, (Dom n W p ∧ (∃ i, i < n ∧ p i = true) ∧ ∀ q : Nat → Bool, Dom n W q → (∃ j, j < i ∧ q j = true) → (lst n p).length ≤ (lst n q).length) →
    ∃ p', F_spec_LeastDominating_l1 (mat n W) f (lst n p) (i : Int) = some (lst n p', true) ∧ Best n W p') (fun f p hp => ?_) (fun i f hi ih p hp => ?_)
  · rw [F_spec_LeastDominating_l1.eq_2, mat_len, dlt_f (by omega)]
    exact ⟨p, rfl, hp⟩
  · obtain ⟨p1, e1, e2, e3, e4⟩ := spDomin (W := W) h6 hi
    have key : ∀ q : Nat → Bool, Dom n W q → q i = true → (lst n p1).length ≤ (lst n q).length := fun q hq hqi => (lst_le (e4 q hq hqi)).1
    rw [F_spec_LeastDominating_l1.eq_2, mat_len, dlt_t hi, cond_true, e1, Option.bind_some, W_succ hi (by unfold maxLen; omega)]
    by_cases hlt : (lst n p1).length < (lst n p).length
    · rw [dlt_t hlt, cond_true]
      refine ih p1 ⟨e3, ⟨i, hi, e2⟩, fun q hq ⟨j, hj, hqj⟩ => ?_⟩
      by_cases hji : j = i
      · subst hji; exact key q hq hqj
      · have := hp.2.2 q hq ⟨j, by omega, hqj⟩; omega
    · rw [dlt_f hlt, cond_false]
      refine ih p ⟨hp.1, hp.2.1, fun q hq ⟨j, hj, hqj⟩ => ?_⟩
      by_cases hji : j = i
      · subst hji; have := key q hq hqj; omega
      · exact hp.2.2 q hq ⟨j, by omega, hqj⟩
end
theorem eqLeast (p : DProfile) (h : smP p) : ∃ r, F_spec_LeastDominating p = some r ∧ F_impl_LeastDominating p = some r ∧ r.1.length ≤ 1048576 := by
  unfold F_spec_LeastDominating F_impl_LeastDominating
  rw [spProfile p h, imProfile p h]
  simp only [Option.bind_some]
  cases q : profOk p
  · exact ⟨_, rfl, rfl, by simp⟩
  · obtain ⟨n, R, T, rfl, hp, -⟩ := prof_nat q
    have h6 := hp.n6
    have h1 := hp.n1
    obtain ⟨p1, e1, e2⟩ := imDomin hp
    obtain ⟨p0, g1, g2, g3, g4⟩ := spDomin (W := pairM R T) h6 (i := 0) (by omega)
    obtain ⟨p2, f1, f2⟩ := sp_l1 (W := pairM R T) h6 (n - 1) 1 (Int.toNat ((n : Int) - 1) + 2) (by omega) (by omega) p0 ⟨g3, ⟨0, by omega, g2⟩, fun q hq ⟨j, hj, hqj⟩ => (lst_le (g4 q hq (by rw [show (0 : Nat) = j by omega]; exact hqj))).1⟩
    simp only [Bool.not_true, cond_false]
    rw [spPairs hp, Option.bind_some, e1, Option.bind_some, mat_len]
    rw [show ((0 : Nat) : Int) = 0 from rfl] at g1
    rw [show ((1 : Nat) : Int) = 1 from rfl] at f1
    rw [g1, Option.bind_some, f1, best_eq e2 f2]
    have := lst_len (n := n) (p := p2)
    exact ⟨_, rfl, rfl, by show (lst n p2).length ≤ 1048576; omega⟩
/-! the option that defeats all others -/
section
variable {n : Nat} {W : Nat → Nat → Int}
def allB (n : Nat) (W : Nat → Nat → Int) (i : Nat) : Bool := (List.range n).all fun c => !edge W i c
theorem sp_a2 (h6 : n ≤ 6) {i : Nat} (hi : i < n) : ∀ k j f, j + k = n → k < f → ∀ q : Bool, F_spec_DefeatsAll_l2 (mat n W) (i : Int) f q (j : Int) = some (bif q && ((List.range n).drop j).all (fun c => !edge W i c) then Sum.inl ((i : Int), true) else Sum.inr ()) := by
  refine up (P := fun j f => ∀ q : Bool, F_spec_DefeatsAll_l2 (mat n W) (i : Int) f q (j : Int) = some (bif q && ((List.range n).drop j).all (fun c => !edge W i c) then Sum.inl ((i : Int), true) else Sum.inr ())) (fun f q => ?_) (fun j f hj ih q => ?_)
  · rw [F_spec_DefeatsAll_l2.eq_2, mat_len, dlt_f (by omega), List.drop_of_length_le (by simp)]
    cases q <;> rfl
  · have hq : (Option.bind (bif q then (bif ((j : Int) == (i : Int)) then some true else (idx (mat n W) (i : Int) fun x49 => idx x49 (j : Int) fun x60 => idx (mat n W) (j : Int) fun x70 => idx x70 (i : Int) fun x81 => some (decide (x60 > x81)))) else some false) : _ → Option (Sum (Int × Bool) Unit)) = Option.bind (some (q && !edge W i j)) := by
      congr 1
      cases q
      · rfl
      · rw [cond_true, Bool.true_and]
        unfold edge
        by_cases hij : i = j
        · subst hij; rw [beq_self_eq_true, bne_self_eq_false]; rfl
        · rw [beq_eq_false_iff_ne.2 (show (j : Int) ≠ (i : Int) by omega), bne_iff_ne.2 hij, Bool.true_and, cond_false, idx_mat hi, idx_tab hj, idx_mat hj, idx_tab hi]
          by_cases h : W i j ≤ W j i
          · rw [decide_eq_true h, decide_eq_false (by omega)]; rfl
          · rw [decide_eq_false h, decide_eq_true (by omega)]; rfl
    rw [F_spec_DefeatsAll_l2.eq_2, mat_len, dlt_t hj, cond_true, hq, Option.bind_some, W_succ hj (by unfold maxLen; omega), ih, List.drop_eq_getElem_cons (i := j) (l := List.range n) (by simpa using hj), List.all_cons, List.getElem_range, Bool.and_assoc]
theorem sp_a1 (h6 : n ≤ 6) : ∀ k i f, i + k = n → k < f → (∃ a, a < n ∧ allB n W a = true ∧ F_spec_DefeatsAll_l1 (mat n W) f (i : Int) = some ((a : Int), true)) ∨ ((∀ a, i ≤ a → a < n → allB n W a = false) ∧ F_spec_DefeatsAll_l1 (mat n W) f (i : Int) = some (0, false)) := by
  refine up (P := fun i f => (∃ a, a < n ∧ allB n W a = true ∧ F_spec_DefeatsAll_l1 (mat n W) f (i : Int) = some ((a : Int), true)) ∨ ((∀ a, i ≤ a → a < n → allB n W a = false) ∧ F_spec_DefeatsAll_l1 (mat n W) f (i : Int) = some (0, false))) (fun f => ?_) (fun i f hi ih => ?_)
  · right
    rw [F_spec_DefeatsAll_l1.eq_2, mat_len, dlt_f (by omega)]
    exact ⟨fun a h1 h2 => by omega, rfl⟩
  · have h2 := sp_a2 (W := W) h6 hi n 0 (n + 1) (by omega) (by omega) true
    rw [show ((0 : Nat) : Int) = 0 from rfl, List.drop_zero, Bool.true_and] at h2
    rw [F_spec_DefeatsAll_l1.eq_2, mat_len, dlt_t hi, cond_true, h2, Option.bind_some, W_succ hi (by unfold maxLen; omega)]
    cases hb : allB n W i with
    | true =>
      have hb' : (List.range n).all (fun c => !edge W i c) = true := hb
      rw [hb']
      exact .inl ⟨i, hi, hb, rfl⟩
    | false =>
      have hb' : (List.range n).all (fun c => !edge W i c) = false := hb
      rw [hb']
      show (∃ a, a < n ∧ allB n W a = true ∧ F_spec_DefeatsAll_l1 (mat n W) f ((i + 1 : Nat) : Int) = some ((a : Int), true)) ∨ ((∀ a, i ≤ a → a < n → allB n W a = false) ∧ F_spec_DefeatsAll_l1 (mat n W) f ((i + 1 : Nat) : Int) = some (0, false))
      rcases ih with h | ⟨h3, h4⟩
      · exact .inl h
      · refine .inr ⟨fun a h5 h6 => ?_, h4⟩
        by_cases hai : a = i
        · rw [hai]; exact hb
        · exact h3 a (by omega) h6
theorem allB_edge {a : Nat} (h : allB n W a = true) {b : Nat} (hb : b < n) : edge W a b = false := by
  unfold allB at h
  rw [List.all_eq_true] at h
  have := h b (List.mem_range.2 hb)
  simpa using this
theorem one_dom {a : Nat} (h : allB n W a = true) : Dom n W (fun i => i == a) := by
  intro x hx b hb hxa he
  rw [beq_iff_eq.1 hxa, allB_edge h hb] at he
  cases he
theorem lst_one {a : Nat} (ha : a < n) : lst n (fun i => i == a) = [(a : Int)] := by
  have hm : ∀ m, lst m (fun i => i == a) = if a < m then [(a : Int)] else [] := by
    intro m
    induction m with
    | zero => rfl
    | succ m ih =>
      rw [lst_succ, ih]
      by_cases h : m = a
      · rw [if_pos (beq_iff_eq.2 h), if_neg (by omega), if_pos (by omega), h]; rfl
      · rw [if_neg (by rw [beq_eq_false_iff_ne.2 h]; decide)]
        by_cases h2 : a < m
        · rw [if_pos h2, if_pos (by omega)]
        · rw [if_neg h2, if_neg (by omega)]
  rw [hm n, if_pos ha]
/-- a dominating set of one option -/
theorem single {p : Nat → Bool} (hp : Dom n W p) (hn : ∃ i, i < n ∧ p i = true) (hl : (lst n p).length ≤ 1) : ∃ a, a < n ∧ allB n W a = true := by
  obtain ⟨a, ha, hpa⟩ := hn
  have hle := lst_le (n := n) (p := fun i => i == a) (q := p) fun i _ hi => by rw [beq_iff_eq.1 hi]; exact hpa
  rw [lst_one ha] at hle
  have h2 := hle.2 (by simp only [List.length_singleton] at hle ⊢; omega)
  refine ⟨a, ha, ?_⟩
  unfold allB
  rw [List.all_eq_true]
  intro b hb
  have hb := List.mem_range.1 hb
  cases he : edge W a b with
  | false => rfl
  | true =>
    have h3 := hp a ha b hb hpa he
    rw [← h2 b hb] at h3
    rw [beq_iff_eq.1 h3] at he
    unfold edge at he
    rw [bne_self_eq_false] at he
    cases he
end
theorem eqDefeats (p : DProfile) (h : smP p) : ∃ r, F_spec_DefeatsAll p = some r ∧ F_impl_DefeatsAll p = some r := by
  unfold F_spec_DefeatsAll F_impl_DefeatsAll
  rw [spProfile p h, imProfile p h]
  simp only [Option.bind_some]
  cases q : profOk p
  · exact ⟨_, rfl, rfl⟩
  · obtain ⟨n, R, T, rfl, hp, -⟩ := prof_nat q
    have h6 := hp.n6
    obtain ⟨p1, e1, e2⟩ := imDomin hp
    have hs := sp_a1 (W := pairM R T) h6 n 0 (n + 1) (by omega) (by omega)
    simp only [Bool.not_true, cond_false]
    rw [spPairs hp, Option.bind_some, e1, Option.bind_some, mat_len]
    rw [show ((0 : Nat) : Int) = 0 from rfl] at hs
    rcases hs with ⟨a, ha, hb, f1⟩ | ⟨hb, f1⟩
    · have hd := one_dom hb
      have h3 := e2.2.2 _ hd ⟨a, ha, beq_self_eq_true a⟩
      obtain ⟨b, hb1, hb2⟩ := e2.2.1
      have hpos : 0 < (lst n p1).length := by
        cases hc : lst n p1 with
        | nil =>
          have := lst_contains (n := n) (p := p1) (i := b)
          rw [hc, decide_eq_true hb1, hb2] at this; cases this
        | cons => simp
      rw [lst_one ha] at h3
      have heq := dom_min e2.1 hd (by rw [lst_one ha]; simp only [List.length_singleton] at h3 ⊢; omega)
      rw [lst_one ha] at heq
      rw [f1, heq]
      exact ⟨_, rfl, rfl⟩
    · rw [f1]
      have hl : (lst n p1).length > 1 := Classical.byContradiction fun hc => by
        obtain ⟨a, ha, hba⟩ := single e2.1 e2.2.1 (by omega)
        rw [hb a (Nat.zero_le _) ha] at hba; cases hba
      rw [decide_eq_true (show ((lst n p1).length : Int) > 1 by omega)]
      exact ⟨_, rfl, rfl⟩
end Go.FX
