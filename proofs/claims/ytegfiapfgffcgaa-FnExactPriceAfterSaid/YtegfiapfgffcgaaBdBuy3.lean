/- The pure part: what the functions compute, in plain Lean, with no program in sight; no condition. -/
import Derived.Test.YtegfiapfgffcgaaBdBuy2
namespace Go.FX
open Go Go.GL Go.RowKit
/-! orders -/
def ordC (e : DElection) (l : List Int) (i : Nat) : Bool := match l[i]? with
  | some x => within x 0 (IntKind.i64.wrap ((e.fCosts.length : Int) - 1)) && !(l.take i).contains x
  | none => false
theorem ordC_at {e : DElection} {l : List Int} {i : Nat} (hi : i < l.length) : ordC e l i = (within l[i] 0 (IntKind.i64.wrap ((e.fCosts.length : Int) - 1)) && !(l.take i).contains l[i]) := by
  unfold ordC
  rw [List.getElem?_eq_getElem hi]
def ordOk (e : DElection) (l : List Int) : Bool := (List.range l.length).all (ordC e l)
theorem spOrder (e : DElection) (l : List Int) (hl : l.length ≤ maxLen) : F_spec_l05Order e l = some (ordOk e l) := by
  unfold F_spec_l05Order
  have := all_loopG (n := l.length) (F := F_spec_l05Order_l1 l e) (ordC e l) (good := some true) (bad := some false) (fun f => by rw [F_spec_l05Order_l1.eq_2, dlt_f (by omega)]; rfl) (fun i f hi => by
    have hk : (l.take i).length ≤ maxLen := by rw [List.length_take]; omega
    rw [F_spec_l05Order_l1.eq_2, dlt_t hi, cond_true, idx_nat hi]
    unfold F_spec_l05Project
    rw [spIn, Option.bind_some, Option.bind_some, idx_nat hi, sub_ok0 (by omega)]
    simp only [Int.toNat_zero, List.drop_zero, Int.toNat_natCast]
    rw [spHas _ _ hk, W_succ hi hl, ordC_at hi]
    cases within l[i] 0 (IntKind.i64.wrap ((e.fCosts.length : Int) - 1)) <;> cases (l.take i).contains l[i] <;> rfl) (m := l.length + 1) (by omega)
  rw [this]
  unfold ordOk
  cases (List.range l.length).all (ordC e l) <;> rfl
theorem imOrder (e : DElection) (l : List Int) (hl : l.length ≤ maxLen) (he : smEl e) : F_impl_isOrder e l = some (ordOk e l && elOk e) := by
  unfold F_impl_isOrder
  have := all_loopG (n := l.length) (F := F_impl_isOrder_l1 l e) (ordC e l) (good := some (elOk e)) (bad := some false) (fun f => by rw [F_impl_isOrder_l1.eq_2, dlt_f (by omega), cond_false, imElect e he]; rfl) (fun i f hi => by
    have hk : (l.take i).length ≤ maxLen := by rw [List.length_take]; omega
    rw [F_impl_isOrder_l1.eq_2, dlt_t hi, cond_true, idx_nat hi, imIn, Option.bind_some, sub_ok0 (by omega)]
    simp only [Int.toNat_zero, List.drop_zero, Int.toNat_natCast]
    rw [imContains _ _ hk, W_succ hi hl, ordC_at hi]
    cases within l[i] 0 (IntKind.i64.wrap ((e.fCosts.length : Int) - 1)) <;> cases (l.take i).contains l[i] <;> rfl) (m := l.length + 1) (by omega)
  rw [this]
  unfold ordOk
  cases (List.range l.length).all (ordC e l) <;> rfl
theorem order_nat {m : Nat} {C : List Nat} {A : List (Nat → Bool)} {l : List Int} (h : Elec m C A) (ho : ordOk (ele m C A) l = true) : ∃ os : List Nat, l = os.map Int.ofNat ∧ (∀ p ∈ os, p < C.length) ∧ os.Nodup ∧ os.length ≤ 6 := by
  unfold ordOk at ho
  rw [List.all_eq_true] at ho
  have hc := h.c6; have hc1 := h.c1
  have hi : ∀ i (hi : i < l.length), 0 ≤ l[i] ∧ l[i] < C.length ∧ l[i] ∉ l.take i := fun i hi => by
    have := ho i (List.mem_range.2 hi)
    rw [ordC_at hi, ele_C, W_id (by omega) (by omega), Bool.and_eq_true, within_iff, Bool.not_eq_true', ← Bool.not_eq_true, List.contains_iff_mem] at this
    exact ⟨this.1.1, by omega, this.2⟩
  have hA : ∀ x ∈ l, 0 ≤ x ∧ x < C.length := by
    intro x hx
    obtain ⟨i, h1, rfl⟩ := List.getElem_of_mem hx
    have := hi i h1
    omega
  have he : l = (l.map Int.toNat).map Int.ofNat := by
    rw [List.map_map]
    refine (List.map_id l).symm.trans (List.map_congr_left fun x hx => ?_)
    exact (Int.toNat_of_nonneg (hA x hx).1).symm
  have hlt : ∀ p ∈ l.map Int.toNat, p < C.length := fun p hp => by
    obtain ⟨x, hx, rfl⟩ := List.mem_map.1 hp
    have := hA x hx
    omega
  have hnd : (l.map Int.toNat).Nodup := by
    rw [List.nodup_iff_pairwise_ne, List.pairwise_iff_getElem]
    intro i j h1 h2 hij
    rw [List.length_map] at h1 h2
    rw [List.getElem_map, List.getElem_map]
    intro e
    obtain ⟨a1, a2, a3⟩ := hi j h2
    obtain ⟨b1, b2, b3⟩ := hi i h1
    have e2 : l[i] = l[j] := by omega
    refine a3 ?_
    rw [← e2, List.mem_iff_getElem]
    exact ⟨i, by rw [List.length_take]; omega, by rw [List.getElem_take]⟩
  refine ⟨_, he, hlt, hnd, ?_⟩
  have := hnd.length_le_of_subset (l₂ := List.range C.length) fun p hp => List.mem_range.2 (hlt p hp)
  rw [List.length_range] at this
  omega
theorem run_len {C : List Nat} {A : List (Nat → Bool)} : ∀ {os : List Nat} {D : Nat} {X : List Int} {s : Nat × List Int} {L : List (List DFraction)}, run C A D X os = some (s, L) → X.length = A.length → s.2.length = A.length ∧ L.length = os.length ∧ ∀ l ∈ L, l.length = A.length := by
  intro os
  induction os with
  | nil => intro D X s L e hX; cases e; exact ⟨hX, rfl, by simp⟩
  | cons p os ih =>
    intro D X s L e hX
    unfold run at e
    cases q : prc D ((C[p]! : Int) * D) (srt (own A X p)) with
    | none => rw [q] at e; cases e
    | some r =>
      obtain ⟨x, k⟩ := r
      rw [q] at e
      simp only at e
      cases q2 : run C A (D * k) (newN A X p x k) os with
      | none => rw [q2] at e; cases e
      | some r =>
        obtain ⟨s2, L2⟩ := r
        rw [q2] at e
        cases e
        obtain ⟨a, b, c⟩ := ih q2 newN_len
        refine ⟨a, by simp [b], fun l hl => ?_⟩
        rcases List.mem_cons.1 hl with rfl | hl
        · rw [frs_len, payN_len]
        · exact c l hl
theorem eqPurses (e : DElection) (O : List Int) (h : smEl e) (hO : O.length ≤ maxLen) : ∃ r, F_spec_PursesAfter e O = some r ∧ F_impl_PursesAfter e O = some r ∧ r.1.length ≤ 1048576 := by
  unfold F_spec_PursesAfter F_impl_PursesAfter
  rw [spElect e h, imOrder e O hO h]
  simp only [Option.bind_some]
  rw [spOrder e O hO]
  cases q : elOk e
  · exact ⟨([], false), rfl, by rw [Bool.and_false]; rfl, by simp⟩
  · cases q2 : ordOk e O
    · exact ⟨([], false), rfl, rfl, by simp⟩
    · obtain ⟨m, C, A, rfl, he⟩ := elect_nat q
      obtain ⟨os, rfl, ho, -, hn⟩ := order_nat he q2
      simp only [Bool.not_true, cond_false, Option.bind_some, Bool.and_self]
      rw [spBuy he ho hn, imBought he ho hn]
      refine ⟨_, rfl, rfl, ?_⟩
      cases r : runO m C A os with
      | none => simp [outB]
      | some s =>
        obtain ⟨⟨D, X⟩, L⟩ := s
        have := (run_len r shr0_len).1
        have ha := he.a6
        simp only [outB, frs_len]
        simp only at this
        omega
theorem eqPayments (e : DElection) (O : List Int) (h : smEl e) (hO : O.length ≤ maxLen) : ∃ r, F_spec_PaymentsOf e O = some r ∧ F_impl_PaymentsOf e O = some r ∧ r.1.length ≤ 6 ∧ ∀ l ∈ r.1, l.length ≤ 6 := by
  unfold F_spec_PaymentsOf F_impl_PaymentsOf
  rw [spElect e h, imOrder e O hO h]
  simp only [Option.bind_some]
  rw [spOrder e O hO]
  cases q : elOk e
  · exact ⟨([], false), rfl, by rw [Bool.and_false]; rfl, by simp⟩
  · cases q2 : ordOk e O
    · exact ⟨([], false), rfl, rfl, by simp⟩
    · obtain ⟨m, C, A, rfl, he⟩ := elect_nat q
      obtain ⟨os, rfl, ho, -, hn⟩ := order_nat he q2
      simp only [Bool.not_true, cond_false, Option.bind_some, Bool.and_self]
      rw [spBuy he ho hn, imBought he ho hn]
      refine ⟨_, rfl, rfl, ?_⟩
      cases r : runO m C A os with
      | none => simp [outB]
      | some s =>
        obtain ⟨⟨D, X⟩, L⟩ := s
        obtain ⟨-, h1, h2⟩ := run_len r shr0_len
        have ha := he.a6
        simp only [outB, List.nil_append]
        exact ⟨by omega, fun l hl => by rw [h2 l hl]; exact ha⟩
theorem sum_b {α : Type} {w : α → Nat} {b : Nat} : ∀ {l : List α}, (∀ x ∈ l, w x ≤ b) → (l.map w).sum ≤ l.length * b := by
  intro l
  induction l with
  | nil => intro _; simp
  | cons x l ih =>
    intro h
    have h1 := h x (List.mem_cons_self ..)
    have h2 := ih fun y hy => h y (List.mem_cons_of_mem _ hy)
    rw [List.map_cons, List.sum_cons, List.length_cons, Nat.succ_mul]
    omega
theorem eqPayC (e : DElection) (O : List Int) (h : smEl e) (hO : O.length ≤ maxLen) : ∃ r, F_spec_PaymentsOf e O = some r ∧ F_impl_PaymentsOf e O = some r ∧ (r.1.length + (r.1.map (fun e : List DFraction => e.length)).sum) ≤ 1048576 := by
  obtain ⟨r, h1, h2, h3, h4⟩ := eqPayments e O h hO
  refine ⟨r, h1, h2, ?_⟩
  have := sum_b (w := fun e : List DFraction => e.length) h4
  have : r.1.length * 6 ≤ 6 * 6 := Nat.mul_le_mul_right _ h3
  omega
/-- behind a run the purses are purses -/
theorem run_pur {m : Nat} {C : List Nat} {A : List (Nat → Bool)} (h : Elec m C A) : ∀ {os : List Nat} {i D : Nat} {X : List Int} {s : Nat × List Int} {L : List (List DFraction)}, run C A D X os = some (s, L) → (∀ p ∈ os, p < C.length) → Pur D X → X.length = A.length → D ≤ 6 ^ (i + 1) → i + os.length ≤ 6 → Pur s.1 s.2 ∧ s.2.length = A.length ∧ s.1 ≤ 6 ^ (i + os.length + 1) := by
  intro os
  induction os with
  | nil => intro i D X s L e _ hX hl hD _; cases e; exact ⟨hX, hl, hD⟩
  | cons p os ih =>
    intro i D X s L e ho hX hl hD hi
    unfold run at e
    cases q : prc D ((C[p]! : Int) * D) (srt (own A X p)) with
    | none => rw [q] at e; cases e
    | some r =>
      obtain ⟨x, k⟩ := r
      rw [q] at e
      simp only at e
      obtain ⟨h1, h2, h3, h4⟩ := prc_facts h hX hl (ho p (List.mem_cons_self ..)) q
      simp only [List.length_cons] at hi
      have hDk : D * k ≤ 6 ^ (i + 1 + 1) := by rw [Nat.pow_succ]; exact Nat.mul_le_mul hD h4
      cases q2 : run C A (D * k) (newN A X p x k) os with
      | none => rw [q2] at e; cases e
      | some r =>
        obtain ⟨s2, L2⟩ := r
        rw [q2] at e
        cases e
        have := ih (i := i + 1) q2 (fun p hp => ho p (List.mem_cons_of_mem _ hp)) (hX.new hl h1 h3 (Nat.le_trans hDk (pow6 (by omega)))) newN_len hDk (by omega)
        refine ⟨this.1, this.2.1, ?_⟩
        have e : i + (p :: os).length + 1 = i + 1 + os.length + 1 := by simp; omega
        rw [e]
        exact this.2.2
theorem runO_pur {m : Nat} {C : List Nat} {A : List (Nat → Bool)} (h : Elec m C A) {os : List Nat} {s : Nat × List Int} {L : List (List DFraction)} (e : runO m C A os = some (s, L)) (ho : ∀ p ∈ os, p < C.length) (hn : os.length ≤ 6) : Pur s.1 s.2 ∧ s.2.length = A.length := by
  have := run_pur h (i := 0) e ho (shr_pur h) shr0_len (by have := h.a6; omega) (by omega)
  exact ⟨this.1, this.2.1⟩
theorem eqPriceAfter (e : DElection) (O : List Int) (p : Int) (h : smEl e) (hO : O.length ≤ maxLen) : ∃ r, F_spec_PriceAfter e O p = some r ∧ F_impl_PriceAfter e O p = some r := by
  unfold F_spec_PriceAfter F_impl_PriceAfter
  have hPA : F_impl_PursesAfter e O = (F_impl_isOrder e O).bind fun x6 => bif (!x6) then (some ([], false)) else ((F_impl_Election_bought e O).bind fun x17 => some (x17.1, x17.2.2)) := rfl
  rw [hPA, spElect e h, imOrder e O hO h]
  simp only [Option.bind_some]
  rw [spOrder e O hO]
  cases q : elOk e
  · exact ⟨(⟨0, 0⟩, false), rfl, by rw [Bool.and_false]; rfl⟩
  · cases q2 : ordOk e O
    · exact ⟨(⟨0, 0⟩, false), rfl, rfl⟩
    · obtain ⟨m, C, A, rfl, he⟩ := elect_nat q
      obtain ⟨os, rfl, ho, -, hn⟩ := order_nat he q2
      simp only [Bool.not_true, cond_false, Option.bind_some, Bool.and_self]
      have hpj : F_impl_isProject (ele m C A) p = some (within p 0 (IntKind.i64.wrap (((ele m C A).fCosts.length : Int) - 1))) := by
        unfold F_impl_isProject
        rw [imElect _ h, q]
        rfl
      have hps : F_spec_l05Project (ele m C A) p = some (within p 0 (IntKind.i64.wrap (((ele m C A).fCosts.length : Int) - 1))) := rfl
      rw [imBought he ho hn, hps, hpj, Option.bind_some, Option.bind_some, spHas _ _ hO, imContains _ _ hO]
      cases q3 : within p 0 (IntKind.i64.wrap (((ele m C A).fCosts.length : Int) - 1))
      · refine ⟨(⟨0, 0⟩, false), rfl, ?_⟩
        cases r : runO m C A os with
        | none => rfl
        | some s => obtain ⟨⟨D, X⟩, L⟩ := s; rfl
      · simp only [Bool.not_true, cond_false, Option.bind_some]
        cases q4 : (os.map Int.ofNat).contains p
        · simp only [cond_false]
          rw [spBuy he ho hn]
          cases r : runO m C A os with
          | none => exact ⟨_, rfl, rfl⟩
          | some s =>
            obtain ⟨⟨D, X⟩, L⟩ := s
            obtain ⟨h1, h2⟩ := runO_pur he r ho hn
            have hc := he.c6; have hc1 := he.c1
            rw [ele_C, W_id (by omega) (by omega), within_iff] at q3
            obtain ⟨j, rfl⟩ : ∃ j : Nat, p = j := ⟨p.toNat, by omega⟩
            simp only [outB, swp, Option.bind_some, Bool.not_true, cond_false]
            rw [spPrice he h1 h2 (by omega), imPrice he h1 h2 (by omega)]
            exact ⟨_, rfl, rfl⟩
        · refine ⟨(⟨0, 0⟩, false), rfl, ?_⟩
          cases r : runO m C A os with
          | none => rfl
          | some s => obtain ⟨⟨D, X⟩, L⟩ := s; rfl
end Go.FX
