/- The pure part: what the functions compute, in plain Lean, with no program in sight; no condition. -/
import Derived.Test.YtnjfgdadnbekpaaDoorTvPure8
namespace Go.FX
open Go Go.GL Go.RowKit
/-! the reference's reading -/
theorem idx_mid {β : Type} {pre rest : Bytes} {c : UInt8} {k : UInt8 → Option β} : idx (pre ++ c :: rest) (pre.length : Int) k = k c := by
  rw [idx_nat (by rw [List.length_append, List.length_cons]; omega)]
  congr 1
  simp
theorem len_mid (pre rest : Bytes) (c : UInt8) : decide ((pre.length : Int) < (List.length (pre ++ c :: rest) : Int)) = true := decide_eq_true (by rw [List.length_append, List.length_cons]; omega)
def val (acc : Int) : Bytes → Option Int
  | [] => some acc
  | c :: r => if 48 ≤ c.toNat ∧ c.toNat ≤ 57 ∧ acc ≤ 1000 then val (IntKind.i64.wrap ((IntKind.i64.wrap (10 * acc)) + (IntKind.i64.wrap (IntKind.u8.wrap ((c.toNat : Int) - 48))))) r else none
set_option maxRecDepth 100000 in
theorem val_tab : ∀ k : Fin 1001, val 0 (dd 5 k.val) = some (k.val : Int) := by decide +kernel
theorem l2_run (rest : Bytes) : ∀ (ds pre : Bytes) (acc v : Int) (f : Nat), val acc ds = some v → ds.length < f → (pre ++ (ds ++ 42 :: rest)).length ≤ maxLen →
    F_spec_l06Read_l2 (pre ++ (ds ++ 42 :: rest)) f (pre.length : Int) acc = some (((pre.length + ds.length : Nat) : Int), v) := by
  intro ds
  induction ds with
  | nil =>
    intro pre acc v f hv hf hl
    obtain ⟨f, rfl⟩ : ∃ g, f = g + 1 := ⟨f - 1, by simp at hf; omega⟩
    have hv := Option.some.inj hv
    subst hv
    rw [List.nil_append, F_spec_l06Read_l2.eq_2, len_mid, cond_true, idx_mid]
    rfl
  | cons c ds ih =>
    intro pre acc v f hv hf hl
    obtain ⟨f, rfl⟩ : ∃ g, f = g + 1 := ⟨f - 1, by omega⟩
    rw [val] at hv
    by_cases hc : 48 ≤ c.toNat ∧ c.toNat ≤ 57 ∧ acc ≤ 1000
    · rw [if_pos hc] at hv
      have e : pre ++ (c :: ds ++ 42 :: rest) = (pre ++ [c]) ++ (ds ++ 42 :: rest) := by simp
      have hw : IntKind.i64.wrap ((pre.length : Int) + 1) = (((pre ++ [c]).length : Nat) : Int) := by
        rw [W_succ (n := (pre ++ (c :: ds ++ 42 :: rest)).length) (by simp) hl, List.length_append, List.length_singleton]
      rw [F_spec_l06Read_l2.eq_2]
      rw [show pre ++ (c :: ds ++ 42 :: rest) = pre ++ c :: (ds ++ 42 :: rest) from rfl, len_mid, cond_true]
      simp only [idx_mid]
      rw [decide_eq_true (show (c.toNat : Int) ≥ 48 by omega), cond_true, decide_eq_true (show (c.toNat : Int) ≤ 57 by omega), cond_true, decide_eq_true hc.2.2, Option.bind_some, cond_true, hw]
      have := ih (pre ++ [c]) _ v f hv (by rw [List.length_cons] at hf; omega) (by rw [← e]; exact hl)
      rw [← e] at this
      rw [show pre ++ c :: (ds ++ 42 :: rest) = pre ++ (c :: ds ++ 42 :: rest) from rfl, this]
      congr 3
      simp only [List.length_append, List.length_cons, List.length_nil]
      omega
    · rw [if_neg hc] at hv; cases hv
theorem l3_run (rest : Bytes) : ∀ (cs pre : Bytes) (l : List Int) (f : Nat), (∀ c ∈ cs, 97 ≤ c.toNat ∧ c.toNat ≤ 122) → cs.length < f → (pre ++ (cs ++ 10 :: rest)).length ≤ maxLen → l.length + cs.length ≤ 1000000 →
    F_spec_l06Read_l3 (pre ++ (cs ++ 10 :: rest)) f (pre.length : Int) l = some (((pre.length + cs.length : Nat) : Int), l ++ cs.map gS) := by
  intro cs
  induction cs with
  | nil =>
    intro pre l f hv hf hl ho
    obtain ⟨f, rfl⟩ : ∃ g, f = g + 1 := ⟨f - 1, by simp at hf; omega⟩
    rw [List.nil_append, F_spec_l06Read_l3.eq_2, len_mid, cond_true, idx_mid, List.map_nil, List.append_nil]
    rfl
  | cons c cs ih =>
    intro pre l f hv hf hl ho
    obtain ⟨f, rfl⟩ : ∃ g, f = g + 1 := ⟨f - 1, by omega⟩
    have hc := hv c (by simp)
    rw [List.length_cons] at hf ho
    have e : pre ++ (c :: cs ++ 10 :: rest) = (pre ++ [c]) ++ (cs ++ 10 :: rest) := by simp
    have hw : IntKind.i64.wrap ((pre.length : Int) + 1) = (((pre ++ [c]).length : Nat) : Int) := by
      rw [W_succ (n := (pre ++ (c :: cs ++ 10 :: rest)).length) (by simp) hl, List.length_append, List.length_singleton]
    rw [F_spec_l06Read_l3.eq_2]
    rw [show pre ++ (c :: cs ++ 10 :: rest) = pre ++ c :: (cs ++ 10 :: rest) from rfl, len_mid, cond_true]
    simp only [idx_mid]
    rw [decide_eq_true (show (c.toNat : Int) ≥ 97 by omega), cond_true, decide_eq_true (show (c.toNat : Int) ≤ 122 by omega), Option.bind_some, cond_true, hw, app_ok (by simp only [List.length_cons, List.length_nil]; omega)]
    have := ih (pre ++ [c]) (l ++ [gS c]) f (fun x hx => hv x (List.mem_cons_of_mem _ hx)) (by omega) (by rw [← e]; exact hl) (by rw [List.length_append, List.length_singleton]; omega)
    rw [← e] at this
    rw [show pre ++ c :: (cs ++ 10 :: rest) = pre ++ (c :: cs ++ 10 :: rest) from rfl]
    refine Eq.trans this ?_
    rw [List.map_cons, List.append_assoc]
    congr 3
    simp only [List.length_append, List.length_cons, List.length_nil]
    omega
theorem l1_run : ∀ (Z : List (List Nat × Nat)) (pre : Bytes) (Rk : List (List Int)) (Wt : List Int) (f : Nat), ZOk Z → Z.length < f → Wt.length + Z.length ≤ 12 → Rk.length = Wt.length → (pre ++ qtxt Z).length ≤ 1000000 →
    F_spec_l06Read_l1 (pre ++ qtxt Z) f Rk Wt (pre.length : Int) = some (Sum.inr (Rk ++ Z.map fun z => z.1.map Int.ofNat, Wt ++ Z.map fun z => (z.2 : Int))) := by
  intro Z
  induction Z with
  | nil =>
    intro pre Rk Wt f _ hf _ _ _
    obtain ⟨f, rfl⟩ : ∃ g, f = g + 1 := ⟨f - 1, by simp at hf; omega⟩
    rw [show qtxt [] = [] from rfl, List.append_nil, F_spec_l06Read_l1.eq_2, dlt_f (Nat.lt_irrefl _), cond_false, List.map_nil, List.map_nil, List.append_nil, List.append_nil]
  | cons z Z ih =>
    intro pre Rk Wt f hz hf hW hR hl
    obtain ⟨f, rfl⟩ : ∃ g, f = g + 1 := ⟨f - 1, by omega⟩
    obtain ⟨h1, h2, h3⟩ := hz z (by simp)
    rw [List.length_cons] at hf hW
    have hdl := dd_len 5 z.2
    have hll := let_len z.1
    have e : pre ++ qtxt (z :: Z) = pre ++ (dd 5 z.2 ++ 42 :: (z.1.flatMap let1 ++ 10 :: qtxt Z)) := by
      unfold qtxt qline
      rw [List.flatMap_cons]
      simp
    have e3 : pre ++ qtxt (z :: Z) = (pre ++ (dd 5 z.2 ++ [42])) ++ (z.1.flatMap let1 ++ 10 :: qtxt Z) := by rw [e]; simp
    have e4 : pre ++ qtxt (z :: Z) = (pre ++ (dd 5 z.2 ++ [42] ++ z.1.flatMap let1 ++ [10])) ++ qtxt Z := by rw [e]; simp
    have e5 : pre ++ qtxt (z :: Z) = (pre ++ dd 5 z.2) ++ 42 :: (z.1.flatMap let1 ++ 10 :: qtxt Z) := by rw [e]; simp
    have r2 : F_spec_l06Read_l2 (pre ++ qtxt (z :: Z)) 2000000 (pre.length : Int) 0 = some (((pre.length + (dd 5 z.2).length : Nat) : Int), (z.2 : Int)) := by
      rw [e]
      exact l2_run _ (dd 5 z.2) pre 0 (z.2 : Int) 2000000 (val_tab ⟨z.2, by omega⟩) (by omega) (by rw [← e]; unfold maxLen; omega)
    have hlen : pre.length + (dd 5 z.2).length < (pre ++ qtxt (z :: Z)).length := by rw [e5, List.length_append, List.length_append, List.length_cons]; omega
    have hw1 : IntKind.i64.wrap (((pre.length + (dd 5 z.2).length : Nat) : Int) + 1) = (((pre ++ (dd 5 z.2 ++ [42])).length : Nat) : Int) := by
      rw [W_succ hlen (by unfold maxLen; omega)]
      simp only [List.length_append, List.length_cons, List.length_nil]
      omega
    have r3 : F_spec_l06Read_l3 (pre ++ qtxt (z :: Z)) 2000000 (((pre ++ (dd 5 z.2 ++ [42])).length : Nat) : Int) [] = some ((((pre ++ (dd 5 z.2 ++ [42])).length + (z.1.flatMap let1).length : Nat) : Int), z.1.map Int.ofNat) := by
      rw [e3]
      have := l3_run (qtxt Z) (z.1.flatMap let1) (pre ++ (dd 5 z.2 ++ [42])) [] 2000000 (fun c hc => let_at h3 hc) (by omega) (by rw [← e3]; unfold maxLen; omega) (by rw [List.length_nil]; omega)
      rw [this, List.nil_append, let_map gS (fun k => (let_tabs k).1) z.1 h3]
    have hidx : ∀ {β : Type} (k : UInt8 → Option β), idx (pre ++ qtxt (z :: Z)) ((pre.length + (dd 5 z.2).length : Nat) : Int) k = k 42 := fun k => by
      rw [e5, ← List.length_append]; exact idx_mid
    have hlen4 : (pre ++ (dd 5 z.2 ++ [42])).length + (z.1.flatMap let1).length < (pre ++ qtxt (z :: Z)).length := by
      rw [e3]
      simp only [List.length_append, List.length_cons, List.length_nil]
      omega
    have hw4 : IntKind.i64.wrap ((((pre ++ (dd 5 z.2 ++ [42])).length + (z.1.flatMap let1).length : Nat) : Int) + 1) = (((pre ++ (dd 5 z.2 ++ [42] ++ z.1.flatMap let1 ++ [10])).length : Nat) : Int) := by
      rw [W_succ hlen4 (by unfold maxLen; omega)]
      simp only [List.length_append, List.length_cons, List.length_nil]
      omega
    rw [F_spec_l06Read_l1.eq_2, dlt_t (by omega), cond_true, r2]
    simp only [Option.bind_some]
    rw [show (((pre.length + (dd 5 z.2).length : Nat) : Int) == (List.length (pre ++ qtxt (z :: Z)) : Int)) = false from beq_eq_false_iff_ne.2 (by omega), cond_false, hidx]
    rw [show ((((42 : UInt8).toNat : Nat) : Int) != 42) = false from rfl, cond_false, show ((Wt.length : Int) == 12) = false from beq_eq_false_iff_ne.2 (by omega)]
    simp only [Option.bind_some, cond_false]
    rw [hw1, r3]
    simp only [Option.bind_some]
    rw [app_ok (by simp only [List.length_cons, List.length_nil]; omega), app_ok (by simp only [List.length_cons, List.length_nil]; omega), hw4]
    have := ih (pre ++ (dd 5 z.2 ++ [42] ++ z.1.flatMap let1 ++ [10])) (Rk ++ [z.1.map Int.ofNat]) (Wt ++ [(z.2 : Int)]) f (fun y hy => hz y (List.mem_cons_of_mem _ hy)) (by omega) (by rw [List.length_append, List.length_singleton]; omega) (by rw [List.length_append, List.length_append, List.length_singleton, List.length_singleton, hR]) (by rw [← e4]; exact hl)
    rw [← e4] at this
    refine Eq.trans this ?_
    rw [List.map_cons, List.map_cons, List.append_assoc, List.append_assoc]
    rfl
theorem sp_rt {p : DProfile} (h : profOk p = true) : F_spec_ReadProfile (tx p) = some (p, true) := by
  have h' := h
  obtain ⟨n, R, T, rfl, hp, -⟩ := prof_nat h
  have hz := zip_ok hp
  have h12 := hp.r12
  have hlen := qtxt_len _ hz
  have hzl : (R.zip T).length ≤ 12 := by rw [List.length_zip]; omega
  have hq : ∀ Z : List (List Nat × Nat), Z.length ≤ (qtxt Z).length := by
    intro Z
    induction Z with
    | nil => exact Nat.le_refl _
    | cons z Z ih =>
      have e : qtxt (z :: Z) = qline z ++ 10 :: qtxt Z := by unfold qtxt; rw [List.flatMap_cons, List.append_assoc]; rfl
      rw [e, List.length_append, List.length_cons, List.length_cons]
      omega
  have e := l1_run (R.zip T) [] [] [] ((qtxt (R.zip T)).length + 1) hz (by have := hq (R.zip T); omega) (by rw [List.length_nil]; omega) rfl (by rw [List.nil_append]; omega)
  rw [List.nil_append, List.nil_append, List.nil_append] at e
  have hpz := prof_zip hp
  have hsm : smP (prof R T) := ⟨by rw [prof_len]; omega, by rw [show (prof R T).fWeights.length = T.length from List.length_map _, hp.wl]; omega, fun r hr => by
    obtain ⟨r0, h0, rfl⟩ := List.mem_map.1 hr
    have := hp.len r0 h0
    have := hp.n6
    rw [List.length_map]
    omega⟩
  unfold F_spec_ReadProfile F_spec_l06Read
  rw [tx_prof]
  rw [show F_spec_l06Read_l1 (qtxt (R.zip T)) ((qtxt (R.zip T)).length + 1) [] [] 0 = _ from e, Option.bind_some]
  simp only [sumK]
  rw [hpz, spProfile _ hsm, h', Option.bind_some, Bool.not_true, cond_false, spText h', Option.bind_some, Option.bind_some, tx_prof, bne_self_eq_false]
  rfl
/-! it always comes to an end -/
theorem l2_tot (t : Bytes) (hl : t.length ≤ maxLen) : ∀ k i f, i + k = t.length → k < f → ∀ w, ∃ (j : Nat) (v : Int), i ≤ j ∧ j ≤ t.length ∧ F_spec_l06Read_l2 t f (i : Int) w = some ((j : Int), v) := by
  refine up (P := fun i f => ∀ w, ∃ (j : Nat) (v : Int), i ≤ j ∧ j ≤ t.length ∧ F_spec_l06Read_l2 t f (i : Int) w = some ((j : Int), v)) (fun f w => ?_) (fun i f hi ih w => ?_)
  · rw [F_spec_l06Read_l2.eq_2, dlt_f (Nat.lt_irrefl _)]
    exact ⟨t.length, w, Nat.le_refl _, Nat.le_refl _, rfl⟩
  · rw [F_spec_l06Read_l2.eq_2, dlt_t hi, cond_true, W_succ hi hl]
    simp only [idx_nat hi]
    have stop : ∃ (j : Nat) (v : Int), i ≤ j ∧ j ≤ t.length ∧ (some ((i : Int), w)) = some ((j : Int), v) := ⟨i, w, Nat.le_refl _, Nat.le_of_lt hi, rfl⟩
    cases decide ((t[i].toNat : Int) ≥ 48) with
    | false => exact stop
    | true =>
      rw [cond_true]
      cases decide ((t[i].toNat : Int) ≤ 57) with
      | false => exact stop
      | true =>
        rw [cond_true, Option.bind_some]
        cases decide (w ≤ 1000) with
        | false => exact stop
        | true =>
          obtain ⟨j, v, h1, h2, h3⟩ := ih (IntKind.i64.wrap ((IntKind.i64.wrap (10 * w)) + (IntKind.i64.wrap (IntKind.u8.wrap ((t[i].toNat : Int) - 48)))))
          exact ⟨j, v, by omega, h2, h3⟩
theorem l3_tot (t : Bytes) (hl : t.length ≤ 1048576) : ∀ k i f, i + k = t.length → k < f → ∀ l : List Int, l.length ≤ i → ∃ (j : Nat) (l' : List Int), i ≤ j ∧ j ≤ t.length ∧ l'.length ≤ j ∧ F_spec_l06Read_l3 t f (i : Int) l = some ((j : Int), l') := by
  refine up (P := fun i f => ∀ l : List Int, l.length ≤ i → ∃ (j : Nat) (l' : List Int), i ≤ j ∧ j ≤ t.length ∧ l'.length ≤ j ∧ F_spec_l06Read_l3 t f (i : Int) l = some ((j : Int), l')) (fun f l h => ?_) (fun i f hi ih l h => ?_)
  · rw [F_spec_l06Read_l3.eq_2, dlt_f (Nat.lt_irrefl _)]
    exact ⟨t.length, l, Nat.le_refl _, Nat.le_refl _, h, rfl⟩
  · rw [F_spec_l06Read_l3.eq_2, dlt_t hi, cond_true, W_succ hi (by unfold maxLen; omega)]
    simp only [idx_nat hi]
    have stop : ∃ (j : Nat) (l' : List Int), i ≤ j ∧ j ≤ t.length ∧ l'.length ≤ j ∧ (some ((i : Int), l)) = some ((j : Int), l') := ⟨i, l, Nat.le_refl _, Nat.le_of_lt hi, h, rfl⟩
    cases decide ((t[i].toNat : Int) ≥ 97) with
    | false => exact stop
    | true =>
      rw [cond_true, Option.bind_some]
      cases decide ((t[i].toNat : Int) ≤ 122) with
      | false => exact stop
      | true =>
        rw [cond_true, app_ok (by simp only [List.length_cons, List.length_nil]; omega)]
        obtain ⟨j, l', h1, h2, h3, h4⟩ := ih (l ++ [(IntKind.i64.wrap (IntKind.u8.wrap ((t[i].toNat : Int) - 97)))]) (by rw [List.length_append, List.length_singleton]; omega)
        exact ⟨j, l', by omega, h2, h3, h4⟩
theorem l1_tot (t : Bytes) (hl : t.length ≤ 1048576) : ∀ (k i f : Nat), t.length ≤ i + k → k < f → ∀ (Rk : List (List Int)) (Wt : List Int), Rk.length = Wt.length → Wt.length ≤ 12 → (∀ r ∈ Rk, r.length ≤ 1048576) →
    F_spec_l06Read_l1 t f Rk Wt (i : Int) = some (Sum.inl (⟨[], []⟩, false)) ∨ ∃ Rk' Wt', F_spec_l06Read_l1 t f Rk Wt (i : Int) = some (Sum.inr (Rk', Wt')) ∧ Rk'.length = Wt'.length ∧ Wt'.length ≤ 12 ∧ ∀ r ∈ Rk', r.length ≤ 1048576 := by
  intro k
  induction k with
  | zero =>
    intro i f hi hf Rk Wt h1 h2 h3
    obtain ⟨f, rfl⟩ : ∃ g, f = g + 1 := ⟨f - 1, by omega⟩
    rw [F_spec_l06Read_l1.eq_2, dlt_f (by omega)]
    exact .inr ⟨Rk, Wt, rfl, h1, h2, h3⟩
  | succ k ih =>
    intro i f hi hf Rk Wt h1 h2 h3
    obtain ⟨f, rfl⟩ : ∃ g, f = g + 1 := ⟨f - 1, by omega⟩
    rw [F_spec_l06Read_l1.eq_2]
    by_cases hlt : i < t.length
    · rw [dlt_t hlt, cond_true]
      obtain ⟨j, v, a1, a2, a3⟩ := l2_tot t (by unfold maxLen; omega) (t.length - i) i 2000000 (by omega) (by omega) 0
      rw [a3]
      simp only [Option.bind_some]
      by_cases hj : j = t.length
      · rw [hj, show (((t.length : Nat) : Int) == (List.length t : Int)) = true from beq_self_eq_true _]
        exact .inl rfl
      · have hjl : j < t.length := by omega
        rw [show ((j : Int) == (List.length t : Int)) = false from beq_eq_false_iff_ne.2 (by omega), cond_false, idx_nat hjl]
        cases ((t[j].toNat : Int) != 42) with
        | true => exact .inl rfl
        | false =>
          rw [cond_false]
          by_cases h12 : Wt.length = 12
          · rw [h12]
            exact .inl rfl
          · rw [show ((Wt.length : Int) == 12) = false from beq_eq_false_iff_ne.2 (by omega)]
            simp only [Option.bind_some, cond_false]
            obtain ⟨m, l', b1, b2, b3, b4⟩ := l3_tot t hl (t.length - (j + 1)) (j + 1) 2000000 (by omega) (by omega) [] (Nat.zero_le _)
            rw [W_succ hjl (by unfold maxLen; omega), b4]
            simp only [Option.bind_some]
            have hw : IntKind.i64.wrap ((m : Int) + 1) = ((m + 1 : Nat) : Int) := W_succ (n := m + 1) (by omega) (by unfold maxLen; omega)
            rw [app_ok (by simp only [List.length_cons, List.length_nil]; omega), app_ok (by simp only [List.length_cons, List.length_nil]; omega), hw]
            exact ih (m + 1) f (by omega) (by omega) (Rk ++ [l']) (Wt ++ [v]) (by rw [List.length_append, List.length_append, List.length_singleton, List.length_singleton, h1]) (by rw [List.length_append, List.length_singleton]; omega) (fun r hr => by
              rcases List.mem_append.1 hr with hr | hr
              · exact h3 r hr
              · rw [List.mem_singleton.1 hr]; omega)
    · rw [dlt_f hlt]
      exact .inr ⟨Rk, Wt, rfl, h1, h2, h3⟩
theorem sp_tot (t : Bytes) (hl : t.length ≤ 1048576) : F_spec_ReadProfile t = some (⟨[], []⟩, false) ∨ ∃ p, F_spec_ReadProfile t = some (p, true) ∧ profOk p = true ∧ tx p = t := by
  unfold F_spec_ReadProfile F_spec_l06Read
  rcases l1_tot t hl t.length 0 (t.length + 1) (by omega) (by omega) [] [] rfl (Nat.zero_le _) (fun r hr => by cases hr) with h | ⟨Rk, Wt, h, h1, h2, h3⟩
  · rw [show F_spec_l06Read_l1 t (t.length + 1) [] [] 0 = _ from h]
    exact .inl rfl
  · rw [show F_spec_l06Read_l1 t (t.length + 1) [] [] 0 = _ from h, Option.bind_some]
    simp only [sumK]
    have hsm : smP ⟨Rk, Wt⟩ := ⟨by show Rk.length ≤ _; omega, by show Wt.length ≤ _; omega, h3⟩
    rw [spProfile _ hsm, Option.bind_some]
    cases q : profOk ⟨Rk, Wt⟩ with
    | false => exact .inl rfl
    | true =>
      rw [Bool.not_true, cond_false, spText q, Option.bind_some, Option.bind_some]
      by_cases he : tx ⟨Rk, Wt⟩ = t
      · rw [show (tx ⟨Rk, Wt⟩ != t) = false from by rw [he]; exact bne_self_eq_false t]
        exact .inr ⟨⟨Rk, Wt⟩, rfl, q, he⟩
      · rw [show (tx ⟨Rk, Wt⟩ != t) = true from by rw [bne_iff_ne]; exact he]
        exact .inl rfl
theorem eqReadProf (t : Bytes) (hl : t.length ≤ 1048576) : ∃ r, F_spec_ReadProfile t = some r ∧ F_impl_ReadProfile t = some r ∧ ((r.1.fRankings.length + (r.1.fRankings.map fun e : List Int => e.length).sum) + r.1.fWeights.length) ≤ 1048576 := by
  rcases sp_tot t hl with h | ⟨p, h, h1, h2⟩
  · refine ⟨_, h, ?_, by simp⟩
    rw [imReadProf]
    by_cases A : t.length ≤ 1000 ∧ profOk (pI (spl [] t).1) = true ∧ tx (pI (spl [] t).1) = t
    · obtain ⟨-, a2, a3⟩ := A
      have := sp_rt a2
      rw [a3, h] at this
      have h' := congrArg Prod.snd (Option.some.inj this)
      cases h'
    · rw [if_neg A]
  · refine ⟨_, h, ?_, ?_⟩
    · have := im_rt h1
      rw [h2] at this
      exact this
    · obtain ⟨n, R, T, rfl, hp, -⟩ := prof_nat h1
      have h12 := hp.r12
      exact prof_bound h12 (by rw [hp.wl]; exact h12) fun r hr => by
        have := hp.len r hr
        have := hp.n6
        omega
end Go.FX
