/- The pure part: what the functions compute, in plain Lean, with no program in sight; no condition. -/
import Derived.Test.YtghlajdnpejmcaaRaPure3
namespace Go.FX
open Go Go.GL Go.RowKit
theorem smP_to {e : LProfile} (h : bk_LProfile e ≤ 1048576) : smP (to_LProfile e) := by
  have e1 : (to_LProfile e).fRankings = e.fRankings := List.map_id' _
  have e2 : (to_LProfile e).fWeights = e.fWeights := rfl
  unfold bk_LProfile at h
  refine ⟨by rw [e1]; omega, by rw [e2]; omega, fun l hl => ?_⟩
  rw [e1] at hl
  have := le_sum (w := fun e : List Int => e.length) hl
  omega
theorem sum_bd {α : Type} {w : α → Nat} {b : Nat} : ∀ {l : List α}, (∀ x ∈ l, w x ≤ b) → (l.map w).sum ≤ l.length * b := by
  intro l
  induction l with
  | nil => intro _; simp
  | cons x l ih =>
    intro h
    have h1 := h x (List.mem_cons_self ..)
    have h2 := ih fun y hy => h y (List.mem_cons_of_mem _ hy)
    rw [List.map_cons, List.sum_cons, List.length_cons, Nat.succ_mul]
    omega
theorem eqVProfile (p : DProfile) (h : smP p) : ∃ r, F_spec_ValidProfile p = some r ∧ F_impl_ValidProfile p = some r := by
  refine ⟨profOk p, ?_, imProfile p h⟩
  unfold F_spec_ValidProfile
  rw [spProfile p h]; rfl
theorem mat_bound {n : Nat} (hn : n ≤ 6) {M : Nat → Nat → Int} : (mat n M).length + ((mat n M).map fun e : List Int => e.length).sum ≤ 1048576 := by
  have h1 : (mat n M).length = n := mat_len
  have := sum_bd (w := fun e : List Int => e.length) (b := n) (l := mat n M) fun x hx => by
    obtain ⟨i, -, rfl⟩ := List.mem_map.1 hx
    exact Nat.le_of_eq tab_len
  rw [h1] at this ⊢
  have h2 : n * n ≤ 6 * 6 := Nat.mul_le_mul hn hn
  omega
theorem eqCount (p : DProfile) (h : smP p) : ∃ r, F_spec_CountPairs p = some r ∧ F_impl_CountPairs p = some r ∧ (r.1.length + (r.1.map (fun e : List Int => e.length)).sum) ≤ 1048576 := by
  unfold F_spec_CountPairs F_impl_CountPairs
  rw [spProfile p h, imProfile p h]
  simp only [Option.bind_some]
  cases q : profOk p
  · exact ⟨_, rfl, rfl, by simp⟩
  · obtain ⟨n, R, T, rfl, hp, -⟩ := prof_nat q
    rw [spPairs hp, imPairs hp]
    exact ⟨_, rfl, rfl, mat_bound hp.n6⟩
/-! scores -/
def rsum (n : Nat) (g : Nat → Int) : Int := (List.range n).foldl (fun s i => IntKind.i64.wrap (s + g i)) 0
theorem sum_tab {n : Nat} {g : Nat → Int} {F : Nat → Int → Int → Option Int}
    (hE : ∀ f s, F (f + 1) s (n : Int) = some s) (hF : ∀ f s i, i < n → F (f + 1) s (i : Int) = F f (IntKind.i64.wrap (s + g i)) ((i + 1 : Nat) : Int)) : F (n + 1) 0 0 = some (rsum n g) :=
  fold_range (F := F) (fun s i => IntKind.i64.wrap (s + g i)) some (fun _ _ => True) (fun f s _ => hE f s) (fun f s i hi _ => hF f s i hi) (fun _ _ _ _ => trivial) (by omega) trivial
theorem eqBorda (p : DProfile) (h : smP p) : ∃ r, F_spec_BordaScores p = some r ∧ F_impl_BordaScores p = some r ∧ r.1.length ≤ 1048576 := by
  unfold F_spec_BordaScores F_impl_BordaScores
  rw [spProfile p h, imProfile p h]
  simp only [Option.bind_some]
  cases q : profOk p
  · exact ⟨_, rfl, rfl, by simp⟩
  · obtain ⟨n, R, T, rfl, hp, -⟩ := prof_nat q
    have h6 := hp.n6
    simp only [Bool.not_true, cond_false]
    rw [spPairs hp, imPairs hp, Option.bind_some, Option.bind_some, mat_len]
    have h1 := app_loop (b := 1) (n := n) (F := F_spec_BordaScores_l1 (mat n (pairM R T))) (m := n + 1) (acc := []) (fun i => [rsum n (pairM R T i)]) (fun l => some (l, true)) 0
      (fun j _ => by simp) (fun f acc => by rw [F_spec_BordaScores_l1.eq_2, mat_len, dlt_f (by omega)]; rfl)
      (fun f acc i hi hacc => by
        rw [F_spec_BordaScores_l1.eq_2, mat_len, dlt_t hi, cond_true]
        have := fold_range (n := n) (F := fun f s k => F_spec_BordaScores_l2 (mat n (pairM R T)) (i : Int) acc f s k) (fun s k => IntKind.i64.wrap (s + pairM R T i k)) (fun s => app acc [s] fun _ => some (acc ++ [s])) (fun _ _ => True)
          (fun f s _ => by show F_spec_BordaScores_l2 _ _ _ _ _ _ = _; rw [F_spec_BordaScores_l2.eq_2, mat_len, dlt_f (by omega)]; rfl)
          (fun f s k hk _ => by show F_spec_BordaScores_l2 _ _ _ _ _ _ = F_spec_BordaScores_l2 _ _ _ _ _ _; rw [F_spec_BordaScores_l2.eq_2, mat_len, dlt_t hk, cond_true, idx_mat hi, idx_tab hk, W_succ hk (by unfold maxLen; omega)]) (fun _ _ _ _ => trivial) (m := n + 1) (s := 0) (by omega) trivial
        have this2 : F_spec_BordaScores_l2 (mat n (pairM R T)) (i : Int) acc (n + 1) 0 0 = _ := this
        rw [this2, app_ok (by simp; omega), Option.bind_some, W_succ hi (by unfold maxLen; omega)]
        rfl) (by omega) (by simp)
    have h2 := app_loop (b := 1) (n := n) (F := F_impl_BordaScores_l1 (mat n (pairM R T))) (m := n + 1) (acc := []) (fun i => [rsum n (pairM R T i)]) (fun l => some (l, true)) 0
      (fun j _ => by simp) (fun f acc => by rw [F_impl_BordaScores_l1.eq_2, mat_len, dlt_f (by omega)]; rfl)
      (fun f acc i hi hacc => by
        have ht : F_impl_total (tab n (pairM R T i)) = some (rsum n (pairM R T i)) := by
          unfold F_impl_total
          rw [tab_len]
          exact sum_tab (F := F_impl_total_l1 (tab n (pairM R T i))) (fun f s => by rw [F_impl_total_l1.eq_2, tab_len, dlt_f (by omega)]; rfl) (fun f s k hk => by rw [F_impl_total_l1.eq_2, tab_len, dlt_t hk, cond_true, idx_tab hk, W_succ hk (by unfold maxLen; omega)])
        rw [F_impl_BordaScores_l1.eq_2, mat_len, dlt_t hi, cond_true, idx_mat hi, ht, Option.bind_some, app_ok (by simp; omega), W_succ hi (by unfold maxLen; omega)]) (by omega) (by simp)
    rw [h1, h2]
    refine ⟨_, rfl, rfl, ?_⟩
    rw [List.nil_append, ← List.map_eq_flatMap, List.length_map, List.length_range]
    omega
/-! copies -/
theorem spOwn {l : List Int} (hl : l.length ≤ 1048576) : F_spec_l00Own l = some l := by
  unfold F_spec_l00Own
  rw [app_ok (by simp; omega), List.nil_append]
theorem imClone {n : Nat} {R : List (List Nat)} {T : List Nat} (h : Prof n R T) : F_impl_cloneProfile (prof R T) = some (prof R T) := by
  have h12 := h.r12; have h6 := h.n6; have hw := h.wl
  have hT : (prof R T).fWeights.length = T.length := List.length_map _
  unfold F_impl_cloneProfile
  rw [app_ok (by rw [hT]; simp; omega), prof_len]
  have := app_loop (b := 1) (n := R.length) (F := F_impl_cloneProfile_l1 (prof R T)) (m := R.length + 1) (acc := []) (fun i => [(R[i]!).map Int.ofNat]) (fun l => some (DProfile.mk l ([] ++ (prof R T).fWeights))) 0
    (fun j _ => by simp) (fun f acc => by rw [F_impl_cloneProfile_l1.eq_2, prof_len, dlt_f (by omega)]; rfl)
    (fun f acc i hi hacc => by
      have hrl := (row_at h hi).1
      rw [F_impl_cloneProfile_l1.eq_2, prof_len, dlt_t hi, cond_true, idx_prof hi, app_ok (by simp; omega), app_ok (by simp; omega), W_succ hi (by unfold maxLen; omega), List.nil_append, getElem!_pos R i hi]) (by omega) (by simp)
  rw [this, List.nil_append, List.nil_append]
  congr 1
  unfold prof
  congr 1
  rw [← List.map_eq_flatMap]
  have e := eq_tab R
  conv => rhs; rw [e]
  unfold tab
  rw [List.map_map]
  rfl
theorem imReverse {l : List Int} (hl : l.length ≤ 6) : F_slices_Reverse_int64_int64 l = some l.reverse := by
  match l, hl with
  | [], _ => rfl
  | [a], _ => rfl
  | [a, b], _ => rfl
  | [a, b, c], _ => rfl
  | [a, b, c, d], _ => rfl
  | [a, b, c, d, e], _ => rfl
  | [a, b, c, d, e, f], _ => rfl
end Go.FX
