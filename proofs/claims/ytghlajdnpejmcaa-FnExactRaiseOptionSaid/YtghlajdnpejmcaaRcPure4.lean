/- The pure part: what the functions compute, in plain Lean, with no program in sight; no condition. -/
import Derived.Test.YtghlajdnpejmcaaRcPure3
namespace Go.FX
open Go Go.GL Go.RowKit
theorem smP_to {e : LProfile} (h : bk_LProfile e ≤ 1048576) : smP (to_LProfile e) := by
  have e1 : (to_LProfile e).fRankings = e.fRankings := List.map_id' _
  have e2 : (to_LProfile e).fWeights = e.fWeights := rfl
  unfold bk_LProfile at h
  refine ⟨by rw [e1]; omega, by rw [e2]; omega, fun l hl => ?_⟩
  rw [e1] at hl
  have := le_sum (w := fun e : List Int => e.length) hl
  omega
theorem sum_bd {α : Type} {w : α → Nat} {b : Nat} : ∀ {l : List α}, (∀ x ∈ l, w x ≤ b) → (l.map w).sum ≤ l.length * b := by
  intro l
  induction l with
  | nil => intro _; simp
  | cons x l ih =>
    intro h
    have h1 := h x (List.mem_cons_self ..)
    have h2 := ih fun y hy => h y (List.mem_cons_of_mem _ hy)
    rw [List.map_cons, List.sum_cons, List.length_cons, Nat.succ_mul]
    omega
/-! scores -/
/-! copies -/
theorem spOwn {l : List Int} (hl : l.length ≤ 1048576) : F_spec_l00Own l = some l := by
  unfold F_spec_l00Own
  rw [app_ok (by simp; omega), List.nil_append]
theorem imClone {n : Nat} {R : List (List Nat)} {T : List Nat} (h : Prof n R T) : F_impl_cloneProfile (prof R T) = some (prof R T) := by
  have h12 := h.r12; have h6 := h.n6; have hw := h.wl
  have hT : (prof R T).fWeights.length = T.length := List.length_map _
  unfold F_impl_cloneProfile
  rw [app_ok (by rw [hT]; simp; omega), prof_len]
  have := app_loop (b := 1) (n := R.length) (F := F_impl_cloneProfile_l1 (prof R T)) (m := R.length + 1) (acc := []) (fun i => [(R[i]!).map Int.ofNat]) (fun l => some (DProfile.mk l ([] ++ (prof R T).fWeights))) 0
    (fun j _ => by simp) (fun f acc => by rw [F_impl_cloneProfile_l1.eq_2, prof_len, dlt_f (by omega)]; rfl)
    (fun f acc i hi hacc => by
      have hrl := (row_at h hi).1
      rw [F_impl_cloneProfile_l1.eq_2, prof_len, dlt_t hi, cond_true, idx_prof hi, app_ok (by simp; omega), app_ok (by simp; omega), W_succ hi (by unfold maxLen; omega), List.nil_append, getElem!_pos R i hi]) (by omega) (by simp)
  rw [this, List.nil_append, List.nil_append]
  congr 1
  unfold prof
  congr 1
  rw [← List.map_eq_flatMap]
  have e := eq_tab R
  conv => rhs; rw [e]
  unfold tab
  rw [List.map_map]
  rfl
end Go.FX
