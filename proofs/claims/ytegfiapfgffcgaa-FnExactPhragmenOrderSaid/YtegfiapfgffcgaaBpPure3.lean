/- The pure part: what the functions compute, in plain Lean, with no program in sight; no condition. -/
import Derived.Test.YtegfiapfgffcgaaBpPure2
namespace Go.FX
open Go Go.GL Go.RowKit
/-! the supporters of a project -/
theorem flat_lst {n : Nat} {p : Nat → Bool} : ((List.range n).flatMap fun i => if p i then [(i : Int)] else []) = lst n p := by
  induction n with
  | zero => rfl
  | succ n ih => rw [List.range_succ, List.flatMap_append, ih, lst_succ]; by_cases h : p n = true <;> simp [h]
/-- whether person j stands for project i -/
def likes (A : List (Nat → Bool)) (i j : Nat) : Bool := match A[j]? with | some P => P i | none => false
theorem likes_at {A : List (Nat → Bool)} {i j : Nat} (h : j < A.length) : likes A i j = A[j] i := by unfold likes; rw [List.getElem?_eq_getElem h]
def sup (A : List (Nat → Bool)) (i : Nat) : List Int := lst A.length (likes A i)
def kk (A : List (Nat → Bool)) (i : Nat) : Nat := (sup A i).length
theorem kk_le {A : List (Nat → Bool)} {i : Nat} : kk A i ≤ A.length := lst_len
section
variable {m : Nat} {C : List Nat} {A : List (Nat → Bool)} (h : Elec m C A)
theorem ele_A : ((ele m C A).fApprovals).length = A.length := by simp [ele]
theorem ele_C : ((ele m C A).fCosts).length = C.length := by simp [ele]
theorem ele_at {i : Nat} (hi : i < A.length) : (ele m C A).fApprovals[i]'(by rw [ele_A]; exact hi) = lst C.length A[i] := by simp [ele]
theorem cost_at {i : Nat} (hi : i < C.length) : (ele m C A).fCosts[i]'(by rw [ele_C]; exact hi) = (C[i] : Int) := by simp [ele]
theorem idx_A {β : Type} {i : Nat} (hi : i < A.length) {k : List Int → Option β} : idx (ele m C A).fApprovals (i : Int) k = k (lst C.length A[i]) := by
  rw [idx_nat (by rw [ele_A]; exact hi), ele_at hi]
theorem idx_C {β : Type} {i : Nat} (hi : i < C.length) {k : Int → Option β} : idx (ele m C A).fCosts (i : Int) k = k (C[i] : Int) := by
  rw [idx_nat (by rw [ele_C]; exact hi), cost_at hi]
include h
theorem small_lst {P : Nat → Bool} : (lst C.length P).length ≤ maxLen := Nat.le_trans lst_len (by have := h.c6; unfold maxLen; omega)
theorem spSup {i : Nat} (hi : i < C.length) : F_spec_l05Supporters (ele m C A) (i : Int) = some (sup A i) := by
  have hc := h.c6; have ha := h.a6
  unfold F_spec_l05Supporters sup
  rw [ele_A, ← flat_lst]
  have := app_loop (b := 1) (n := A.length) (F := F_spec_l05Supporters_l1 (ele m C A) (i : Int)) (m := A.length + 1) (acc := []) (fun j => if likes A i j then [(j : Int)] else []) some 0
    (fun j _ => by by_cases q : likes A i j = true <;> simp [q]) (fun f acc => by rw [F_spec_l05Supporters_l1.eq_2, ele_A, dlt_f (by omega)]; rfl)
    (fun f acc j hj hacc => by
      rw [F_spec_l05Supporters_l1.eq_2, ele_A, dlt_t hj, cond_true, idx_A hj, spHas _ _ (small_lst h), Option.bind_some, lst_contains, decide_eq_true hi, Bool.true_and, W_succ (n := A.length) hj (by unfold maxLen; omega), ← likes_at hj]
      by_cases q : likes A i j = true
      · rw [q, cond_true, app_ok (by simp; omega)]; rfl
      · rw [Bool.eq_false_iff.2 q, cond_false]; simp) (by omega) (by simp)
  exact this
theorem imSup {i : Nat} (hi : i < C.length) : F_impl_Election_supporters (ele m C A) (i : Int) = some (sup A i) := by
  have hc := h.c6; have ha := h.a6
  unfold F_impl_Election_supporters sup
  rw [ele_A, ← flat_lst]
  have := app_loop (b := 1) (n := A.length) (F := F_impl_Election_supporters_l1 (ele m C A) (i : Int)) (m := A.length + 1) (acc := []) (fun j => if likes A i j then [(j : Int)] else []) some 0
    (fun j _ => by by_cases q : likes A i j = true <;> simp [q]) (fun f acc => by rw [F_impl_Election_supporters_l1.eq_2, ele_A, dlt_f (by omega)]; rfl)
    (fun f acc j hj hacc => by
      rw [F_impl_Election_supporters_l1.eq_2, ele_A, dlt_t hj, cond_true, idx_A hj, imContains _ _ (small_lst h), Option.bind_some, lst_contains, decide_eq_true hi, Bool.true_and, W_succ (n := A.length) hj (by unfold maxLen; omega), ← likes_at hj]
      by_cases q : likes A i j = true
      · rw [q, cond_true, app_ok (by simp; omega)]; rfl
      · rw [Bool.eq_false_iff.2 q, cond_false]; simp) (by omega) (by simp)
  exact this
end
/-! the stable sort by the number of supporters -/
end Go.FX
