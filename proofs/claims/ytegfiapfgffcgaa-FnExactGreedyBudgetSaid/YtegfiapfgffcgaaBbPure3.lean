/- The pure part: what the functions compute, in plain Lean, with no program in sight; no condition. -/
import Derived.Test.YtegfiapfgffcgaaBbPure2
namespace Go.FX
open Go Go.GL Go.RowKit
/-! the supporters of a project -/
theorem flat_lst {n : Nat} {p : Nat → Bool} : ((List.range n).flatMap fun i => if p i then [(i : Int)] else []) = lst n p := by
  induction n with
  | zero => rfl
  | succ n ih => rw [List.range_succ, List.flatMap_append, ih, lst_succ]; by_cases h : p n = true <;> simp [h]
/-- whether person j stands for project i -/
def likes (A : List (Nat → Bool)) (i j : Nat) : Bool := match A[j]? with | some P => P i | none => false
theorem likes_at {A : List (Nat → Bool)} {i j : Nat} (h : j < A.length) : likes A i j = A[j] i := by unfold likes; rw [List.getElem?_eq_getElem h]
def sup (A : List (Nat → Bool)) (i : Nat) : List Int := lst A.length (likes A i)
def kk (A : List (Nat → Bool)) (i : Nat) : Nat := (sup A i).length
theorem kk_le {A : List (Nat → Bool)} {i : Nat} : kk A i ≤ A.length := lst_len
section
variable {m : Nat} {C : List Nat} {A : List (Nat → Bool)} (h : Elec m C A)
theorem ele_A : ((ele m C A).fApprovals).length = A.length := by simp [ele]
theorem ele_C : ((ele m C A).fCosts).length = C.length := by simp [ele]
theorem ele_at {i : Nat} (hi : i < A.length) : (ele m C A).fApprovals[i]'(by rw [ele_A]; exact hi) = lst C.length A[i] := by simp [ele]
theorem cost_at {i : Nat} (hi : i < C.length) : (ele m C A).fCosts[i]'(by rw [ele_C]; exact hi) = (C[i] : Int) := by simp [ele]
theorem idx_A {β : Type} {i : Nat} (hi : i < A.length) {k : List Int → Option β} : idx (ele m C A).fApprovals (i : Int) k = k (lst C.length A[i]) := by
  rw [idx_nat (by rw [ele_A]; exact hi), ele_at hi]
theorem idx_C {β : Type} {i : Nat} (hi : i < C.length) {k : Int → Option β} : idx (ele m C A).fCosts (i : Int) k = k (C[i] : Int) := by
  rw [idx_nat (by rw [ele_C]; exact hi), cost_at hi]
include h
theorem small_lst {P : Nat → Bool} : (lst C.length P).length ≤ maxLen := Nat.le_trans lst_len (by have := h.c6; unfold maxLen; omega)
theorem spSup {i : Nat} (hi : i < C.length) : F_spec_l05Supporters (ele m C A) (i : Int) = some (sup A i) := by
  have hc := h.c6; have ha := h.a6
  unfold F_spec_l05Supporters sup
  rw [ele_A, ← flat_lst]
  have := app_loop (b := 1) (n := A.length) (F := F_spec_l05Supporters_l1 (ele m C A) (i : Int)) (m := A.length + 1) (acc := []) (fun j => if likes A i j then [(j : Int)] else []) some 0
    (fun j _ => by by_cases q : likes A i j = true <;> simp [q]) (fun f acc => by rw [F_spec_l05Supporters_l1.eq_2, ele_A, dlt_f (by omega)]; rfl)
    (fun f acc j hj hacc => by
      rw [F_spec_l05Supporters_l1.eq_2, ele_A, dlt_t hj, cond_true, idx_A hj, spHas _ _ (small_lst h), Option.bind_some, lst_contains, decide_eq_true hi, Bool.true_and, W_succ (n := A.length) hj (by unfold maxLen; omega), ← likes_at hj]
      by_cases q : likes A i j = true
      · rw [q, cond_true, app_ok (by simp; omega)]; rfl
      · rw [Bool.eq_false_iff.2 q, cond_false]; simp) (by omega) (by simp)
  exact this
theorem imSup {i : Nat} (hi : i < C.length) : F_impl_Election_supporters (ele m C A) (i : Int) = some (sup A i) := by
  have hc := h.c6; have ha := h.a6
  unfold F_impl_Election_supporters sup
  rw [ele_A, ← flat_lst]
  have := app_loop (b := 1) (n := A.length) (F := F_impl_Election_supporters_l1 (ele m C A) (i : Int)) (m := A.length + 1) (acc := []) (fun j => if likes A i j then [(j : Int)] else []) some 0
    (fun j _ => by by_cases q : likes A i j = true <;> simp [q]) (fun f acc => by rw [F_impl_Election_supporters_l1.eq_2, ele_A, dlt_f (by omega)]; rfl)
    (fun f acc j hj hacc => by
      rw [F_impl_Election_supporters_l1.eq_2, ele_A, dlt_t hj, cond_true, idx_A hj, imContains _ _ (small_lst h), Option.bind_some, lst_contains, decide_eq_true hi, Bool.true_and, W_succ (n := A.length) hj (by unfold maxLen; omega), ← likes_at hj]
      by_cases q : likes A i j = true
      · rw [q, cond_true, app_ok (by simp; omega)]; rfl
      · rw [Bool.eq_false_iff.2 q, cond_false]; simp) (by omega) (by simp)
  exact this
end
/-! the stable sort by the number of supporters -/
section
variable (k : Nat → Nat)
def bk (L : List Nat) : Nat → List Nat
  | 0 => L.filter fun x => k x == 0
  | v + 1 => L.filter (fun x => k x == v + 1) ++ bk L v
theorem bk_mem {L : List Nat} {v x : Nat} : x ∈ bk k L v ↔ x ∈ L ∧ k x ≤ v := by
  induction v with
  | zero => simp [bk]
  | succ v ih =>
    simp only [bk, List.mem_append, List.mem_filter, ih, beq_iff_eq]
    constructor
    · rintro (⟨h1, h2⟩ | ⟨h1, h2⟩) <;> exact ⟨h1, by omega⟩
    · rintro ⟨h1, h2⟩
      by_cases e : k x = v + 1
      · exact .inl ⟨h1, e⟩
      · exact .inr ⟨h1, by omega⟩
theorem bk_sorted {L : List Nat} {v : Nat} : (bk k L v).Pairwise fun a b => k b ≤ k a := by
  induction v with
  | zero =>
    refine List.Pairwise.filter _ ?_ |>.imp_of_mem (R := fun _ _ => True) (fun ha hb _ => ?_)
    · exact List.pairwise_of_forall_mem_list (fun _ _ _ _ => trivial)
    · have := (List.mem_filter.1 hb).2
      have : k _ = 0 := beq_iff_eq.1 this
      omega
  | succ v ih =>
    refine List.pairwise_append.2 ⟨?_, ih, ?_⟩
    · refine List.pairwise_of_forall_mem_list (fun a ha b hb => ?_)
      have h1 : k a = v + 1 := beq_iff_eq.1 (List.mem_filter.1 ha).2
      have h2 : k b = v + 1 := beq_iff_eq.1 (List.mem_filter.1 hb).2
      omega
    · intro a ha b hb
      have h1 : k a = v + 1 := beq_iff_eq.1 (List.mem_filter.1 ha).2
      have h2 := ((bk_mem k).1 hb).2
      omega
/-- x is laid behind all that stand no lower -/
def insp (p : List Nat) (x : Nat) : List Nat := p.filter (fun y => decide (k x ≤ k y)) ++ x :: p.filter (fun y => decide (k y < k x))
theorem bk_insp {L : List Nat} {x : Nat} : ∀ {v : Nat}, k x ≤ v → insp k (bk k L v) x = bk k (L ++ [x]) v := by
  intro v
  induction v with
  | zero =>
    intro hx
    have h0 : k x = 0 := by omega
    unfold insp bk
    rw [List.filter_append, List.filter_filter, List.filter_filter, h0]
    simp [h0]
  | succ v ih =>
    intro hx
    by_cases e : k x = v + 1
    · have low : ∀ y ∈ bk k L v, k y ≤ v := fun y hy => ((bk_mem k).1 hy).2
      have last : bk k (L ++ [x]) v = bk k L v := by
        have : ∀ u, u ≤ v → bk k (L ++ [x]) u = bk k L u := by
          intro u
          induction u with
          | zero => intro _; unfold bk; rw [List.filter_append]; simp [e]
          | succ u ih => intro hu; unfold bk; rw [ih (by omega), List.filter_append]; have : ¬ k x = u + 1 := by omega
                         simp [this]
        exact this v (Nat.le_refl v)
      have f1 : (bk k L (v + 1)).filter (fun y => decide (k x ≤ k y)) = L.filter (fun y => k y == v + 1) := by
        have a1 : (L.filter fun y => k y == v + 1).filter (fun y => decide (k x ≤ k y)) = L.filter fun y => k y == v + 1 :=
          List.filter_eq_self.2 fun y hy => by have : k y = v + 1 := beq_iff_eq.1 (List.mem_filter.1 hy).2
                                               simp; omega
        have a2 : (bk k L v).filter (fun y => decide (k x ≤ k y)) = [] := List.filter_eq_nil_iff.2 fun y hy => by have := low y hy; simp; omega
        rw [bk, List.filter_append, a1, a2, List.append_nil]
      have f2 : (bk k L (v + 1)).filter (fun y => decide (k y < k x)) = bk k L v := by
        have a1 : (L.filter fun y => k y == v + 1).filter (fun y => decide (k y < k x)) = [] :=
          List.filter_eq_nil_iff.2 fun y hy => by have : k y = v + 1 := beq_iff_eq.1 (List.mem_filter.1 hy).2
                                                  simp; omega
        have a2 : (bk k L v).filter (fun y => decide (k y < k x)) = bk k L v := List.filter_eq_self.2 fun y hy => by have := low y hy; simp; omega
        rw [bk, List.filter_append, a1, a2, List.nil_append]
      unfold insp
      rw [f1, f2, bk, last, List.filter_append]
      simp [e]
    · have hv : k x ≤ v := by omega
      have f1 : (L.filter fun y => k y == v + 1).filter (fun y => decide (k x ≤ k y)) = L.filter fun y => k y == v + 1 :=
        List.filter_eq_self.2 fun y hy => by have : k y = v + 1 := beq_iff_eq.1 (List.mem_filter.1 hy).2
                                             simp; omega
      have f2 : (L.filter fun y => k y == v + 1).filter (fun y => decide (k y < k x)) = [] :=
        List.filter_eq_nil_iff.2 fun y hy => by have : k y = v + 1 := beq_iff_eq.1 (List.mem_filter.1 hy).2
                                                simp; omega
      unfold insp
      rw [bk, List.filter_append, List.filter_append, f1, f2, List.nil_append, List.append_assoc, bk, List.filter_append]
      have := ih hv
      unfold insp at this
      rw [this]
      simp [e]
end
end Go.FX
