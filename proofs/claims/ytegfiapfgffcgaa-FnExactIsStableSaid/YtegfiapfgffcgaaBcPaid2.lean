/- The pure part: what the functions compute, in plain Lean, with no program in sight; no condition. -/
import Derived.Test.YtegfiapfgffcgaaBcPaid1
namespace Go.FX
open Go Go.GL Go.RowKit
/-! payments -/
section
variable (C : List Nat) (A : List (Nat → Bool))
def cell (r : List DFraction) (p i : Nat) : Bool := match r[i]? with
  | some f => !decide (f.fNum < 0) && !(decide (f.fNum > 0) && !likes A p i)
  | none => false
def sumOk (r : List DFraction) (p : Nat) : Bool := match sumF zF r with
  | some s => decide (s = ⟨(C[p]! : Int), 1⟩)
  | none => false
def rowC (os : List Nat) (P : List (List DFraction)) (k : Nat) : Bool := match P[k]?, os[k]? with
  | some r, some p => decide (r.length = A.length) && (r.all vF && (List.range A.length).all (cell A r p)) && sumOk C r p
  | _, _ => false
end
section
variable {m : Nat} {C : List Nat} {A : List (Nat → Bool)} (h : Elec m C A)
theorem rowC_at {os : List Nat} {P : List (List DFraction)} {k : Nat} (h1 : k < P.length) (h2 : k < os.length) : rowC C A os P k = (decide (P[k].length = A.length) && (P[k].all vF && (List.range A.length).all (cell A P[k] os[k])) && sumOk C P[k] os[k]) := by
  unfold rowC
  rw [List.getElem?_eq_getElem h1, List.getElem?_eq_getElem h2]
theorem idx_os {β : Type} {os : List Nat} {k : Nat} (h2 : k < os.length) (K : Int → Option β) : idx (os.map Int.ofNat) (k : Int) K = K (os[k] : Int) := by
  rw [idx_nat (by rw [List.length_map]; exact h2), List.getElem_map]; rfl
theorem sum_cmp {s : DFraction} (hs : VF s) {c : Nat} : decide (cmpF s ⟨(c : Int), 1⟩ = 0) = decide (s = ⟨(c : Int), 1⟩) := by
  rw [decide_eq_decide]
  unfold cmpF icmp
  simp only [Int.mul_one]
  constructor
  · intro e
    have e2 : s.fNum = (c : Int) * s.fDen := by
      by_cases q1 : s.fNum < (c : Int) * s.fDen
      · rw [if_pos q1] at e; cases e
      · rw [if_neg q1] at e
        by_cases q2 : (c : Int) * s.fDen < s.fNum
        · rw [if_pos q2] at e; cases e
        · omega
    exact cop_inj hs.2 (by simp) hs.1.2.2.1 (by simp) (by simp only [Int.mul_one]; exact e2)
  · rintro rfl
    simp
include h
theorem sp_has {p i : Nat} (hp : p < C.length) (hi : i < A.length) : F_spec_l00Has (lst C.length A[i]) (p : Int) = some (likes A p i) := by
  rw [spHas _ _ (small_lst h), lst_contains, decide_eq_true hp, Bool.true_and, likes_at hi]
theorem im_has {p i : Nat} (hp : p < C.length) (hi : i < A.length) : F_slices_Contains_int64_int64 (lst C.length A[i]) (p : Int) = some (likes A p i) := by
  rw [imContains _ _ (small_lst h), lst_contains, decide_eq_true hp, Bool.true_and, likes_at hi]
theorem spPaid2 {os : List Nat} {P : List (List DFraction)} {k : Nat} (h1 : k < P.length) (h2 : k < os.length) (ho : os[k] < C.length) (hn : P[k].length = A.length) :
    F_spec_l05Paid_l2 P (k : Int) (ele m C A) (os.map Int.ofNat) 1000 0 = bif (P[k].all vF && (List.range A.length).all (cell A P[k] os[k])) then some (Sum.inr ()) else some (Sum.inl ([], false)) := by
  have ha := h.a6
  have := all_loopG (n := A.length) (F := F_spec_l05Paid_l2 P (k : Int) (ele m C A) (os.map Int.ofNat)) (fun i => (match P[k][i]? with | some f => vF f | none => false) && cell A P[k] os[k] i) (good := some (Sum.inr ())) (bad := some (Sum.inl ([], false))) (fun f => by
    rw [F_spec_l05Paid_l2.eq_2, idx_nat h1, hn, dlt_f (by omega)]; rfl) (fun i f hi => by
    have hi' : i < P[k].length := by omega
    rw [F_spec_l05Paid_l2.eq_2, idx_nat h1, hn, dlt_t hi, cond_true, idx_nat h1, idx_nat hi', spOkF, Option.bind_some, idx_A hi, idx_os h2, sp_has h ho hi, Option.bind_some, W_succ (n := A.length) hi (by unfold maxLen; omega)]
    unfold cell
    rw [List.getElem?_eq_getElem hi']
    simp only []
    cases vF P[k][i] <;> cases decide (P[k][i].fNum < 0) <;> cases decide (P[k][i].fNum > 0) <;> cases likes A os[k] i <;> rfl) (m := 1000) (by omega)
  rw [this]
  congr 1
  rw [Bool.eq_iff_iff, Bool.and_eq_true, List.all_eq_true, List.all_eq_true, List.all_eq_true]
  constructor
  · intro q
    refine ⟨fun f hf => ?_, fun i hi => ?_⟩
    · obtain ⟨i, hi, rfl⟩ := List.getElem_of_mem hf
      have := q i (List.mem_range.2 (by omega))
      rw [List.getElem?_eq_getElem hi, Bool.and_eq_true] at this
      exact this.1
    · have := q i hi
      rw [Bool.and_eq_true] at this
      exact this.2
  · rintro ⟨q1, q2⟩ i hi
    have hi' : i < P[k].length := by rw [hn]; exact List.mem_range.1 hi
    rw [List.getElem?_eq_getElem hi', Bool.and_eq_true]
    exact ⟨q1 _ (List.getElem_mem hi'), q2 i hi⟩
theorem imPaid2 {os : List Nat} {r : List DFraction} {k : Nat} (h2 : k < os.length) (ho : os[k] < C.length) (hn : r.length = A.length) :
    F_impl_IsPaid_l2 r (ele m C A) (os.map Int.ofNat) (k : Int) (r.length + 1) 0 = bif (List.range A.length).all (cell A r os[k]) then some (Sum.inr ()) else some (Sum.inl false) := by
  have ha := h.a6
  rw [hn]
  refine all_loopG (n := A.length) (F := F_impl_IsPaid_l2 r (ele m C A) (os.map Int.ofNat) (k : Int)) (cell A r os[k]) (good := some (Sum.inr ())) (bad := some (Sum.inl false)) (fun f => by
    rw [F_impl_IsPaid_l2.eq_2, hn, dlt_f (by omega)]; rfl) (fun i f hi => ?_) (by omega)
  have hi' : i < r.length := by omega
  rw [F_impl_IsPaid_l2.eq_2, hn, dlt_t hi, cond_true, idx_nat hi', idx_A hi, idx_os h2, im_has h ho hi, Option.bind_some, W_succ (n := A.length) hi (by unfold maxLen; omega)]
  unfold cell
  rw [List.getElem?_eq_getElem hi']
  simp only []
  cases decide (r[i].fNum < 0) <;> cases decide (r[i].fNum > 0) <;> cases likes A os[k] i <;> rfl
theorem spPaid1 {os : List Nat} {P : List (List DFraction)} (ho : ∀ p ∈ os, p < C.length) (hn : os.length ≤ 6) (hP : P.length = os.length) :
    F_spec_l05Paid_l1 P (ele m C A) (os.map Int.ofNat) (P.length + 1) 0 = bif (List.range P.length).all (rowC C A os P) then some (Sum.inr ()) else some (Sum.inl ([], false)) := by
  refine all_loopG (n := P.length) (F := F_spec_l05Paid_l1 P (ele m C A) (os.map Int.ofNat)) (rowC C A os P) (fun f => by
    rw [F_spec_l05Paid_l1.eq_2, dlt_f (by omega)]; rfl) (fun k f hk => ?_) (by omega)
  have hk2 : k < os.length := by omega
  have hok := ho _ (List.getElem_mem hk2)
  rw [F_spec_l05Paid_l1.eq_2, dlt_t hk, cond_true, idx_nat hk, ele_A, W_succ hk (by unfold maxLen; omega), rowC_at hk hk2]
  by_cases hl : P[k].length = A.length
  · rw [hl, bne_self_eq_false, cond_false, spPaid2 h hk hk2 hok hl, decide_eq_true rfl, Bool.true_and]
    cases q1 : P[k].all vF && (List.range A.length).all (cell A P[k] os[k])
    · rfl
    · have hv : ∀ f ∈ P[k], VF f := fun f hf => vF_iff.1 (List.all_eq_true.1 (Bool.and_eq_true_iff.1 q1).1 f hf)
      have hc := h.cost C[os[k]] (List.getElem_mem hok)
      have ha := h.a6
      rw [cond_true, Option.bind_some]
      simp only [sumK]
      rw [idx_nat hk, spSum hv (by omega), Option.bind_some]
      unfold sumOk
      cases q2 : sumF zF P[k] with
      | none => rfl
      | some s =>
        have hs := sumF_valid q2 zF_valid hv
        have e : DFraction.mk s.fNum s.fDen = s := rfl
        simp only [outS, Bool.not_true, cond_false]
        rw [idx_os hk2, idx_C hok]
        simp only [F_spec_l05Whole, Option.bind_some]
        rw [e, spCmp hs.1 ⟨by simp only; omega, by simp only; omega, by simp only; omega, by simp only; omega⟩, Option.bind_some, bne, beq_dec, sum_cmp hs, getElem!_pos C os[k] hok]
        cases decide (s = ⟨(C[os[k]] : Int), 1⟩) <;> rfl
  · rw [decide_eq_false hl, bne_t (by omega)]
    rfl
theorem imPaid1 {os : List Nat} {P : List (List DFraction)} (ho : ∀ p ∈ os, p < C.length) (hn : os.length ≤ 6) (hP : P.length = os.length) :
    F_impl_IsPaid_l1 P (ele m C A) (os.map Int.ofNat) (P.length + 1) 0 = bif (List.range P.length).all (rowC C A os P) then some (Sum.inr ()) else some (Sum.inl false) := by
  refine all_loopG (n := P.length) (F := F_impl_IsPaid_l1 P (ele m C A) (os.map Int.ofNat)) (rowC C A os P) (fun f => by
    rw [F_impl_IsPaid_l1.eq_2, dlt_f (by omega)]; rfl) (fun k f hk => ?_) (by omega)
  have hk2 : k < os.length := by omega
  have hok := ho _ (List.getElem_mem hk2)
  have ha := h.a6
  rw [F_impl_IsPaid_l1.eq_2, dlt_t hk, cond_true, idx_nat hk, ele_A, W_succ hk (by unfold maxLen; omega), rowC_at hk hk2]
  by_cases hl : P[k].length = A.length
  · rw [hl, bne_self_eq_false, cond_false, imAre (by omega), decide_eq_true rfl, Bool.true_and, Option.bind_some, Option.bind_some]
    cases q0 : P[k].all vF
    · rfl
    · have hv : ∀ f ∈ P[k], VF f := fun f hf => vF_iff.1 (List.all_eq_true.1 q0 f hf)
      have hc := h.cost C[os[k]] (List.getElem_mem hok)
      have hp2 := imPaid2 h (r := P[k]) hk2 hok hl
      rw [hl] at hp2
      rw [Bool.not_true, cond_false, hp2, Bool.true_and]
      cases q1 : (List.range A.length).all (cell A P[k] os[k])
      · rfl
      · rw [cond_true, Option.bind_some]
        simp only [sumK]
        rw [imSum hv (by omega), Option.bind_some]
        unfold sumOk
        cases q2 : sumF zF P[k] with
        | none => rfl
        | some s =>
          have e : DFraction.mk s.fNum s.fDen = s := rfl
          simp only [outS, Bool.not_true, cond_false]
          rw [idx_os hk2, idx_C hok]
          simp only [F_impl_whole, Option.bind_some]
          rw [e, bne, beq_dec, getElem!_pos C os[k] hok]
          cases decide (s = ⟨(C[os[k]] : Int), 1⟩) <;> rfl
  · rw [decide_eq_false hl, bne_t (by omega)]
    rfl
end
end Go.FX
