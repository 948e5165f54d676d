/- The pure part: what the functions compute, in plain Lean, with no program in sight; no condition. -/
import Derived.Test.YtcginliajfemcaaA3Pure2
namespace Go.FX
open Go Go.GL Go.RowKit
/-! sets -/
def setC (l : List Int) (n : Int) (i : Nat) : Bool := match l[i]? with
  | some x => within x 0 n && pairAt (fun a b => decide (a < b)) l i
  | none => false
theorem setC_at {l : List Int} {n : Int} {i : Nat} (hi : i < l.length) : setC l n i = (within l[i] 0 n && pairAt (fun a b => decide (a < b)) l i) := by
  unfold setC
  rw [List.getElem?_eq_getElem hi]
def setOk (l : List Int) (n : Int) : Bool := decide (∀ i, i < l.length → setC l n i = true)
theorem spRises (l : List Int) (n : Int) (hl : l.length ≤ maxLen) : F_spec_l00Rises l 0 n = some (setOk l n) := by
  unfold F_spec_l00Rises setOk
  have := all_loop (n := l.length) (F := F_spec_l00Rises_l1 l 0 n) (setC l n) (d := true) (fun f => by rw [F_spec_l00Rises_l1.eq_2, dlt_f (by omega)]; rfl) (fun i f hi => by
    rw [F_spec_l00Rises_l1.eq_2, dlt_t hi, cond_true]
    simp only [idx_nat hi, spIn, Option.bind_some, W_succ hi hl]
    rw [pair_code (R := fun a b => decide (a < b)) hi hl (fun x _ => by rw [not_ge]), setC_at hi]
    cases within l[i] 0 n <;> cases pairAt (fun a b => decide (a < b)) l i <;> rfl)
  rw [Bool.and_true] at this
  exact this
theorem imIsSet (l : List Int) (n : Int) (hl : l.length ≤ maxLen) : F_impl_isSet l n = some (setOk l (IntKind.i64.wrap (n - 1))) := by
  unfold F_impl_isSet setOk
  have := all_loop (n := l.length) (F := F_impl_isSet_l1 l n) (setC l (IntKind.i64.wrap (n - 1))) (d := true) (fun f => by rw [F_impl_isSet_l1.eq_2, dlt_f (by omega)]; rfl) (fun i f hi => by
    rw [F_impl_isSet_l1.eq_2, dlt_t hi, cond_true]
    simp only [idx_nat hi, imIn, Option.bind_some, W_succ hi hl]
    rw [pair_code (R := fun a b => decide (a < b)) hi hl (fun x _ => by rw [not_ge]), setC_at hi]
    cases within l[i] 0 (IntKind.i64.wrap (n - 1)) <;> cases pairAt (fun a b => decide (a < b)) l i <;> rfl)
  rw [Bool.and_true] at this
  exact this
theorem set_nat {l : List Int} {c : Nat} (hc : c ≤ 1000) (h : setOk l (IntKind.i64.wrap ((c : Int) - 1)) = true) : ∃ N : List Nat, l = N.map Int.ofNat ∧ ∀ x ∈ N, x < c := by
  unfold setOk at h
  rw [decide_eq_true_eq, W_id (by omega) (by omega)] at h
  have hA : ∀ x ∈ l, 0 ≤ x ∧ x < c := by
    intro x hx
    obtain ⟨i, hi, rfl⟩ := List.getElem_of_mem hx
    have := h i hi
    rw [setC_at hi, Bool.and_eq_true, within_iff] at this
    omega
  refine ⟨l.map Int.toNat, ?_, fun x hx => ?_⟩
  · rw [List.map_map]
    refine (List.map_id l).symm.trans (List.map_congr_left fun x hx => ?_)
    simp only [id, Function.comp]
    exact (Int.toNat_of_nonneg (hA x hx).1).symm
  · obtain ⟨y, hy, rfl⟩ := List.mem_map.1 hx
    have := hA y hy
    omega
section
variable {c : Nat} {N : List Nat} (hc : c ≤ 10) (hN : ∀ x ∈ N, x < c) (hl : N.length ≤ maxLen)
theorem ofN_idx {β : Type} {i : Nat} {k : Int → Option β} (h : i < N.length) : idx (N.map Int.ofNat) (i : Int) k = k (N[i] : Int) := by
  rw [idx_nat (by simpa using h)]; simp
include hc hN hl in
theorem spSet : F_spec_l08Set (N.map Int.ofNat) = some (msk 10 (fun a => N.contains a) : Int) := by
  unfold F_spec_l08Set
  rw [List.length_map]
  have key := up0 (n := N.length) (P := fun i f => F_spec_l08Set_l1 (N.map Int.ofNat) f (msk 10 (fun a => (N.take i).contains a) : Int) (i : Int) = some (msk 10 (fun a => N.contains a) : Int)) (fun f => ?_) (fun i f hi ih => ?_)
  · simp only [List.take_zero, List.contains_nil, msk_zero] at key
    exact key
  · rw [F_spec_l08Set_l1.eq_2, List.length_map, dlt_f (by omega), cond_false, List.take_length]
  · have := hN _ (List.getElem_mem hi)
    rw [F_spec_l08Set_l1.eq_2, List.length_map, dlt_t hi, cond_true, ofN_idx hi, U_nat (by omega), shc_nat, W_succ hi hl, m_one (n := 10) (by decide) (by omega), m_or (by decide), ← ih]
    congr 2
    refine msk_congr fun a _ => ?_
    rw [List.take_succ_eq_append_getElem hi, Bool.eq_iff_iff]
    simp only [Bool.or_eq_true, beq_iff_eq, List.contains_iff_mem, List.mem_append, List.mem_singleton]
include hc hN hl in
theorem imMask : F_impl_maskOf_l1 (N.map Int.ofNat) ((N.map Int.ofNat).length + 1) 0 0 = some ((msk 10 (fun a => N.contains a) : Int), true) := by
  rw [List.length_map]
  have key := up0 (n := N.length) (P := fun i f => F_impl_maskOf_l1 (N.map Int.ofNat) f (msk 10 (fun a => (N.take i).contains a) : Int) (i : Int) = some ((msk 10 (fun a => N.contains a) : Int), true)) (fun f => ?_) (fun i f hi ih => ?_)
  · simp only [List.take_zero, List.contains_nil, msk_zero] at key
    exact key
  · rw [F_impl_maskOf_l1.eq_2, List.length_map, dlt_f (by omega), cond_false, List.take_length]
  · have := hN _ (List.getElem_mem hi)
    rw [F_impl_maskOf_l1.eq_2, List.length_map, dlt_t hi, cond_true, ofN_idx hi, shc_nat, W_succ hi hl, m_one (n := 10) (by decide) (by omega), m_or (by decide), ← ih]
    congr 2
    refine msk_congr fun a _ => ?_
    rw [List.take_succ_eq_append_getElem hi, Bool.eq_iff_iff]
    simp only [Bool.or_eq_true, beq_iff_eq, List.contains_iff_mem, List.mem_append, List.mem_singleton]
end
theorem spList {p : Nat → Bool} : F_spec_l08List (msk 10 p : Int) = some (lst 10 p) := by
  unfold F_spec_l08List
  refine up (n := 10) (P := fun i f => F_spec_l08List_l1 (msk 10 p : Int) f (lst i p) (i : Int) = some (lst 10 p)) (fun f => ?_) (fun i f hi ih => ?_) 10 0 12 (by omega) (by omega)
  · rfl
  · rw [F_spec_l08List_l1.eq_2, show decide ((i : Int) < 10) = true from dlt_t hi, cond_true, spInMask hi, Option.bind_some, W_succ10 hi (by omega), ← ih, lst_succ]
    cases p i
    · rfl
    · rw [cond_true, app_ok (by have := lst_len (n := i) (p := p); simp; omega)]; rfl
theorem imSetOf {n : Nat} (hn : n ≤ 62) {p : Nat → Bool} : F_impl_setOf (msk n p : Int) = some (lst n p) := by
  unfold F_impl_setOf
  refine up (n := n) (P := fun i f => F_impl_setOf_l1 (msk n p : Int) f (lst i p) (i : Int) = some (lst n p)) (fun f => ?_) (fun i f hi ih => ?_) n 0 100 (by omega) (by omega)
  · rw [F_impl_setOf_l1.eq_2, shc_nat, m_shr hn (Nat.le_refl _), decide_eq_false (fun ⟨i, h1, h2, _⟩ => by omega), cond_false]
  · rw [F_impl_setOf_l1.eq_2, shc_nat, m_shr hn (by omega)]
    by_cases h : ∃ j, j < n ∧ i ≤ j ∧ p j = true
    · rw [decide_eq_true h, cond_true, shc_nat, m_bit hn hi, W_succ10 hi (by omega), ← ih, lst_succ]
      cases p i
      · rfl
      · rw [cond_true, app_ok (by have := lst_len (n := i) (p := p); simp; omega)]; rfl
    · rw [decide_eq_false h, cond_false, lst_more (n := i) (m := n) (by omega) (fun j h1 h2 => by
        cases hp : p j with
        | false => rfl
        | true => exact absurd ⟨j, h1, h2, hp⟩ h)]
/-! the functions -/
theorem spFits (f : DFrame) (l : List Int) (hs : smF f) (hl : l.length ≤ maxLen) : F_spec_l08Fits f l = some (frameOk f && setOk l (IntKind.i64.wrap (f.fCount - 1))) := by
  unfold F_spec_l08Fits
  rw [spFrame f hs, Option.bind_some, spRises l _ hl]
  cases frameOk f <;> rfl
theorem imMaskOf (f : DFrame) (l : List Int) (hs : smF f) (hl : l.length ≤ maxLen) : F_impl_maskOf f l = bif frameOk f && setOk l (IntKind.i64.wrap (f.fCount - 1)) then F_impl_maskOf_l1 l (l.length + 1) 0 0 else some (0, false) := by
  unfold F_impl_maskOf
  rw [imFrame f hs, Option.bind_some, imIsSet l _ hl]
  cases frameOk f <;> cases setOk l (IntKind.i64.wrap (f.fCount - 1)) <;> rfl
end Go.FX
