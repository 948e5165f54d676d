/- The pure part: what the functions compute, in plain Lean, with no program in sight; no condition. -/
import Derived.Test.YtegfiapfgffcgaaBcBuy2
namespace Go.FX
open Go Go.GL Go.RowKit
/-! orders -/
def ordC (e : DElection) (l : List Int) (i : Nat) : Bool := match l[i]? with
  | some x => within x 0 (IntKind.i64.wrap ((e.fCosts.length : Int) - 1)) && !(l.take i).contains x
  | none => false
theorem ordC_at {e : DElection} {l : List Int} {i : Nat} (hi : i < l.length) : ordC e l i = (within l[i] 0 (IntKind.i64.wrap ((e.fCosts.length : Int) - 1)) && !(l.take i).contains l[i]) := by
  unfold ordC
  rw [List.getElem?_eq_getElem hi]
def ordOk (e : DElection) (l : List Int) : Bool := (List.range l.length).all (ordC e l)
theorem spOrder (e : DElection) (l : List Int) (hl : l.length ≤ maxLen) : F_spec_l05Order e l = some (ordOk e l) := by
  unfold F_spec_l05Order
  have := all_loopG (n := l.length) (F := F_spec_l05Order_l1 l e) (ordC e l) (good := some true) (bad := some false) (fun f => by rw [F_spec_l05Order_l1.eq_2, dlt_f (by omega)]; rfl) (fun i f hi => by
    have hk : (l.take i).length ≤ maxLen := by rw [List.length_take]; omega
    rw [F_spec_l05Order_l1.eq_2, dlt_t hi, cond_true, idx_nat hi]
    unfold F_spec_l05Project
    rw [spIn, Option.bind_some, Option.bind_some, idx_nat hi, sub_ok0 (by omega)]
    simp only [Int.toNat_zero, List.drop_zero, Int.toNat_natCast]
    rw [spHas _ _ hk, W_succ hi hl, ordC_at hi]
    cases within l[i] 0 (IntKind.i64.wrap ((e.fCosts.length : Int) - 1)) <;> cases (l.take i).contains l[i] <;> rfl) (m := l.length + 1) (by omega)
  rw [this]
  unfold ordOk
  cases (List.range l.length).all (ordC e l) <;> rfl
theorem imOrder (e : DElection) (l : List Int) (hl : l.length ≤ maxLen) (he : smEl e) : F_impl_isOrder e l = some (ordOk e l && elOk e) := by
  unfold F_impl_isOrder
  have := all_loopG (n := l.length) (F := F_impl_isOrder_l1 l e) (ordC e l) (good := some (elOk e)) (bad := some false) (fun f => by rw [F_impl_isOrder_l1.eq_2, dlt_f (by omega), cond_false, imElect e he]; rfl) (fun i f hi => by
    have hk : (l.take i).length ≤ maxLen := by rw [List.length_take]; omega
    rw [F_impl_isOrder_l1.eq_2, dlt_t hi, cond_true, idx_nat hi, imIn, Option.bind_some, sub_ok0 (by omega)]
    simp only [Int.toNat_zero, List.drop_zero, Int.toNat_natCast]
    rw [imContains _ _ hk, W_succ hi hl, ordC_at hi]
    cases within l[i] 0 (IntKind.i64.wrap ((e.fCosts.length : Int) - 1)) <;> cases (l.take i).contains l[i] <;> rfl) (m := l.length + 1) (by omega)
  rw [this]
  unfold ordOk
  cases (List.range l.length).all (ordC e l) <;> rfl
theorem order_nat {m : Nat} {C : List Nat} {A : List (Nat → Bool)} {l : List Int} (h : Elec m C A) (ho : ordOk (ele m C A) l = true) : ∃ os : List Nat, l = os.map Int.ofNat ∧ (∀ p ∈ os, p < C.length) ∧ os.Nodup ∧ os.length ≤ 6 := by
  unfold ordOk at ho
  rw [List.all_eq_true] at ho
  have hc := h.c6; have hc1 := h.c1
  have hi : ∀ i (hi : i < l.length), 0 ≤ l[i] ∧ l[i] < C.length ∧ l[i] ∉ l.take i := fun i hi => by
    have := ho i (List.mem_range.2 hi)
    rw [ordC_at hi, ele_C, W_id (by omega) (by omega), Bool.and_eq_true, within_iff, Bool.not_eq_true', ← Bool.not_eq_true, List.contains_iff_mem] at this
    exact ⟨this.1.1, by omega, this.2⟩
  have hA : ∀ x ∈ l, 0 ≤ x ∧ x < C.length := by
    intro x hx
    obtain ⟨i, h1, rfl⟩ := List.getElem_of_mem hx
    have := hi i h1
    omega
  have he : l = (l.map Int.toNat).map Int.ofNat := by
    rw [List.map_map]
    refine (List.map_id l).symm.trans (List.map_congr_left fun x hx => ?_)
    exact (Int.toNat_of_nonneg (hA x hx).1).symm
  have hlt : ∀ p ∈ l.map Int.toNat, p < C.length := fun p hp => by
    obtain ⟨x, hx, rfl⟩ := List.mem_map.1 hp
    have := hA x hx
    omega
  have hnd : (l.map Int.toNat).Nodup := by
    rw [List.nodup_iff_pairwise_ne, List.pairwise_iff_getElem]
    intro i j h1 h2 hij
    rw [List.length_map] at h1 h2
    rw [List.getElem_map, List.getElem_map]
    intro e
    obtain ⟨a1, a2, a3⟩ := hi j h2
    obtain ⟨b1, b2, b3⟩ := hi i h1
    have e2 : l[i] = l[j] := by omega
    refine a3 ?_
    rw [← e2, List.mem_iff_getElem]
    exact ⟨i, by rw [List.length_take]; omega, by rw [List.getElem_take]⟩
  refine ⟨_, he, hlt, hnd, ?_⟩
  have := hnd.length_le_of_subset (l₂ := List.range C.length) fun p hp => List.mem_range.2 (hlt p hp)
  rw [List.length_range] at this
  omega
end Go.FX
