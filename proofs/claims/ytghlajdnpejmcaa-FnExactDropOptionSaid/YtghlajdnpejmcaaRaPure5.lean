/- The pure part: what the functions compute, in plain Lean, with no program in sight; no condition. -/
import Derived.Test.YtghlajdnpejmcaaRaPure4
namespace Go.FX
open Go Go.GL Go.RowKit
theorem prof_bound {R : List (List Nat)} {T : List Nat} (hR : R.length ≤ 12) (hT : T.length ≤ 12) (hr : ∀ r ∈ R, r.length ≤ 6) :
    ((prof R T).fRankings.length + ((prof R T).fRankings.map fun e : List Int => e.length).sum) + (prof R T).fWeights.length ≤ 1048576 := by
  have h1 : (prof R T).fRankings.length = R.length := prof_len
  have h2 : (prof R T).fWeights.length = T.length := List.length_map _
  have := sum_bd (w := fun e : List Int => e.length) (b := 6) (l := (prof R T).fRankings) fun x hx => by
    obtain ⟨r, hr', rfl⟩ := List.mem_map.1 hx
    rw [List.length_map]
    exact hr r hr'
  rw [h1] at this ⊢
  omega
theorem map_tab {R : List (List Nat)} {g : List Nat → List Int} : ((List.range R.length).flatMap fun i => [g (R[i]!)]) = R.map g := by
  rw [← List.map_eq_flatMap]
  have e := eq_tab R
  conv => rhs; rw [e]
  unfold tab
  rw [List.map_map]
  rfl
section
variable {n : Nat} {R : List (List Nat)} {T : List Nat} (h : Prof n R T)
include h
omit h in
theorem spRev2 {i : Nat} (hi : i < R.length) {acc0 : List (List Int)} (ha : acc0.length ≤ 100) : ∀ k f (acc : List Int), k ≤ R[i].length → k < f → acc.length + k ≤ 100 → F_spec_ReverseProfile_l2 (prof R T) (i : Int) acc0 f acc ((k : Int) - 1) = some (acc0 ++ [acc ++ ((R[i].take k).reverse).map Int.ofNat]) := by
  intro k
  induction k with
  | zero =>
    intro f acc hk hf hb
    obtain ⟨f, rfl⟩ : ∃ g, f = g + 1 := ⟨f - 1, by omega⟩
    rw [F_spec_ReverseProfile_l2.eq_2, decide_eq_false (by omega), cond_false, app_ok (by simp; omega)]
    simp
  | succ k ih =>
    intro f acc hk hf hb
    obtain ⟨f, rfl⟩ : ∃ g, f = g + 1 := ⟨f - 1, by omega⟩
    have e : ((k + 1 : Nat) : Int) - 1 = (k : Int) := by omega
    have hkl : k < R[i].length := by omega
    rw [F_spec_ReverseProfile_l2.eq_2, e, decide_eq_true (by omega), cond_true, idx_prof hi, idx_nats hkl, app_ok (by simp; omega), W_id (by omega) (by omega), ih f _ (by omega) (by omega) (by simp; omega)]
    rw [← List.take_append_getElem hkl, List.reverse_append, List.map_append, List.append_assoc]
    rfl
theorem spRev1 : F_spec_ReverseProfile_l1 (prof R T) (T.map Int.ofNat) ((prof R T).fRankings.length + 1) [] 0 = some (prof (R.map List.reverse) T, true) := by
  have h12 := h.r12; have h6 := h.n6
  rw [prof_len]
  have := app_loop (b := 1) (n := R.length) (F := F_spec_ReverseProfile_l1 (prof R T) (T.map Int.ofNat)) (m := R.length + 1) (acc := []) (fun i => [((R[i]!).reverse).map Int.ofNat]) (fun l => some (DProfile.mk l (T.map Int.ofNat), true)) 0
    (fun j _ => by simp) (fun f acc => by rw [F_spec_ReverseProfile_l1.eq_2, prof_len, dlt_f (by omega)]; rfl)
    (fun f acc i hi hacc => by
      have hrl := (row_at h hi).1
      have hw : IntKind.i64.wrap ((R[i].length : Int) - 1) = (R[i].length : Int) - 1 := W_id (by omega) (by omega)
      rw [F_spec_ReverseProfile_l1.eq_2, prof_len, dlt_t hi, cond_true, idx_prof hi, List.length_map, hw, spRev2 hi (by omega) R[i].length _ [] (Nat.le_refl _) (by omega) (by simp; omega), Option.bind_some, W_succ hi (by unfold maxLen; omega), List.take_length, List.nil_append, getElem!_pos R i hi]) (by omega) (by simp)
  rw [this, List.nil_append, map_tab (g := fun r => r.reverse.map Int.ofNat)]
  unfold prof
  rw [List.map_map]
  rfl
def revS (R : List (List Nat)) (i : Nat) : List (List Int) := tab R.length fun j => if j < i then (R[j]!).reverse.map Int.ofNat else (R[j]!).map Int.ofNat
theorem imRev1 : F_impl_ReverseProfile_l1 (prof R T) ((prof R T).fRankings.length + 1) (prof R T).fRankings 0 = some (prof (R.map List.reverse) T, true) := by
  have h12 := h.r12; have h6 := h.n6
  have e0 : (prof R T).fRankings = revS R 0 := by
    unfold prof revS
    simp only []
    conv => lhs; rw [eq_tab R]
    unfold tab
    rw [List.map_map]
    exact List.map_congr_left fun i _ => by rw [if_neg (by omega)]; rfl
  have en : revS R R.length = (R.map List.reverse).map fun r => r.map Int.ofNat := by
    unfold revS
    conv => rhs; rw [eq_tab R]
    unfold tab
    rw [List.map_map, List.map_map]
    exact List.map_congr_left fun i hi => by rw [if_pos (List.mem_range.1 hi)]; rfl
  have hl : (prof R T).fRankings.length = R.length := prof_len
  rw [hl]
  have := st_loop (n := R.length) (F := fun f l i => F_impl_ReverseProfile_l1 (prof R T) f l i) (revS R) (r := some (prof (R.map List.reverse) T, true)) (fun f => by
    show F_impl_ReverseProfile_l1 _ _ _ _ = _
    rw [F_impl_ReverseProfile_l1.eq_2, hl, dlt_f (by omega), en]; rfl) (fun i f hi => by
    show F_impl_ReverseProfile_l1 _ _ _ _ = F_impl_ReverseProfile_l1 _ _ _ _
    have hrl := (row_at h hi).1
    have hidx : ∀ {β : Type} (K : List Int → Option β), idx (revS R i) (i : Int) K = K (R[i].map Int.ofNat) := fun K => by
      unfold revS
      rw [idx_tab hi, if_neg (by omega), getElem!_pos R i hi]
    rw [F_impl_ReverseProfile_l1.eq_2, hl, dlt_t hi, cond_true, hidx, imReverse (by rw [List.length_map]; omega), Option.bind_some, W_succ hi (by unfold maxLen; omega), Int.toNat_natCast]
    congr 1
    unfold revS
    rw [set_tab]
    refine tab_congr fun j _ => ?_
    by_cases e : j = i
    · rw [if_pos e, if_pos (by omega), e, getElem!_pos R i hi, List.map_reverse]
    · rw [if_neg e]
      by_cases e2 : j < i
      · rw [if_pos e2, if_pos (by omega)]
      · rw [if_neg e2, if_neg (by omega)]) (m := R.length + 1) (by omega)
  rw [e0]
  exact this
end
theorem eqReverse (p : DProfile) (h : smP p) : ∃ r, F_spec_ReverseProfile p = some r ∧ F_impl_ReverseProfile p = some r ∧ ((r.1.fRankings.length + (r.1.fRankings.map fun e : List Int => e.length).sum) + r.1.fWeights.length) ≤ 1048576 := by
  unfold F_spec_ReverseProfile F_impl_ReverseProfile
  rw [spProfile p h, imProfile p h]
  simp only [Option.bind_some]
  cases q : profOk p
  · exact ⟨_, rfl, rfl, by simp⟩
  · obtain ⟨n, R, T, rfl, hp, -⟩ := prof_nat q
    have h12 := hp.r12; have h6 := hp.n6; have hw := hp.wl
    simp only [Bool.not_true, cond_false]
    rw [spOwn h.2.1, imClone hp, Option.bind_some, Option.bind_some]
    have hT : (prof R T).fWeights = T.map Int.ofNat := rfl
    rw [hT, spRev1 hp, imRev1 hp]
    refine ⟨_, rfl, rfl, prof_bound (by rw [List.length_map]; omega) (by omega) (fun r hr => ?_)⟩
    obtain ⟨r0, hr0, rfl⟩ := List.mem_map.1 hr
    rw [List.length_reverse, hp.len r0 hr0]
    omega
end Go.FX
