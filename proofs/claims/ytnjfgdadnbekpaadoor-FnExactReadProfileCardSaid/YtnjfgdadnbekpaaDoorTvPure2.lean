/- The pure part: what the functions compute, in plain Lean, with no program in sight; no condition. -/
import Derived.Test.YtnjfgdadnbekpaaDoorTvPure1
namespace Go.FX
open Go Go.GL Go.RowKit
def prfC (p : DProfile) (n : Nat) (i : Nat) : Bool := match p.fRankings[i]?, p.fWeights[i]? with
  | some r, some w => rkOk r n && within w 0 1000
  | _, _ => false
theorem prfC_at {p : DProfile} {n i : Nat} (h1 : i < p.fRankings.length) (h2 : i < p.fWeights.length) : prfC p n i = (rkOk p.fRankings[i] n && within p.fWeights[i] 0 1000) := by
  unfold prfC
  rw [List.getElem?_eq_getElem h1, List.getElem?_eq_getElem h2]
def cnt0 (p : DProfile) : Nat := (p.fRankings[0]!).length
def profOk (p : DProfile) : Bool := within (p.fRankings.length : Int) 1 12 && decide (p.fWeights.length = p.fRankings.length) && (decide (1 ≤ cnt0 p) && decide (cnt0 p ≤ 6)) && (List.range p.fRankings.length).all (prfC p (cnt0 p))
theorem cnt_at {p : DProfile} (h0 : 0 < p.fRankings.length) : ((p.fRankings[0]).length : Int) = (cnt0 p : Int) := by
  unfold cnt0
  rw [getElem!_pos _ 0 h0]
theorem spCount {p : DProfile} (h0 : 0 < p.fRankings.length) : F_spec_l06Count p = some (cnt0 p : Int) := by
  unfold F_spec_l06Count
  rw [idx0 h0, cnt_at h0]
theorem spProfile (p : DProfile) (h : smP p) : F_spec_l06Is p = some (profOk p) := by
  unfold F_spec_l06Is profOk
  rw [spIn, Option.bind_some]
  cases q1 : within (p.fRankings.length : Int) 1 12
  · rfl
  · have hb := within_iff.1 q1
    have h0 : 0 < p.fRankings.length := by omega
    rw [Bool.not_true, cond_false]
    by_cases q2 : p.fWeights.length = p.fRankings.length
    · rw [q2, bne_self_eq_false, Option.bind_some, cond_false, spCount h0, Option.bind_some, spIn, Option.bind_some, decide_eq_true rfl, Bool.true_and, Bool.true_and]
      by_cases q3 : 1 ≤ cnt0 p ∧ cnt0 p ≤ 6
      · have e : within (cnt0 p : Int) 1 6 = true := within_iff.2 ⟨by omega, by omega⟩
        rw [e, decide_eq_true q3.1, decide_eq_true q3.2, Bool.not_true, cond_false, Bool.true_and, Bool.true_and]
        have := all_loopG (n := p.fRankings.length) (F := F_spec_l06Is_l1 p (cnt0 p : Int)) (prfC p (cnt0 p)) (good := some true) (bad := some false) (fun f => by rw [F_spec_l06Is_l1.eq_2, dlt_f (by omega)]; rfl) (fun i f hi => by
          rw [F_spec_l06Is_l1.eq_2, dlt_t hi, cond_true, idx_nat hi, spRanking q3.1 (by omega) (Nat.le_trans (h.2.2 _ (List.getElem_mem hi)) (by decide)), Option.bind_some, idx_nat (by omega), spIn, Option.bind_some, prfC_at hi (by omega), W_succ hi (Nat.le_trans h.1 (by decide))]
          cases rkOk p.fRankings[i] (cnt0 p) <;> cases within p.fWeights[i] 0 1000 <;> rfl) (m := p.fRankings.length + 1) (by omega)
        rw [this]
        cases (List.range p.fRankings.length).all (prfC p (cnt0 p)) <;> rfl
      · have e : within (cnt0 p : Int) 1 6 = false := Bool.eq_false_iff.2 fun hh => by have := within_iff.1 hh; omega
        have e2 : (decide (1 ≤ cnt0 p) && decide (cnt0 p ≤ 6)) = false := Bool.eq_false_iff.2 fun hh => by rw [Bool.and_eq_true, decide_eq_true_iff, decide_eq_true_iff] at hh; omega
        rw [e, e2]
        rfl
    · rw [bne_t (by omega), decide_eq_false q2]
      rfl
theorem imProfile (p : DProfile) (h : smP p) : F_impl_ValidProfile p = some (profOk p) := by
  unfold F_impl_ValidProfile profOk
  rw [imIn, Option.bind_some]
  cases q1 : within (p.fRankings.length : Int) 1 12
  · rfl
  · have hb := within_iff.1 q1
    have h0 : 0 < p.fRankings.length := by omega
    rw [Bool.not_true, cond_false]
    by_cases q2 : p.fWeights.length = p.fRankings.length
    · rw [q2, bne_self_eq_false, Option.bind_some, cond_false, decide_eq_true rfl, Bool.true_and, Bool.true_and]
      have := all_loopG (n := p.fRankings.length) (F := F_impl_ValidProfile_l1 p) (fun i => prfC p (cnt0 p) i && (decide (1 ≤ cnt0 p) && decide (cnt0 p ≤ 6))) (good := some true) (bad := some false) (fun f => by rw [F_impl_ValidProfile_l1.eq_2, dlt_f (by omega)]; rfl) (fun i f hi => by
        rw [F_impl_ValidProfile_l1.eq_2, dlt_t hi, cond_true, idx_nat hi, idx0 h0, cnt_at h0, imRanking (h.2.2 _ (List.getElem_mem hi)), Option.bind_some, idx_nat (l := p.fWeights) (by omega), imIn, Option.bind_some, prfC_at hi (by omega), W_succ hi (Nat.le_trans h.1 (by decide))]
        cases rkOk p.fRankings[i] (cnt0 p) <;> cases within p.fWeights[i] 0 1000 <;> cases decide (1 ≤ cnt0 p) <;> cases decide (cnt0 p ≤ 6) <;> rfl) (m := p.fRankings.length + 1) (by omega)
      rw [this]
      have e : (List.range p.fRankings.length).all (fun i => prfC p (cnt0 p) i && (decide (1 ≤ cnt0 p) && decide (cnt0 p ≤ 6))) = ((decide (1 ≤ cnt0 p) && decide (cnt0 p ≤ 6)) && (List.range p.fRankings.length).all (prfC p (cnt0 p))) := by
        rw [Bool.eq_iff_iff, Bool.and_eq_true, List.all_eq_true, List.all_eq_true]
        constructor
        · intro hh
          exact ⟨(Bool.and_eq_true_iff.1 (hh 0 (List.mem_range.2 h0))).2, fun i hi => (Bool.and_eq_true_iff.1 (hh i hi)).1⟩
        · rintro ⟨a, b⟩ i hi
          exact Bool.and_eq_true_iff.2 ⟨b i hi, a⟩
      rw [e]
      cases (decide (1 ≤ cnt0 p) && decide (cnt0 p ≤ 6)) <;> cases (List.range p.fRankings.length).all (prfC p (cnt0 p)) <;> rfl
    · rw [bne_t (by omega), decide_eq_false q2]
      rfl
/-- a valid profile: its rankings and weights -/
def prof (R : List (List Nat)) (T : List Nat) : DProfile := ⟨R.map fun r => r.map Int.ofNat, T.map Int.ofNat⟩
structure Prof (n : Nat) (R : List (List Nat)) (T : List Nat) : Prop where
  r1 : 1 ≤ R.length
  r12 : R.length ≤ 12
  wl : T.length = R.length
  n1 : 1 ≤ n
  n6 : n ≤ 6
  len : ∀ r ∈ R, r.length = n
  nd : ∀ r ∈ R, r.Nodup
  lt : ∀ r ∈ R, ∀ x ∈ r, x < n
  wt : ∀ w ∈ T, w ≤ 1000
theorem nat_of {l : List Int} (h : ∀ x ∈ l, 0 ≤ x) : l = (l.map Int.toNat).map Int.ofNat := by
  rw [List.map_map]
  exact (List.map_id l).symm.trans (List.map_congr_left fun x hx => (Int.toNat_of_nonneg (h x hx)).symm)
theorem prof_nat {p : DProfile} (h : profOk p = true) : ∃ n R T, p = prof R T ∧ Prof n R T ∧ cnt0 p = n := by
  obtain ⟨Rk, Wt⟩ := p
  have h' := h
  unfold profOk at h
  simp only [Bool.and_eq_true, decide_eq_true_iff, within_iff, List.all_eq_true, List.mem_range] at h
  obtain ⟨⟨⟨⟨a1, a2⟩, b⟩, c1, c2⟩, d⟩ := h
  have hrow : ∀ r ∈ Rk, r.length = cnt0 ⟨Rk, Wt⟩ ∧ (∀ x ∈ r, 0 ≤ x ∧ x < cnt0 ⟨Rk, Wt⟩) ∧ r.Nodup := fun r hr => by
    obtain ⟨i, hi, rfl⟩ := List.getElem_of_mem hr
    have := d i hi
    rw [prfC_at (p := ⟨Rk, Wt⟩) hi (by simp only; omega), Bool.and_eq_true] at this
    have h1 := this.1
    unfold rkOk at h1
    rw [Bool.and_eq_true, decide_eq_true_iff, dis_iff] at h1
    exact ⟨h1.1, fun x hx => by have := h1.2.1 x hx; omega, h1.2.2⟩
  have hwt : ∀ w ∈ Wt, 0 ≤ w ∧ w ≤ 1000 := fun w hw => by
    obtain ⟨i, hi, rfl⟩ := List.getElem_of_mem hw
    have := d i (by omega)
    rw [prfC_at (p := ⟨Rk, Wt⟩) (by simp only; omega) hi, Bool.and_eq_true, within_iff] at this
    exact this.2
  refine ⟨cnt0 ⟨Rk, Wt⟩, Rk.map fun r => r.map Int.toNat, Wt.map Int.toNat, ?_, ⟨by rw [List.length_map]; omega, by rw [List.length_map]; omega, by rw [List.length_map, List.length_map]; exact b, c1, c2, ?_, ?_, ?_, ?_⟩, rfl⟩
  · unfold prof
    rw [← nat_of fun w hw => (hwt w hw).1, List.map_map]
    congr 1
    exact (List.map_id Rk).symm.trans (List.map_congr_left fun r hr => nat_of fun x hx => ((hrow r hr).2.1 x hx).1)
  · intro r hr
    obtain ⟨r0, hr0, rfl⟩ := List.mem_map.1 hr
    rw [List.length_map]
    exact (hrow r0 hr0).1
  · intro r hr
    obtain ⟨r0, hr0, rfl⟩ := List.mem_map.1 hr
    rw [List.nodup_iff_pairwise_ne, List.pairwise_map]
    refine List.Pairwise.imp_of_mem ?_ (List.nodup_iff_pairwise_ne.1 (hrow r0 hr0).2.2)
    intro a b ha hb hab e
    have h1 := (hrow r0 hr0).2.1 a ha
    have h2 := (hrow r0 hr0).2.1 b hb
    omega
  · intro r hr x hx
    obtain ⟨r0, hr0, rfl⟩ := List.mem_map.1 hr
    obtain ⟨y, hy, rfl⟩ := List.mem_map.1 hx
    have := (hrow r0 hr0).2.1 y hy
    omega
  · intro w hw
    obtain ⟨y, hy, rfl⟩ := List.mem_map.1 hw
    have := hwt y hy
    omega
end Go.FX
