/- The pure part: what the functions compute, in plain Lean, with no program in sight; no condition. -/
import Derived.Test.YtghlajdnpejmcaaRcPure8
namespace Go.FX
open Go Go.GL Go.RowKit
/-! an option is raised -/
theorem perm_has {n o : Nat} {L : List Nat} (hl : L.length = n) (hn : L.Nodup) (hlt : ∀ x ∈ L, x < n) (ho : o < n) : o ∈ L := by
  refine Classical.byContradiction fun hc => ?_
  have h1 : (o :: L).Nodup := List.nodup_cons.2 ⟨hc, hn⟩
  have h2 := h1.length_le_of_subset (l₂ := List.range n) fun x hx => by
    rcases List.mem_cons.1 hx with rfl | hx
    · exact List.mem_range.2 ho
    · exact List.mem_range.2 (hlt x hx)
  rw [List.length_range, List.length_cons] at h2
  omega
theorem place_at {o : Nat} {L : List Nat} (hn : L.Nodup) (h : o ∈ L) : ∃ k, ∃ hk : k < L.length, L[k] = o ∧ ∀ j (hj : j < k), L[j]'(Nat.lt_trans hj hk) ≠ o := by
  obtain ⟨k, hk, e⟩ := List.getElem_of_mem h
  refine ⟨k, hk, e, fun j hj => ?_⟩
  rw [← e]
  exact List.pairwise_iff_getElem.1 hn j k (Nat.lt_trans hj hk) hk hj
theorem spPlace {o k : Nat} {L : List Nat} (hl : L.length ≤ 6) (hk : k < L.length) (e : L[k] = o) (hm : ∀ j (hj : j < k), L[j]'(Nat.lt_trans hj hk) ≠ o) : F_spec_l06Place (L.map Int.ofNat) (o : Int) = some (k : Int) := by
  have key : ∀ d j f, j + d = k → d < f → F_spec_l06Place_l1 (L.map Int.ofNat) (o : Int) f (j : Int) = some (k : Int) := by
    refine up (P := fun j f => F_spec_l06Place_l1 (L.map Int.ofNat) (o : Int) f (j : Int) = some (k : Int)) (fun f => ?_) (fun j f hj ih => ?_)
    · rw [F_spec_l06Place_l1.eq_2, idx_nats hk, e]
      simp
    · have hjl : j < L.length := Nat.lt_trans hj hk
      have hne := hm j hj
      have hb : (((L[j] : Nat) : Int) != (o : Int)) = true := bne_iff_ne.2 (by omega)
      rw [F_spec_l06Place_l1.eq_2, idx_nats hjl, hb, cond_true, W_succ hjl (by unfold maxLen; omega)]
      exact ih
  exact key k 0 1000 (by omega) (by omega)
theorem imIndex {o k : Nat} {L : List Nat} (hl : L.length ≤ 6) (hk : k < L.length) (e : L[k] = o) (hm : ∀ j (hj : j < k), L[j]'(Nat.lt_trans hj hk) ≠ o) : F_slices_Index_int64_int64 (L.map Int.ofNat) (o : Int) = some (k : Int) := by
  have key : ∀ d j f, j + d = k → d < f → F_slices_Index_int64_int64_l1 (L.map Int.ofNat) (o : Int) f (j : Int) = some (k : Int) := by
    refine up (P := fun j f => F_slices_Index_int64_int64_l1 (L.map Int.ofNat) (o : Int) f (j : Int) = some (k : Int)) (fun f => ?_) (fun j f hj ih => ?_)
    · rw [F_slices_Index_int64_int64_l1.eq_2, List.length_map, dlt_t hk, cond_true, idx_nats hk, e]
      simp
    · have hjl : j < L.length := Nat.lt_trans hj hk
      have hne := hm j hj
      have hb : ((o : Int) == ((L[j] : Nat) : Int)) = false := beq_eq_false_iff_ne.2 (by omega)
      rw [F_slices_Index_int64_int64_l1.eq_2, List.length_map, dlt_t hjl, cond_true, idx_nats hjl, hb, cond_false, W_succ hjl (by unfold maxLen; omega)]
      exact ih
  unfold F_slices_Index_int64_int64
  rw [List.length_map]
  exact key k 0 (L.length + 1) (by omega) (by omega)
theorem spOwnP {n : Nat} {R : List (List Nat)} {T : List Nat} (h : Prof n R T) : F_spec_l06Own (prof R T) = some (prof R T) := by
  have h12 := h.r12; have h6 := h.n6; have hw := h.wl
  have hT : (prof R T).fWeights.length = T.length := List.length_map _
  unfold F_spec_l06Own
  rw [spOwn (by rw [hT]; omega), Option.bind_some, prof_len]
  have := app_loop (b := 1) (n := R.length) (F := F_spec_l06Own_l1 (prof R T) (prof R T).fWeights) (m := R.length + 1) (acc := []) (fun i => [(R[i]!).map Int.ofNat]) (fun l => some (DProfile.mk l (prof R T).fWeights)) 0
    (fun j _ => by simp) (fun f acc => by rw [F_spec_l06Own_l1.eq_2, prof_len, dlt_f (by omega)]; rfl)
    (fun f acc i hi hacc => by
      have hrl := (row_at h hi).1
      rw [F_spec_l06Own_l1.eq_2, prof_len, dlt_t hi, cond_true, idx_prof hi, spOwn (by rw [List.length_map]; omega), Option.bind_some, app_ok (by simp; omega), W_succ hi (by unfold maxLen; omega), getElem!_pos R i hi]) (by omega) (by simp)
  rw [this, List.nil_append]
  congr 1
  unfold prof
  congr 1
  exact map_tab (g := fun r => r.map Int.ofNat)
theorem prof_set {R : List (List Nat)} {T : List Nat} {a : Nat} {L : List Nat} : (prof R T).fRankings.set a (L.map Int.ofNat) = (R.set a L).map fun r => r.map Int.ofNat := by
  show (R.map fun r => r.map Int.ofNat).set a _ = _
  rw [List.map_set]
theorem idx_nat {α β : Type} {l : List α} {i : Nat} (h : i < l.length) (K : α → Option β) : idx l (i : Int) K = K l[i] :=
  idx_eq (by omega) (by rw [Int.toNat_natCast]; exact List.getElem?_eq_getElem h)
theorem idx_set {α β : Type} {l : List α} {v : α} {i : Nat} (h : i < l.length) (K : α → Option β) : idx (l.set i v) (i : Int) K = K v := by
  have hi : i < (l.set i v).length := by rw [List.length_set]; exact h
  rw [idx_nat hi, List.getElem_set_self]
theorem eqRaise (p : DProfile) (a o : Int) (h : smP p) : ∃ r, F_spec_RaiseOption p a o = some r ∧ F_impl_RaiseOption p a o = some r ∧ ((r.1.fRankings.length + (r.1.fRankings.map fun e : List Int => e.length).sum) + r.1.fWeights.length) ≤ 1048576 := by
  unfold F_spec_RaiseOption F_impl_RaiseOption
  rw [spProfile p h]
  simp only [Option.bind_some]
  cases q : profOk p
  · rw [imOptBad h q]
    exact ⟨_, rfl, rfl, by simp⟩
  · obtain ⟨n, R, T, rfl, hp, -⟩ := prof_nat q
    have h12 := hp.r12; have h6 := hp.n6; have hw := hp.wl; have h1 := hp.n1; have hr1 := hp.r1
    have hl : (prof R T).fRankings.length = R.length := prof_len
    rw [spOpt hp, imOpt hp o h q, hl, W_id (by omega) (by omega), spIn, imIn]
    simp only [Bool.not_true, cond_false, Option.bind_some]
    cases q3 : within a 0 ((R.length : Int) - 1)
    · cases q2 : within o 0 ((n : Int) - 1)
      · exact ⟨_, rfl, rfl, by simp⟩
      · exact ⟨_, rfl, rfl, by simp⟩
    · cases q2 : within o 0 ((n : Int) - 1)
      · exact ⟨_, rfl, rfl, by simp⟩
      · have ha := within_iff.1 q3
        have ho := within_iff.1 q2
        obtain ⟨i, rfl⟩ : ∃ v : Nat, a = v := ⟨a.toNat, by omega⟩
        obtain ⟨v, rfl⟩ : ∃ v : Nat, o = v := ⟨o.toNat, by omega⟩
        have hi : i < R.length := by omega
        obtain ⟨hrl, hrt⟩ := row_at hp hi
        have hnd := hp.nd _ (List.getElem_mem hi)
        obtain ⟨k, hk, ek, hm⟩ := place_at hnd (perm_has hrl hnd hrt (show v < n by omega))
        simp only [Bool.not_true, cond_false, Option.bind_some]
        rw [idx_prof hi, spPlace (by omega) hk ek hm, imClone hp, Option.bind_some, Option.bind_some, idx_prof hi, imIndex (by omega) hk ek hm, Option.bind_some, spOwnP hp, Option.bind_some]
        by_cases hk0 : k = 0
        · subst hk0
          exact ⟨_, rfl, rfl, by simp⟩
        · obtain ⟨m, rfl⟩ : ∃ m, k = m + 1 := ⟨k - 1, by omega⟩
          have hm0 : m < R[i].length := by omega
          have hwm : IntKind.i64.wrap (((m + 1 : Nat) : Int) - 1) = (m : Int) := by rw [W_id (by omega) (by omega)]; omega
          rw [beq_eq_false_iff_ne.2 (show ((m + 1 : Nat) : Int) ≠ 0 by omega), hwm]
          simp only [cond_false]
          have hlm : (R[i].map Int.ofNat).length = R[i].length := List.length_map _
          have hlp : i < (prof R T).fRankings.length := by rw [hl]; exact hi
          rw [idx_prof hi, idx_prof hi, idx_nats hm0, idx_nats hk, Int.toNat_natCast, Int.toNat_natCast, Int.toNat_natCast, idx_set hlp]
          have e1 : ∀ {β : Type} (K : Int → Option β), idx (List.set (List.map Int.ofNat R[i]) (m + 1) ((R[i][m] : Nat) : Int)) (m : Int) K = K ((R[i][m] : Nat) : Int) := fun K => by
            have : m < (List.set (List.map Int.ofNat R[i]) (m + 1) ((R[i][m] : Nat) : Int)).length := by rw [List.length_set, hlm]; exact hm0
            rw [idx_nat this, List.getElem_set_ne (by omega), List.getElem_map]
            rfl
          have e2 : ∀ {β : Type} (K : Int → Option β), idx (List.set (List.map Int.ofNat R[i]) m ((R[i][m + 1] : Nat) : Int)) ((m + 1 : Nat) : Int) K = K ((R[i][m + 1] : Nat) : Int) := fun K => by
            have : m + 1 < (List.set (List.map Int.ofNat R[i]) m ((R[i][m + 1] : Nat) : Int)).length := by rw [List.length_set, hlm]; exact hk
            rw [idx_nat this, List.getElem_set_ne (by omega), List.getElem_map]
            rfl
          rw [e1, idx_nats hk, idx_nats hm0, idx_nats hm0, e2]
          rw [List.set_set, List.set_set]
          have e3 : List.set (List.set (List.map Int.ofNat R[i]) (m + 1) ((R[i][m] : Nat) : Int)) m ((v : Nat) : Int) = (List.set (List.set R[i] (m + 1) R[i][m]) m v).map Int.ofNat := by
            rw [List.map_set, List.map_set]; rfl
          have e4 : List.set (List.set (List.map Int.ofNat R[i]) m ((R[i][m + 1] : Nat) : Int)) (m + 1) ((R[i][m] : Nat) : Int) = (List.set (List.set R[i] (m + 1) R[i][m]) m v).map Int.ofNat := by
            rw [ek, List.set_comm _ _ (by omega), List.map_set, List.map_set]; rfl
          rw [e3, e4, prof_set]
          refine ⟨_, rfl, rfl, ?_⟩
          refine prof_bound (R := R.set i _) (by rw [List.length_set]; omega) (by omega) (fun r hr => ?_)
          rcases List.mem_or_eq_of_mem_set hr with hr | rfl
          · rw [hp.len r hr]; omega
          · rw [List.length_set, List.length_set]; omega
end Go.FX
