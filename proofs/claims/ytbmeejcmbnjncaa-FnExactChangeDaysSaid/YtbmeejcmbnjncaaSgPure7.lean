/- The pure part: what the functions compute, in plain Lean, with no program in sight; no condition. -/
import Derived.Test.YtbmeejcmbnjncaaSgPure6
namespace Go.FX
open Go Go.GL Go.RowKit
theorem act_ok {l : List DAct} (h : actsOk l = true) {a : DAct} (ha : a ∈ l) : patchOk a.fPatch = true := by
  unfold actsOk at h
  rw [Bool.and_eq_true, decide_eq_true_eq] at h
  obtain ⟨i, hi, rfl⟩ := List.getElem_of_mem ha
  have := h.1 i hi
  rw [actC_at hi, Bool.and_eq_true, Bool.and_eq_true] at this
  exact this.1.2
theorem on_loop {acts : List DAct} (hk : actsOk acts = true) {x : List Int} (hx : ∀ v ∈ x, ∃ i : Nat, i < acts.length ∧ v = (i : Int)) (hl : x.length ≤ 1000) : ∀ k i f, i + k = x.length → k < f → ∀ l, Srt l → ∃ r, F_spec_l07On_l1 x acts f l (i : Int) = some r ∧ F_impl_textOn_l1 x acts f l (i : Int) = some r ∧ Srt r.1 := by
  refine up (P := fun i f => ∀ l, Srt l → ∃ r, F_spec_l07On_l1 x acts f l (i : Int) = some r ∧ F_impl_textOn_l1 x acts f l (i : Int) = some r ∧ Srt r.1) (fun f l hs => ?_) (fun i f hi ih l hs => ?_)
  · rw [F_spec_l07On_l1.eq_2, F_impl_textOn_l1.eq_2, dlt_f (by omega)]
    exact ⟨_, rfl, rfl, hs⟩
  · obtain ⟨j, hj, ej⟩ := hx _ (List.getElem_mem hi)
    rw [F_spec_l07On_l1.eq_2, F_impl_textOn_l1.eq_2, dlt_t hi, cond_true, cond_true, idx_nat hi, idx_nat hi, ej, idx_nat hj, idx_nat hj, W_succ hi (Nat.le_trans hl (by decide))]
    obtain ⟨r, e1, e2, s, -⟩ := eqApply hs (act_ok hk (List.getElem_mem hj))
    rw [e1, e2, Option.bind_some, Option.bind_some]
    cases q : r.2
    · exact ⟨_, rfl, rfl, Srt.nil⟩
    · exact ih r.1 s
theorem lst_mem {n : Nat} {p : Nat → Bool} {v : Int} (h : v ∈ lst n p) : ∃ i : Nat, i < n ∧ v = (i : Int) := by
  unfold lst at h
  obtain ⟨i, hi, rfl⟩ := List.mem_map.1 h
  exact ⟨i, List.mem_range.1 (List.mem_filter.1 hi).1, rfl⟩
theorem eqOn {a : List DArticle} {acts : List DAct} (day : Int) (hs : Srt a) (hk : actsOk acts = true) : ∃ r, F_spec_l07On a acts day = some r ∧ F_impl_textOn a acts day = some r ∧ Srt r.1 := by
  have h8 := acts_len hk
  have hal := hs.len
  unfold F_spec_l07On F_impl_textOn
  rw [app_ok (by simp; omega), app_ok (by simp; omega), spForce acts day h8, imForce acts day h8, Option.bind_some, Option.bind_some, List.nil_append]
  have hll : (lst acts.length (forceC acts day)).length ≤ 1000 := by
    unfold lst
    rw [List.length_map]
    have := List.length_filter_le (forceC acts day) (List.range acts.length)
    rw [List.length_range] at this
    omega
  exact on_loop hk (fun v hv => lst_mem hv) hll (lst acts.length (forceC acts day)).length 0 ((lst acts.length (forceC acts day)).length + 1) (by omega) (by omega) a hs
theorem spBoth (a : List DArticle) (acts : List DAct) (h1 : smT a) (h2 : smAs acts) : F_spec_l07Both a acts = some (statOk a && actsOk acts) := by
  unfold F_spec_l07Both
  rw [spStat a h1, spActs acts h2.1 h2.2]
  cases statOk a <;> rfl
theorem spDay (d : Int) : F_spec_l07Day d = some (within d 0 999) := rfl
theorem imDate (d : Int) : F_impl_isDate d = some (within d 0 999) := rfl
/-! the source of a text -/
end Go.FX
