/- The pure part: what the functions compute, in plain Lean, with no program in sight; no condition. -/
import Derived.Test.YthgmjhiccdjboaaSbPure6
namespace Go.FX
open Go Go.GL Go.RowKit
theorem eqApplyP (a : List DArticle) (p : List DEdit) (h1 : smT a) (h2 : smP p) : ∃ r, F_spec_ApplyPatch a p = some r ∧ F_impl_ApplyPatch a p = some r ∧ r.1.length ≤ 1048576 := by
  unfold F_spec_ApplyPatch F_impl_ApplyPatch
  rw [spStat a h1, imStat a h1]
  simp only [Option.bind_some]
  cases q1 : statOk a
  · exact ⟨_, rfl, rfl, by simp⟩
  · rw [spPatch p h2.1 h2.2, imPatch p h2.1 h2.2]
    cases q2 : patchOk p
    · exact ⟨_, rfl, rfl, by simp⟩
    · obtain ⟨r, e1, e2, s, -⟩ := eqApply (stat_srt q1) q2
      simp only [Bool.not_true, cond_false, Option.bind_some]
      rw [e1, e2]
      simp only [Option.bind_some]
      cases r.2
      · exact ⟨_, rfl, rfl, by simp⟩
      · exact ⟨_, rfl, rfl, Nat.le_trans s.len (by decide)⟩
theorem act_ok {l : List DAct} (h : actsOk l = true) {a : DAct} (ha : a ∈ l) : patchOk a.fPatch = true := by
  unfold actsOk at h
  rw [Bool.and_eq_true, decide_eq_true_eq] at h
  obtain ⟨i, hi, rfl⟩ := List.getElem_of_mem ha
  have := h.1 i hi
  rw [actC_at hi, Bool.and_eq_true, Bool.and_eq_true] at this
  exact this.1.2
theorem on_loop {acts : List DAct} (hk : actsOk acts = true) {x : List Int} (hx : ∀ v ∈ x, ∃ i : Nat, i < acts.length ∧ v = (i : Int)) (hl : x.length ≤ 1000) : ∀ k i f, i + k = x.length → k < f → ∀ l, Srt l → ∃ r, F_spec_l07On_l1 x acts f l (i : Int) = some r ∧ F_impl_textOn_l1 x acts f l (i : Int) = some r ∧ Srt r.1 := by
  refine up (P := fun i f => ∀ l, Srt l → ∃ r, F_spec_l07On_l1 x acts f l (i : Int) = some r ∧ F_impl_textOn_l1 x acts f l (i : Int) = some r ∧ Srt r.1) (fun f l hs => ?_) (fun i f hi ih l hs => ?_)
  · rw [F_spec_l07On_l1.eq_2, F_impl_textOn_l1.eq_2, dlt_f (by omega)]
    exact ⟨_, rfl, rfl, hs⟩
  · obtain ⟨j, hj, ej⟩ := hx _ (List.getElem_mem hi)
    rw [F_spec_l07On_l1.eq_2, F_impl_textOn_l1.eq_2, dlt_t hi, cond_true, cond_true, idx_nat hi, idx_nat hi, ej, idx_nat hj, idx_nat hj, W_succ hi (Nat.le_trans hl (by decide))]
    obtain ⟨r, e1, e2, s, -⟩ := eqApply hs (act_ok hk (List.getElem_mem hj))
    rw [e1, e2, Option.bind_some, Option.bind_some]
    cases q : r.2
    · exact ⟨_, rfl, rfl, Srt.nil⟩
    · exact ih r.1 s
theorem lst_mem {n : Nat} {p : Nat → Bool} {v : Int} (h : v ∈ lst n p) : ∃ i : Nat, i < n ∧ v = (i : Int) := by
  unfold lst at h
  obtain ⟨i, hi, rfl⟩ := List.mem_map.1 h
  exact ⟨i, List.mem_range.1 (List.mem_filter.1 hi).1, rfl⟩
theorem eqOn {a : List DArticle} {acts : List DAct} (day : Int) (hs : Srt a) (hk : actsOk acts = true) : ∃ r, F_spec_l07On a acts day = some r ∧ F_impl_textOn a acts day = some r ∧ Srt r.1 := by
  have h8 := acts_len hk
  have hal := hs.len
  unfold F_spec_l07On F_impl_textOn
  rw [app_ok (by simp; omega), app_ok (by simp; omega), spForce acts day h8, imForce acts day h8, Option.bind_some, Option.bind_some, List.nil_append]
  have hll : (lst acts.length (forceC acts day)).length ≤ 1000 := by
    unfold lst
    rw [List.length_map]
    have := List.length_filter_le (forceC acts day) (List.range acts.length)
    rw [List.length_range] at this
    omega
  exact on_loop hk (fun v hv => lst_mem hv) hll (lst acts.length (forceC acts day)).length 0 ((lst acts.length (forceC acts day)).length + 1) (by omega) (by omega) a hs
theorem spBoth (a : List DArticle) (acts : List DAct) (h1 : smT a) (h2 : smAs acts) : F_spec_l07Both a acts = some (statOk a && actsOk acts) := by
  unfold F_spec_l07Both
  rw [spStat a h1, spActs acts h2.1 h2.2]
  cases statOk a <;> rfl
theorem spDay (d : Int) : F_spec_l07Day d = some (within d 0 999) := rfl
theorem imDate (d : Int) : F_impl_isDate d = some (within d 0 999) := rfl
theorem eqTextOn (a : List DArticle) (acts : List DAct) (day : Int) (h1 : smT a) (h2 : smAs acts) : ∃ r, F_spec_TextOn a acts day = some r ∧ F_impl_TextOn a acts day = some r ∧ r.1.length ≤ 1048576 := by
  unfold F_spec_TextOn F_impl_TextOn
  rw [spBoth a acts h1 h2, imStat a h1, imActs acts h2.1 h2.2, spDay, imDate]
  cases q1 : statOk a
  · exact ⟨_, rfl, rfl, by simp⟩
  · cases q2 : actsOk acts
    · exact ⟨_, rfl, rfl, by simp⟩
    · cases q3 : within day 0 999
      · exact ⟨_, rfl, rfl, by simp⟩
      · obtain ⟨r, e1, e2, s⟩ := eqOn day (stat_srt q1) q2
        simp only [Bool.and_self, Bool.not_true, cond_false, Option.bind_some]
        rw [e1, e2]
        exact ⟨_, rfl, rfl, Nat.le_trans s.len (by decide)⟩
/-! the source of a text -/
def srcQ (acts : List DAct) (id x : Int) : Bool := match acts[x.toNat]? with
  | some c => (fe c.fPatch id).isSome
  | none => false
def lastQ (q : Int → Bool) (l : List Int) (z : Int) : Int := l.foldl (fun acc x => if q x = true then x else acc) z
theorem srcQ_at {acts : List DAct} {id : Int} {j : Nat} (hj : j < acts.length) : srcQ acts id (j : Int) = (fe acts[j].fPatch id).isSome := by
  unfold srcQ
  rw [Int.toNat_natCast, List.getElem?_eq_getElem hj]
theorem sp_src {acts : List DAct} {id : Int} (hk : actsOk acts = true) {x : List Int} (hx : ∀ v ∈ x, ∃ i : Nat, i < acts.length ∧ v = (i : Int)) (hl : x.length ≤ 1000) : ∀ k f, k ≤ x.length → k < f → F_spec_SourceOf_l1 x acts id f ((k : Int) - 1) = some (lastQ (srcQ acts id) (x.take k) (-1), true) := by
  intro k
  induction k with
  | zero =>
    intro f _ hf
    obtain ⟨f, rfl⟩ : ∃ g, f = g + 1 := ⟨f - 1, by omega⟩
    rw [F_spec_SourceOf_l1.eq_2, decide_eq_false (by omega)]
    rfl
  | succ k ih =>
    intro f hk2 hf
    obtain ⟨f, rfl⟩ : ∃ g, f = g + 1 := ⟨f - 1, by omega⟩
    have hi : k < x.length := by omega
    have e : ((k + 1 : Nat) : Int) - 1 = (k : Int) := by omega
    obtain ⟨j, hj, ej⟩ := hx _ (List.getElem_mem hi)
    have hp := act_ok hk (List.getElem_mem hj)
    rw [F_spec_SourceOf_l1.eq_2, e, decide_eq_true (by omega), cond_true, idx_nat hi, ej, idx_nat hj, spEditOf _ _ (Nat.le_trans (pat_len hp) (by decide)), Option.bind_some, fe_kind hp, W_id (by omega) (by omega), ih f (by omega) (by omega), ← List.take_append_getElem hi]
    unfold lastQ
    rw [List.foldl_append, ej]
    simp only [List.foldl_cons, List.foldl_nil]
    rw [srcQ_at hj, idx_nat hi, ej]
    cases (fe acts[j].fPatch id).isSome <;> rfl
theorem im_src {acts : List DAct} {id : Int} (hk : actsOk acts = true) {x : List Int} (hx : ∀ v ∈ x, ∃ i : Nat, i < acts.length ∧ v = (i : Int)) (hl : x.length ≤ 1000) : ∀ k i f, i + k = x.length → k < f → ∀ z, F_impl_SourceOf_l1 x acts id f z (i : Int) = some (lastQ (srcQ acts id) (x.drop i) z, true) := by
  refine up (P := fun i f => ∀ z, F_impl_SourceOf_l1 x acts id f z (i : Int) = some (lastQ (srcQ acts id) (x.drop i) z, true)) (fun f z => ?_) (fun i f hi ih z => ?_)
  · rw [F_impl_SourceOf_l1.eq_2, dlt_f (by omega), List.drop_length]; rfl
  · obtain ⟨j, hj, ej⟩ := hx _ (List.getElem_mem hi)
    have hp := act_ok hk (List.getElem_mem hj)
    rw [F_impl_SourceOf_l1.eq_2, dlt_t hi, cond_true, idx_nat hi, ej, idx_nat hj, imEditOf _ _ (Nat.le_trans (pat_len hp) (by decide)), Option.bind_some, W_succ hi (Nat.le_trans hl (by decide)), ih, ih, List.drop_eq_getElem_cons hi]
    unfold lastQ
    rw [List.foldl_cons, ej, srcQ_at hj]
    cases fe acts[j].fPatch id <;> rfl
theorem art_neg {l : List DArticle} {id : Int} (hs : Srt l) : decide (fidx (fun a : DArticle => a.fId == id) l < 0) = (ft l id == []) := by
  cases hf : l.findIdx? fun a => a.fId == id with
  | none =>
    rw [fidx_none hf]
    rw [List.findIdx?_eq_none_iff] at hf
    rw [ft_none fun u hu => by simpa using hf u hu]
    rfl
  | some k =>
    obtain ⟨hk, hk1, -⟩ := List.findIdx?_eq_some_iff_getElem.1 hf
    have hk1 : l[k].fId = id := by simpa using hk1
    rw [fidx_some hf, decide_eq_false (by omega), ← hk1, ft_mem hs (List.getElem_mem hk)]
    exact (beq_eq_false_iff_ne.2 (hs.2 _ (List.getElem_mem hk)).2.2).symm
theorem eqSource (a : List DArticle) (acts : List DAct) (day id : Int) (h1 : smT a) (h2 : smAs acts) : ∃ r, F_spec_SourceOf a acts day id = some r ∧ F_impl_SourceOf a acts day id = some r := by
  unfold F_spec_SourceOf F_impl_SourceOf F_impl_TextOn
  rw [spBoth a acts h1 h2, imStat a h1, imActs acts h2.1 h2.2, spDay, imDate]
  cases q1 : statOk a
  · exact ⟨_, rfl, rfl⟩
  · cases q2 : actsOk acts
    · exact ⟨_, rfl, rfl⟩
    · cases q3 : within day 0 999
      · exact ⟨_, rfl, rfl⟩
      · obtain ⟨r, e1, e2, s⟩ := eqOn day (stat_srt q1) q2
        have h8 := acts_len q2
        have hll : (lst acts.length (forceC acts day)).length ≤ 1000 := by
          unfold lst
          rw [List.length_map]
          have := List.length_filter_le (forceC acts day) (List.range acts.length)
          rw [List.length_range] at this
          omega
        simp only [Bool.and_self, Bool.not_true, cond_false, Option.bind_some]
        rw [e1, e2, spForce acts day h8, imForce acts day h8]
        simp only [Option.bind_some]
        cases q4 : r.2
        · exact ⟨_, rfl, rfl⟩
        · have hrl : r.1.length ≤ maxLen := Nat.le_trans s.len (by decide)
          simp only [Bool.not_true, cond_false]
          rw [spFind _ _ hrl, imArticle _ _ hrl]
          simp only [Option.bind_some]
          rw [art_neg s]
          cases q5 : ft r.1 id == []
          · simp only [cond_false]
            have w : IntKind.i64.wrap (((lst acts.length (forceC acts day)).length : Int) - 1) = ((lst acts.length (forceC acts day)).length : Int) - 1 := W_id (by omega) (by omega)
            rw [w, sp_src q2 (fun v hv => lst_mem hv) hll (lst acts.length (forceC acts day)).length _ (Nat.le_refl _) (by omega), List.take_length]
            have := im_src (id := id) q2 (fun v hv => lst_mem hv) hll (lst acts.length (forceC acts day)).length 0 ((lst acts.length (forceC acts day)).length + 1) (by omega) (by omega) (-1)
            rw [List.drop_zero] at this
            exact ⟨_, rfl, this⟩
          · exact ⟨_, rfl, rfl⟩
end Go.FX
