/- The pure part: what the functions compute, in plain Lean, with no program in sight; no condition. -/
import Derived.Test.YtbmeejcmbnjncaaSgPure12
namespace Go.FX
open Go Go.GL Go.RowKit
/-! the edits from one statute to another one -/
def stp (id : Int) (a b : Bytes) : DEdit := if a = b then ⟨0, 0, [], []⟩ else if a = [] then ⟨1, id, a, b⟩ else if b = [] then ⟨2, id, a, b⟩ else ⟨3, id, a, b⟩
def edl (id : Int) (a b : Bytes) : List DEdit := if a = b then [] else [stp id a b]
theorem bif_beq {β : Type} {a b : Bytes} {x y : β} : (bif a == b then x else y) = if a = b then x else y := by
  by_cases h : a = b
  · rw [if_pos h, h, beq_self_eq_true]; rfl
  · rw [if_neg h, beq_eq_false_iff_ne.2 h]; rfl
theorem spStep (id : Int) (a b : Bytes) : F_spec_l07Step id a b = some (stp id a b) := by
  unfold F_spec_l07Step stp
  rw [bif_beq, bif_beq, bif_beq]
  by_cases h : a = b
  · rw [if_pos h, if_pos h]
  · rw [if_neg h, if_neg h]
    by_cases h1 : a = []
    · rw [if_pos h1, if_pos h1]
    · rw [if_neg h1, if_neg h1]
      by_cases h2 : b = []
      · rw [if_pos h2, if_pos h2]
      · rw [if_neg h2, if_neg h2]
theorem stp_kind (id : Int) (a b : Bytes) : ((stp id a b).fKind != 0) = !decide (a = b) := by
  unfold stp
  by_cases h : a = b
  · rw [if_pos h, decide_eq_true h]; rfl
  · rw [if_neg h, decide_eq_false h]
    split
    · rfl
    · split <;> rfl
theorem edl_len (id : Int) (a b : Bytes) : (edl id a b).length ≤ 1 := by unfold edl; split <;> simp
theorem edl_eq (id : Int) (a b : Bytes) : edl id a b = if ((stp id a b).fKind != 0) = true then [stp id a b] else [] := by
  rw [stp_kind]
  unfold edl
  by_cases h : a = b
  · rw [if_pos h, decide_eq_true h]; rfl
  · rw [if_neg h, decide_eq_false h]; rfl
def diff (a b : List DArticle) : List DEdit := (List.range 99).flatMap fun i => edl ((i + 1 : Nat) : Int) (ft a ((i + 1 : Nat) : Int)) (ft b ((i + 1 : Nat) : Int))
theorem spDiff (a b : List DArticle) (ha : a.length ≤ maxLen) (hb : b.length ≤ maxLen) : F_spec_l07Diff a b = some (diff a b) := by
  have := app_loop (n := 99) (b := 1) (F := fun f acc i => F_spec_l07Diff_l1 a b f acc (i + 1)) (fun i => edl ((i + 1 : Nat) : Int) (ft a ((i + 1 : Nat) : Int)) (ft b ((i + 1 : Nat) : Int))) some 0 (fun i _ => edl_len _ _ _) (fun f acc => ?_) (fun f acc i hi hacc => ?_) (m := 100) (acc := []) (by omega) (Nat.le_refl _)
  · exact this
  · show F_spec_l07Diff_l1 a b (f + 1) acc 100 = _
    rw [F_spec_l07Diff_l1.eq_2]; rfl
  · show F_spec_l07Diff_l1 a b (f + 1) acc ((i + 1 : Nat) : Int) = F_spec_l07Diff_l1 a b f _ ((i + 1 + 1 : Nat) : Int)
    rw [F_spec_l07Diff_l1.eq_2, decide_eq_true (show ((i + 1 : Nat) : Int) ≤ 99 by omega), cond_true, spFind a _ ha, Option.bind_some, spFind b _ hb, Option.bind_some, spStep, Option.bind_some, W_succ (n := 1000) (i := i + 1) (by omega) (by decide), edl_eq]
    cases (stp ((i + 1 : Nat) : Int) (ft a ((i + 1 : Nat) : Int)) (ft b ((i + 1 : Nat) : Int))).fKind != 0 with
    | false => rw [cond_false, if_neg (by decide), List.append_nil]
    | true => rw [cond_true, if_pos rfl, app_ok (by simp; omega)]
theorem diff_self (a : List DArticle) : diff a a = [] := by
  unfold diff
  rw [List.flatMap_eq_nil_iff]
  intro i _
  unfold edl
  rw [if_pos rfl]
theorem diff_ext {a b : List DArticle} (ha : Srt a) (hb : Srt b) (h : diff a b = []) : a = b := by
  refine Srt.ext ha hb fun x => ?_
  by_cases hx : 1 ≤ x ∧ x ≤ 99
  · unfold diff at h
    have := List.flatMap_eq_nil_iff.1 h (x.toNat - 1) (List.mem_range.2 (by omega))
    have e : ((x.toNat - 1 + 1 : Nat) : Int) = x := by omega
    rw [e] at this
    unfold edl at this
    split at this
    · assumption
    · cases this
  · rw [ft_none fun c hc e => hx (by have := ha.2 c hc; omega), ft_none fun c hc e => hx (by have := hb.2 c hc; omega)]
theorem diff_dec {a b : List DArticle} (ha : Srt a) (hb : Srt b) : decide (((diff a b).length : Int) > 0) = !decide (a = b) := by
  by_cases h : a = b
  · subst h
    rw [diff_self, decide_eq_true rfl]; rfl
  · rw [decide_eq_false h]
    refine decide_eq_true ?_
    have : (diff a b).length ≠ 0 := fun e => h (diff_ext ha hb (List.length_eq_zero_iff.1 e))
    omega
theorem sliEq {a b : List DArticle} (h : a.length ≤ maxLen) : F_slices_Equal_impl_Article_impl_Article a b = some (decide (a = b)) :=
  eqS_eq (F := F_slices_Equal_impl_Article_impl_Article_l1 a b) (E := fun x y => some (x == y)) (fun f i => by rw [F_slices_Equal_impl_Article_impl_Article_l1.eq_2]; rfl) h (fun _ _ _ _ => rfl)
/-! between two turns nothing changes -/
theorem force_same {acts : List DAct} {x y : Int} (h : ∀ c ∈ acts, (c.fFrom ≤ x ↔ c.fFrom ≤ y) ∧ (c.fUntil ≤ x ↔ c.fUntil ≤ y)) : forceC acts x = forceC acts y := by
  funext i
  unfold forceC
  split
  · rename_i c hc
    obtain ⟨h1, h2⟩ := h c (List.mem_of_getElem? hc)
    rw [decide_eq_decide.2 h1, show decide (x < c.fUntil) = decide (y < c.fUntil) from decide_eq_decide.2 (by omega)]
  · rfl
theorem on_same {a : List DArticle} {acts : List DAct} {x y : Int} (h8 : acts.length ≤ 8) (h : forceC acts x = forceC acts y) : F_impl_textOn a acts x = F_impl_textOn a acts y := by
  unfold F_impl_textOn
  rw [imForce acts x h8, imForce acts y h8, h]
theorem act_rng {l : List DAct} (h : actsOk l = true) {a : DAct} (ha : a ∈ l) : (0 ≤ a.fFrom ∧ a.fFrom ≤ 1000) ∧ (0 ≤ a.fUntil ∧ a.fUntil ≤ 1000) := by
  unfold actsOk at h
  rw [Bool.and_eq_true, decide_eq_true_eq] at h
  obtain ⟨i, hi, rfl⟩ := List.getElem_of_mem ha
  have := h.1 i hi
  rw [actC_at hi] at this
  unfold within at this
  simp only [Bool.and_eq_true, decide_eq_true_eq] at this
  omega
theorem turns_has {acts : List DAct} {c : DAct} (hc : c ∈ acts) {d : Int} (hd : d = c.fFrom ∨ d = c.fUntil) (h0 : 0 ≤ d) (h9 : d ≤ 999) : d ∈ turnsL acts := by
  unfold turnsL
  refine putAll_mem.2 (.inr (List.mem_flatMap.2 ⟨c, hc, ?_⟩))
  unfold datesOf
  rcases hd with rfl | rfl
  · refine List.mem_append_left _ ?_
    rw [if_pos (by unfold within; rw [decide_eq_true h0, decide_eq_true h9]; rfl)]
    exact List.mem_singleton.2 rfl
  · refine List.mem_append_right _ ?_
    rw [if_pos (by unfold within; rw [decide_eq_true h0, decide_eq_true h9]; rfl)]
    exact List.mem_singleton.2 rfl
theorem inc_gap {D : List Int} (hD : Inc D) {i : Nat} (hi : i + 1 < D.length) {d : Int} (h : d ∈ D) : d ≤ D[i] ∨ D[i + 1] ≤ d := by
  obtain ⟨j, hj, rfl⟩ := List.getElem_of_mem h
  have hpw := List.pairwise_iff_getElem.1 hD
  rcases Nat.lt_trichotomy j i with h1 | h1 | h1
  · have := hpw j i hj (by omega) h1; omega
  · subst h1; omega
  · rcases Nat.lt_trichotomy (i + 1) j with h2 | h2 | h2
    · have := hpw (i + 1) j hi hj h2; omega
    · subst h2; omega
    · omega
theorem gap_same {a : List DArticle} {acts : List DAct} (hk : actsOk acts = true) {i : Nat} (hi : i + 1 < (turnsL acts).length) : F_impl_textOn a acts ((turnsL acts)[i + 1] - 1) = F_impl_textOn a acts (turnsL acts)[i] := by
  have h1 := turns_rng (List.getElem_mem hi)
  have h2 := turns_rng (List.getElem_mem (show i < (turnsL acts).length by omega))
  have h3 := List.pairwise_iff_getElem.1 (turns_inc acts) i (i + 1) (by omega) hi (by omega)
  refine on_same (acts_len hk) (force_same fun c hc => ?_)
  obtain ⟨r1, r2⟩ := act_rng hk hc
  have key : ∀ d, (d = c.fFrom ∨ d = c.fUntil) → 0 ≤ d ∧ d ≤ 1000 → (d ≤ (turnsL acts)[i + 1] - 1 ↔ d ≤ (turnsL acts)[i]) := by
    intro d hd hr
    by_cases h9 : d ≤ 999
    · have := inc_gap (turns_inc acts) hi (turns_has hc hd hr.1 h9)
      omega
    · omega
  exact ⟨key _ (.inl rfl) r1, key _ (.inr rfl) r2⟩
theorem cd_loop {a : List DArticle} {acts : List DAct} (hs : Srt a) (hk : actsOk acts = true) {V : List Int} (hV : List.drop (Int.toNat 1) (List.take (Int.toNat ((turnsL acts).length : Int)) (turnsL acts)) = V) (hl : V.length + 1 = (turnsL acts).length) (hg : ∀ i (h : i < V.length) (h2 : i + 1 < (turnsL acts).length), V[i] = (turnsL acts)[i + 1]) :
    ∀ k i f, i + k = V.length → k < f → ∀ l : List Int, l.length ≤ i → ∃ r, F_spec_ChangeDays_l1 (turnsL acts) a acts (f + 1) l ((i + 1 : Nat) : Int) = some (r, true) ∧ F_impl_ChangeDays_l1 (turnsL acts) a acts f l (i : Int) = some (r, true) ∧ r.length ≤ V.length := by
  have h17 := turns_len (acts_len hk)
  refine up (P := fun i f => ∀ l : List Int, l.length ≤ i → ∃ r, F_spec_ChangeDays_l1 (turnsL acts) a acts (f + 1) l ((i + 1 : Nat) : Int) = some (r, true) ∧ F_impl_ChangeDays_l1 (turnsL acts) a acts f l (i : Int) = some (r, true) ∧ r.length ≤ V.length) (fun f l hll => ?_) (fun i f hi ih l hll => ?_)
  · rw [F_spec_ChangeDays_l1.eq_2, F_impl_ChangeDays_l1.eq_2, hV, dlt_f (by omega), dlt_f (by omega)]
    exact ⟨l, rfl, rfl, by omega⟩
  · have hi1 : i + 1 < (turnsL acts).length := by omega
    have hi0 : i < (turnsL acts).length := by omega
    obtain ⟨d1, d2⟩ := turns_rng (List.getElem_mem hi1)
    obtain ⟨r1, e1, e2, s1⟩ := eqOn (turnsL acts)[i] hs hk
    obtain ⟨r2, e3, e4, s2⟩ := eqOn (turnsL acts)[i + 1] hs hk
    have l1 := s1.len
    have l2 := s2.len
    rw [F_spec_ChangeDays_l1.eq_2, F_impl_ChangeDays_l1.eq_2, hV, dlt_t hi1, dlt_t hi, cond_true, cond_true, W_id (n := ((i + 1 : Nat) : Int) - 1) (by omega) (by omega), show ((i + 1 : Nat) : Int) - 1 = (i : Int) by omega, idx_nat hi0, e1, Option.bind_some, idx_nat hi1, e3, Option.bind_some, spDiff _ _ (by unfold maxLen; omega) (by unfold maxLen; omega), Option.bind_some, diff_dec s1 s2,
      idx_nat hi, hg i hi hi1, W_id (n := (turnsL acts)[i + 1] - 1) (by omega) (by omega), gap_same hk hi1, e2, Option.bind_some, e4, Option.bind_some, sliEq (by unfold maxLen; omega), Option.bind_some, W_succ (n := 1000) (i := i) (by omega) (by decide), W_succ (n := 1000) (i := i + 1) (by omega) (by decide)]
    cases !decide (r1.1 = r2.1)
    · rw [cond_false, cond_false]
      exact ih l (by omega)
    · rw [cond_true, cond_true, idx_nat hi1, app_ok (by simp; omega), app_ok (by simp; omega)]
      exact ih _ (by simp; omega)
theorem eqChangeDays (a : List DArticle) (acts : List DAct) (h1 : smT a) (h2 : smAs acts) : ∃ r, F_spec_ChangeDays a acts = some r ∧ F_impl_ChangeDays a acts = some r ∧ r.1.length ≤ 1048576 := by
  unfold F_spec_ChangeDays F_impl_ChangeDays
  rw [spBoth a acts h1 h2, imStat a h1, imActs acts h2.1 h2.2]
  cases q1 : statOk a
  · exact ⟨_, rfl, rfl, by simp⟩
  · cases q2 : actsOk acts
    · exact ⟨_, rfl, rfl, by simp⟩
    · obtain ⟨r, e1, e2, e3, e4⟩ := eqBroken (stat_srt q1) q2
      have h8 := acts_len q2
      have hl := turns_len h8
      simp only [Bool.and_self, Bool.not_true, cond_false, Option.bind_some]
      rw [e1, e2]
      simp only [Option.bind_some]
      cases decide ((r.length : Int) > 0)
      · simp only [cond_false]
        rw [spTurns h8, imTurns h8, Option.bind_some, Option.bind_some]
        have hne : (turnsL acts) ≠ [] := List.ne_nil_of_mem (a := 0) (by unfold turnsL; exact putAll_mem.2 (.inl (List.mem_singleton.2 rfl)))
        have hp := List.length_pos_iff.2 hne
        have hV : List.drop (Int.toNat 1) (List.take (Int.toNat ((turnsL acts).length : Int)) (turnsL acts)) = (turnsL acts).drop 1 := by
          rw [Int.toNat_natCast, List.take_of_length_le (Nat.le_refl _)]; rfl
        obtain ⟨r', f1, f2, f3⟩ := cd_loop (stat_srt q1) q2 hV (by rw [List.length_drop]; omega) (fun i h h2 => by rw [List.getElem_drop]; congr 1; omega) ((turnsL acts).drop 1).length 0 (((turnsL acts).drop 1).length + 1) (by omega) (by omega) [] (Nat.le_refl _)
        rw [List.length_drop] at f3
        refine ⟨(r', true), ?_, ?_, by show r'.length ≤ 1048576; omega⟩
        · have ef : Int.toNat (((turnsL acts).length : Int) - 1) + 2 = ((turnsL acts).drop 1).length + 1 + 1 := by rw [List.length_drop]; omega
          rw [ef]
          exact f1
        · refine Eq.trans (sub_ok (i := 1) hp (Nat.le_refl _)) ?_
          rw [hV]
          exact f2
      · exact ⟨_, rfl, rfl, by simp⟩
end Go.FX
