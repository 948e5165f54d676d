/- The pure part: what the functions compute, in plain Lean, with no program in sight; no condition. -/
import Derived.Test.YthgmjhiccdjboaaSePure11
namespace Go.FX
open Go Go.GL Go.RowKit
theorem eqBroken {a : List DArticle} {acts : List DAct} (hs : Srt a) (hk : actsOk acts = true) : ∃ r, F_spec_l07Broken a acts = some r ∧ F_impl_broken a acts = some r ∧ r.length ≤ 17 ∧ ∀ u ∈ r, u.length = 2 := by
  have h8 := acts_len hk
  have hl := turns_len h8
  unfold F_spec_l07Broken F_impl_broken
  rw [spTurns h8, imTurns h8, Option.bind_some, Option.bind_some]
  obtain ⟨r, e1, e2, e3, e4⟩ := brk_loop hs hk (turns_inc acts) (fun x hx => turns_rng hx) hl (turnsL acts).length 0 ((turnsL acts).length + 1) (by omega) (by omega) [] false (Nat.le_refl _) (fun _ => .inl ⟨rfl, rfl⟩)
  refine ⟨r, e1, e2, by omega, fun u hu => ?_⟩
  rcases e4 u hu with h | h
  · cases h
  · exact h
theorem eqBrokenDays (a : List DArticle) (acts : List DAct) (h1 : smT a) (h2 : smAs acts) : ∃ r, F_spec_BrokenDays a acts = some r ∧ F_impl_BrokenDays a acts = some r ∧ (r.1.length + (r.1.map fun e : List Int => e.length).sum) ≤ 1048576 := by
  unfold F_spec_BrokenDays F_impl_BrokenDays
  rw [spBoth a acts h1 h2, imStat a h1, imActs acts h2.1 h2.2]
  cases q1 : statOk a
  · exact ⟨_, rfl, rfl, by simp⟩
  · cases q2 : actsOk acts
    · exact ⟨_, rfl, rfl, by simp⟩
    · obtain ⟨r, e1, e2, e3, e4⟩ := eqBroken (stat_srt q1) q2
      simp only [Bool.and_self, Bool.not_true, cond_false, Option.bind_some]
      rw [e1, e2]
      refine ⟨_, rfl, rfl, ?_⟩
      have key : ∀ l : List (List Int), (∀ u ∈ l, u.length = 2) → (l.map fun e : List Int => e.length).sum = l.length * 2 := by
        intro l
        induction l with
        | nil => intro _; rfl
        | cons x l ih =>
          intro h
          rw [List.map_cons, List.sum_cons, ih fun u hu => h u (List.mem_cons_of_mem _ hu), h x (List.mem_cons_self ..), List.length_cons]
          omega
      show r.length + (r.map fun e : List Int => e.length).sum ≤ 1048576
      rw [key r e4]
      omega
end Go.FX
