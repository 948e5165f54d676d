/- The pure part: what the functions compute, in plain Lean, with no program in sight; no condition. -/
import Derived.Test.YtbmeejcmbnjncaaSgPure11
namespace Go.FX
open Go Go.GL Go.RowKit
theorem eqBroken {a : List DArticle} {acts : List DAct} (hs : Srt a) (hk : actsOk acts = true) : ∃ r, F_spec_l07Broken a acts = some r ∧ F_impl_broken a acts = some r ∧ r.length ≤ 17 ∧ ∀ u ∈ r, u.length = 2 := by
  have h8 := acts_len hk
  have hl := turns_len h8
  unfold F_spec_l07Broken F_impl_broken
  rw [spTurns h8, imTurns h8, Option.bind_some, Option.bind_some]
  obtain ⟨r, e1, e2, e3, e4⟩ := brk_loop hs hk (turns_inc acts) (fun x hx => turns_rng hx) hl (turnsL acts).length 0 ((turnsL acts).length + 1) (by omega) (by omega) [] false (Nat.le_refl _) (fun _ => .inl ⟨rfl, rfl⟩)
  refine ⟨r, e1, e2, by omega, fun u hu => ?_⟩
  rcases e4 u hu with h | h
  · cases h
  · exact h
end Go.FX
