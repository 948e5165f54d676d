/- The pure part: what the functions compute, in plain Lean, with no program in sight; no condition. -/
import Derived.Test.YthgmjhiccdjboaaDoorTaPure4
namespace Go.FX
open Go Go.GL Go.RowKit
theorem law_StatuteText (a0 : (List LArticle)) (g0 : (a0.length ≤ maxLen ∧ ∀ e0 ∈ a0, ok_LArticle e0)) : F_laws_FnExactStatuteText a0 = some true := by
  unfold F_laws_FnExactStatuteText
  rw [sz_ArticleS a0 g0 _ (by omega) (by omega), Option.bind_some]
  by_cases x0 : dec 1048576 ((a0.length + (a0.map bk_LArticle).sum)) < 0
  · rw [decide_eq_true x0]; rfl
  have y0 := dec_nn x0
  rw [decide_eq_false x0, cond_false]
  have b0 : (a0.length + (a0.map bk_LArticle).sum) ≤ 1048576 := by omega
  have z0 := Nat.le_trans (ctle_ArticleS a0) b0
  have q0 := eq_ArticleS (a0.map to_LArticle) (a0.map to_LArticle) (smto_ArticleS a0 b0)
  rw [decide_eq_true rfl] at q0
  obtain ⟨r, e1, e2⟩ := eqStatText (a0.map to_LArticle) (smT_to g0)
  simp only [to_ArticleS a0 b0, q0, e1, e2, Option.bind_some, bne_self_eq_false, Bool.not_true, cond_false]
  rfl
theorem law_PatchText (a0 : (List LEdit)) (g0 : (a0.length ≤ maxLen ∧ ∀ e0 ∈ a0, ok_LEdit e0)) : F_laws_FnExactPatchText a0 = some true := by
  unfold F_laws_FnExactPatchText
  rw [sz_EditS a0 g0 _ (by omega) (by omega), Option.bind_some]
  by_cases x0 : dec 1048576 ((a0.length + (a0.map bk_LEdit).sum)) < 0
  · rw [decide_eq_true x0]; rfl
  have y0 := dec_nn x0
  rw [decide_eq_false x0, cond_false]
  have b0 : (a0.length + (a0.map bk_LEdit).sum) ≤ 1048576 := by omega
  have z0 := Nat.le_trans (ctle_EditS a0) b0
  have q0 := eq_EditS (a0.map to_LEdit) (a0.map to_LEdit) (smto_EditS a0 b0)
  rw [decide_eq_true rfl] at q0
  obtain ⟨r, e1, e2⟩ := eqPatText (a0.map to_LEdit) (smEs_to g0)
  simp only [to_EditS a0 b0, q0, e1, e2, Option.bind_some, bne_self_eq_false, Bool.not_true, cond_false]
  rfl
end Go.FX
