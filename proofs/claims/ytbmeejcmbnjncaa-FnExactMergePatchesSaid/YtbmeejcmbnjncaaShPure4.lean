/- The pure part: what the functions compute, in plain Lean, with no program in sight; no condition. -/
import Derived.Test.YtbmeejcmbnjncaaShPure3
namespace Go.FX
open Go Go.GL Go.RowKit
/-! a statute by the texts of its Ids -/
def Srt (l : List DArticle) : Prop := l.Pairwise (fun a b => a.fId < b.fId) ∧ ∀ a ∈ l, 1 ≤ a.fId ∧ a.fId ≤ 99 ∧ a.fText ≠ []
theorem Srt.nil : Srt [] := ⟨List.Pairwise.nil, fun _ h => by cases h⟩
end Go.FX
