/-
  No cell of these rows narrows 'for every input' (looked for: loops, veiled, ifaces, maps, wideKeys, modest, calm, conditions, laid).
  DERIVED. THE GIVEN ROWS OF THIS SEAT. 11 by the template 'for every input the law returns true; each argument reads behind the call as it read before'; 0 by the template 'total and deterministic' (their statements: YtegfiapfgffcgaaTotals.lean).
  GIVEN WITH THE SEED: the statements are not yours to turn. If you find one false, say at which input.
  Laid BY PROGRAM, IN A SANDBOX (cutbox-rows.mjs): the forced cells as the released guide's own fill.sh prints them over the translation 9cbb104fdbf7274b… (all of the seat's roots in one cut). By AI agents, Wed Nov 11 2026. No macro, syntax, notation, axiom, sorry.
-/
import Derived.Test.YtegfiapfgffcgaaChecked
import GoSem.Claim
import GoSem.ClaimJoined
import GoSem.ClaimMapViews
import Derived.JoinedTies
import Derived.KernelRfl
namespace Go.Proofs.Ytegfiapfgffcgaa
/- THE CELL 'sum', in the pinned program and in every row, IS THE sha256 OF THE DUMP (.gsa) THAT YtegfiapfgffcgaaProg.lean LOADS. Nothing in Lean hashes anything: it is a label: what it is worth is what the hold of that sum in a sandbox is worth. -/
noncomputable def Try.pinned : Pinned := { name := "ytegfiapfgffcgaa", sum := "9cbb104fdbf7274b0f4d434fdb53ac2c558a8481c0fceaf395d06e445c1267fd", checked := Try.checked }
namespace Rows
def none {H : Type} : Left H := { results := [], args := [] }

/-- 'laws.FnExactApprovedIn': WHATEVER THE INPUT: true; the input reads as it did. -/
def fnExactApprovedInSpec : ChangeSpec := { name := "fnExactApprovedIn", fn := fun _ => fun
  | [d1, d2] => { results := [.lit (.bool true)], args := [d1, d2] }
  | _ => none }
def fnExactApprovedInRow : OpenClaim := { program := "ytegfiapfgffcgaa", sum := "9cbb104fdbf7274b0f4d434fdb53ac2c558a8481c0fceaf395d06e445c1267fd", func := "loop.example/g01095/laws.FnExactApprovedIn", spec := "fnExactApprovedIn", unfollowed := true, recurses := true, apart := false }
def FnExactApprovedInSaid : Prop := fnExactApprovedInRow.holds Try.pinned (OpenSpec.ofChange fnExactApprovedInSpec)

/-- ITS FALSE NEIGHBOUR: 'it returns false'. Refute it at one input. -/
def fnExactApprovedInWrong : ChangeSpec := { name := "fnExactApprovedIn", fn := fun _ => fun
  | [d1, d2] => { results := [.lit (.bool false)], args := [d1, d2] }
  | _ => none }
def FnExactApprovedInWrongFalsely : Prop := fnExactApprovedInRow.holds Try.pinned (OpenSpec.ofChange fnExactApprovedInWrong)

/-- 'laws.FnExactGreedyBudget': WHATEVER THE INPUT: true; the input reads as it did. -/
def fnExactGreedyBudgetSpec : ChangeSpec := { name := "fnExactGreedyBudget", fn := fun _ => fun
  | [d] => { results := [.lit (.bool true)], args := [d] }
  | _ => none }
def fnExactGreedyBudgetRow : OpenClaim := { program := "ytegfiapfgffcgaa", sum := "9cbb104fdbf7274b0f4d434fdb53ac2c558a8481c0fceaf395d06e445c1267fd", func := "loop.example/g01095/laws.FnExactGreedyBudget", spec := "fnExactGreedyBudget", unfollowed := true, recurses := true, apart := false }
def FnExactGreedyBudgetSaid : Prop := fnExactGreedyBudgetRow.holds Try.pinned (OpenSpec.ofChange fnExactGreedyBudgetSpec)

/-- ITS FALSE NEIGHBOUR: 'it returns false'. Refute it at one input. -/
def fnExactGreedyBudgetWrong : ChangeSpec := { name := "fnExactGreedyBudget", fn := fun _ => fun
  | [d] => { results := [.lit (.bool false)], args := [d] }
  | _ => none }
def FnExactGreedyBudgetWrongFalsely : Prop := fnExactGreedyBudgetRow.holds Try.pinned (OpenSpec.ofChange fnExactGreedyBudgetWrong)

/-- 'laws.FnExactPhragmenOrder': WHATEVER THE INPUT: true; the input reads as it did. -/
def fnExactPhragmenOrderSpec : ChangeSpec := { name := "fnExactPhragmenOrder", fn := fun _ => fun
  | [d] => { results := [.lit (.bool true)], args := [d] }
  | _ => none }
def fnExactPhragmenOrderRow : OpenClaim := { program := "ytegfiapfgffcgaa", sum := "9cbb104fdbf7274b0f4d434fdb53ac2c558a8481c0fceaf395d06e445c1267fd", func := "loop.example/g01095/laws.FnExactPhragmenOrder", spec := "fnExactPhragmenOrder", unfollowed := true, recurses := true, apart := false }
def FnExactPhragmenOrderSaid : Prop := fnExactPhragmenOrderRow.holds Try.pinned (OpenSpec.ofChange fnExactPhragmenOrderSpec)

/-- ITS FALSE NEIGHBOUR: 'it returns false'. Refute it at one input. -/
def fnExactPhragmenOrderWrong : ChangeSpec := { name := "fnExactPhragmenOrder", fn := fun _ => fun
  | [d] => { results := [.lit (.bool false)], args := [d] }
  | _ => none }
def FnExactPhragmenOrderWrongFalsely : Prop := fnExactPhragmenOrderRow.holds Try.pinned (OpenSpec.ofChange fnExactPhragmenOrderWrong)

/-- 'laws.FnExactIsPaid': WHATEVER THE INPUT: true; the input reads as it did. -/
def fnExactIsPaidSpec : ChangeSpec := { name := "fnExactIsPaid", fn := fun _ => fun
  | [d1, d2, d3] => { results := [.lit (.bool true)], args := [d1, d2, d3] }
  | _ => none }
def fnExactIsPaidRow : OpenClaim := { program := "ytegfiapfgffcgaa", sum := "9cbb104fdbf7274b0f4d434fdb53ac2c558a8481c0fceaf395d06e445c1267fd", func := "loop.example/g01095/laws.FnExactIsPaid", spec := "fnExactIsPaid", unfollowed := true, recurses := true, apart := false }
def FnExactIsPaidSaid : Prop := fnExactIsPaidRow.holds Try.pinned (OpenSpec.ofChange fnExactIsPaidSpec)

/-- ITS FALSE NEIGHBOUR: 'it returns false'. Refute it at one input. -/
def fnExactIsPaidWrong : ChangeSpec := { name := "fnExactIsPaid", fn := fun _ => fun
  | [d1, d2, d3] => { results := [.lit (.bool false)], args := [d1, d2, d3] }
  | _ => none }
def FnExactIsPaidWrongFalsely : Prop := fnExactIsPaidRow.holds Try.pinned (OpenSpec.ofChange fnExactIsPaidWrong)

/-- 'laws.FnExactIsStable': WHATEVER THE INPUT: true; the input reads as it did. -/
def fnExactIsStableSpec : ChangeSpec := { name := "fnExactIsStable", fn := fun _ => fun
  | [d1, d2, d3] => { results := [.lit (.bool true)], args := [d1, d2, d3] }
  | _ => none }
def fnExactIsStableRow : OpenClaim := { program := "ytegfiapfgffcgaa", sum := "9cbb104fdbf7274b0f4d434fdb53ac2c558a8481c0fceaf395d06e445c1267fd", func := "loop.example/g01095/laws.FnExactIsStable", spec := "fnExactIsStable", unfollowed := true, recurses := true, apart := false }
def FnExactIsStableSaid : Prop := fnExactIsStableRow.holds Try.pinned (OpenSpec.ofChange fnExactIsStableSpec)

/-- ITS FALSE NEIGHBOUR: 'it returns false'. Refute it at one input. -/
def fnExactIsStableWrong : ChangeSpec := { name := "fnExactIsStable", fn := fun _ => fun
  | [d1, d2, d3] => { results := [.lit (.bool false)], args := [d1, d2, d3] }
  | _ => none }
def FnExactIsStableWrongFalsely : Prop := fnExactIsStableRow.holds Try.pinned (OpenSpec.ofChange fnExactIsStableWrong)

/-- 'laws.FnExactUnjustifiedGroup': WHATEVER THE INPUT: true; the input reads as it did. -/
def fnExactUnjustifiedGroupSpec : ChangeSpec := { name := "fnExactUnjustifiedGroup", fn := fun _ => fun
  | [d1, d2] => { results := [.lit (.bool true)], args := [d1, d2] }
  | _ => none }
def fnExactUnjustifiedGroupRow : OpenClaim := { program := "ytegfiapfgffcgaa", sum := "9cbb104fdbf7274b0f4d434fdb53ac2c558a8481c0fceaf395d06e445c1267fd", func := "loop.example/g01095/laws.FnExactUnjustifiedGroup", spec := "fnExactUnjustifiedGroup", unfollowed := true, recurses := true, apart := false }
def FnExactUnjustifiedGroupSaid : Prop := fnExactUnjustifiedGroupRow.holds Try.pinned (OpenSpec.ofChange fnExactUnjustifiedGroupSpec)

/-- ITS FALSE NEIGHBOUR: 'it returns false'. Refute it at one input. -/
def fnExactUnjustifiedGroupWrong : ChangeSpec := { name := "fnExactUnjustifiedGroup", fn := fun _ => fun
  | [d1, d2] => { results := [.lit (.bool false)], args := [d1, d2] }
  | _ => none }
def FnExactUnjustifiedGroupWrongFalsely : Prop := fnExactUnjustifiedGroupRow.holds Try.pinned (OpenSpec.ofChange fnExactUnjustifiedGroupWrong)

/-- 'laws.FnExactPriceAfter': WHATEVER THE INPUT: true; the input reads as it did. -/
def fnExactPriceAfterSpec : ChangeSpec := { name := "fnExactPriceAfter", fn := fun _ => fun
  | [d1, d2, d3] => { results := [.lit (.bool true)], args := [d1, d2, d3] }
  | _ => none }
def fnExactPriceAfterRow : OpenClaim := { program := "ytegfiapfgffcgaa", sum := "9cbb104fdbf7274b0f4d434fdb53ac2c558a8481c0fceaf395d06e445c1267fd", func := "loop.example/g01095/laws.FnExactPriceAfter", spec := "fnExactPriceAfter", unfollowed := true, recurses := true, apart := false }
def FnExactPriceAfterSaid : Prop := fnExactPriceAfterRow.holds Try.pinned (OpenSpec.ofChange fnExactPriceAfterSpec)

/-- ITS FALSE NEIGHBOUR: 'it returns false'. Refute it at one input. -/
def fnExactPriceAfterWrong : ChangeSpec := { name := "fnExactPriceAfter", fn := fun _ => fun
  | [d1, d2, d3] => { results := [.lit (.bool false)], args := [d1, d2, d3] }
  | _ => none }
def FnExactPriceAfterWrongFalsely : Prop := fnExactPriceAfterRow.holds Try.pinned (OpenSpec.ofChange fnExactPriceAfterWrong)

/-- 'laws.FnExactEqualShares': WHATEVER THE INPUT: true; the input reads as it did. -/
def fnExactEqualSharesSpec : ChangeSpec := { name := "fnExactEqualShares", fn := fun _ => fun
  | [d] => { results := [.lit (.bool true)], args := [d] }
  | _ => none }
def fnExactEqualSharesRow : OpenClaim := { program := "ytegfiapfgffcgaa", sum := "9cbb104fdbf7274b0f4d434fdb53ac2c558a8481c0fceaf395d06e445c1267fd", func := "loop.example/g01095/laws.FnExactEqualShares", spec := "fnExactEqualShares", unfollowed := true, recurses := true, apart := false }
def FnExactEqualSharesSaid : Prop := fnExactEqualSharesRow.holds Try.pinned (OpenSpec.ofChange fnExactEqualSharesSpec)

/-- ITS FALSE NEIGHBOUR: 'it returns false'. Refute it at one input. -/
def fnExactEqualSharesWrong : ChangeSpec := { name := "fnExactEqualShares", fn := fun _ => fun
  | [d] => { results := [.lit (.bool false)], args := [d] }
  | _ => none }
def FnExactEqualSharesWrongFalsely : Prop := fnExactEqualSharesRow.holds Try.pinned (OpenSpec.ofChange fnExactEqualSharesWrong)

/-- 'laws.FnExactPursesAfter': WHATEVER THE INPUT: true; the input reads as it did. -/
def fnExactPursesAfterSpec : ChangeSpec := { name := "fnExactPursesAfter", fn := fun _ => fun
  | [d1, d2] => { results := [.lit (.bool true)], args := [d1, d2] }
  | _ => none }
def fnExactPursesAfterRow : OpenClaim := { program := "ytegfiapfgffcgaa", sum := "9cbb104fdbf7274b0f4d434fdb53ac2c558a8481c0fceaf395d06e445c1267fd", func := "loop.example/g01095/laws.FnExactPursesAfter", spec := "fnExactPursesAfter", unfollowed := true, recurses := true, apart := false }
def FnExactPursesAfterSaid : Prop := fnExactPursesAfterRow.holds Try.pinned (OpenSpec.ofChange fnExactPursesAfterSpec)

/-- ITS FALSE NEIGHBOUR: 'it returns false'. Refute it at one input. -/
def fnExactPursesAfterWrong : ChangeSpec := { name := "fnExactPursesAfter", fn := fun _ => fun
  | [d1, d2] => { results := [.lit (.bool false)], args := [d1, d2] }
  | _ => none }
def FnExactPursesAfterWrongFalsely : Prop := fnExactPursesAfterRow.holds Try.pinned (OpenSpec.ofChange fnExactPursesAfterWrong)

/-- 'laws.FnExactCompletedShares': WHATEVER THE INPUT: true; the input reads as it did. -/
def fnExactCompletedSharesSpec : ChangeSpec := { name := "fnExactCompletedShares", fn := fun _ => fun
  | [d] => { results := [.lit (.bool true)], args := [d] }
  | _ => none }
def fnExactCompletedSharesRow : OpenClaim := { program := "ytegfiapfgffcgaa", sum := "9cbb104fdbf7274b0f4d434fdb53ac2c558a8481c0fceaf395d06e445c1267fd", func := "loop.example/g01095/laws.FnExactCompletedShares", spec := "fnExactCompletedShares", unfollowed := true, recurses := true, apart := false }
def FnExactCompletedSharesSaid : Prop := fnExactCompletedSharesRow.holds Try.pinned (OpenSpec.ofChange fnExactCompletedSharesSpec)

/-- ITS FALSE NEIGHBOUR: 'it returns false'. Refute it at one input. -/
def fnExactCompletedSharesWrong : ChangeSpec := { name := "fnExactCompletedShares", fn := fun _ => fun
  | [d] => { results := [.lit (.bool false)], args := [d] }
  | _ => none }
def FnExactCompletedSharesWrongFalsely : Prop := fnExactCompletedSharesRow.holds Try.pinned (OpenSpec.ofChange fnExactCompletedSharesWrong)

/-- 'laws.FnExactPaymentsOf': WHATEVER THE INPUT: true; the input reads as it did. -/
def fnExactPaymentsOfSpec : ChangeSpec := { name := "fnExactPaymentsOf", fn := fun _ => fun
  | [d1, d2] => { results := [.lit (.bool true)], args := [d1, d2] }
  | _ => none }
def fnExactPaymentsOfRow : OpenClaim := { program := "ytegfiapfgffcgaa", sum := "9cbb104fdbf7274b0f4d434fdb53ac2c558a8481c0fceaf395d06e445c1267fd", func := "loop.example/g01095/laws.FnExactPaymentsOf", spec := "fnExactPaymentsOf", unfollowed := true, recurses := true, apart := false }
def FnExactPaymentsOfSaid : Prop := fnExactPaymentsOfRow.holds Try.pinned (OpenSpec.ofChange fnExactPaymentsOfSpec)

/-- ITS FALSE NEIGHBOUR: 'it returns false'. Refute it at one input. -/
def fnExactPaymentsOfWrong : ChangeSpec := { name := "fnExactPaymentsOf", fn := fun _ => fun
  | [d1, d2] => { results := [.lit (.bool false)], args := [d1, d2] }
  | _ => none }
def FnExactPaymentsOfWrongFalsely : Prop := fnExactPaymentsOfRow.holds Try.pinned (OpenSpec.ofChange fnExactPaymentsOfWrong)

/- THE SECOND FORM. 'bulk': how many values and letters a reading holds, each counted each time it is reached (what is shared counts as often as it is met; a slice's spare places count too). A statement '..UptoSaid' is the law's where the arguments, and the package variables that the reading takes, are together of bulk at most 1048576: NARROWER than '..Said'. Prove '..Said' where nothing that the law and all that it calls make is longer than what came in: it says more and counts as full. Else prove '..UptoSaid'. A law counts once. -/
mutual
def uptoBulk {H : Type} : DataW H → Nat
  | .lit (.string bytes) => bytes.length + 1
  | .lit _ => 1
  | .nil => 1
  | .ptr d => uptoBulk d + 1
  | .slice elems spare => uptoBulkAll elems + uptoBulkAll spare + 1
  | .agg parts => uptoBulkAll parts + 1
  | .iface _ d => uptoBulk d + 1
  | .map entries => uptoBulkEntries entries + 1
  | .held _ => 1
def uptoBulkAll {H : Type} : List (DataW H) → Nat
  | [] => 0
  | d :: r => uptoBulk d + uptoBulkAll r
def uptoBulkEntries {H : Type} : List (Lit × DataW H) → Nat
  | [] => 0
  | x :: r => uptoBulkEntry x + uptoBulkEntries r
def uptoBulkEntry {H : Type} : Lit × DataW H → Nat
  | (.string bytes, d) => bytes.length + uptoBulk d + 1
  | (_, d) => uptoBulk d + 1
 end
def uptoSmall : (H : Type) → List (DataW H) → Bool := fun _ ds => decide (uptoBulkAll ds ≤ 1048576)
def OpenSpec.upto (s : _root_.Go.ChangeSpec) : _root_.Go.OpenSpec := { _root_.Go.OpenSpec.ofChange s with cond := some uptoSmall }

/-- 'laws.FnExactApprovedIn', WHERE WHAT IT READS IS OF BULK AT MOST 1048576: true; the input reads as it did. -/
def fnExactApprovedInUptoRow : OpenClaim := { program := "ytegfiapfgffcgaa", sum := "9cbb104fdbf7274b0f4d434fdb53ac2c558a8481c0fceaf395d06e445c1267fd", func := "loop.example/g01095/laws.FnExactApprovedIn", spec := "fnExactApprovedIn", unfollowed := true, recurses := true, apart := false, narrowed := true }
def FnExactApprovedInUptoSaid : Prop := fnExactApprovedInUptoRow.holds Try.pinned (OpenSpec.upto fnExactApprovedInSpec)

/-- 'laws.FnExactGreedyBudget', WHERE WHAT IT READS IS OF BULK AT MOST 1048576: true; the input reads as it did. -/
def fnExactGreedyBudgetUptoRow : OpenClaim := { program := "ytegfiapfgffcgaa", sum := "9cbb104fdbf7274b0f4d434fdb53ac2c558a8481c0fceaf395d06e445c1267fd", func := "loop.example/g01095/laws.FnExactGreedyBudget", spec := "fnExactGreedyBudget", unfollowed := true, recurses := true, apart := false, narrowed := true }
def FnExactGreedyBudgetUptoSaid : Prop := fnExactGreedyBudgetUptoRow.holds Try.pinned (OpenSpec.upto fnExactGreedyBudgetSpec)

/-- 'laws.FnExactPhragmenOrder', WHERE WHAT IT READS IS OF BULK AT MOST 1048576: true; the input reads as it did. -/
def fnExactPhragmenOrderUptoRow : OpenClaim := { program := "ytegfiapfgffcgaa", sum := "9cbb104fdbf7274b0f4d434fdb53ac2c558a8481c0fceaf395d06e445c1267fd", func := "loop.example/g01095/laws.FnExactPhragmenOrder", spec := "fnExactPhragmenOrder", unfollowed := true, recurses := true, apart := false, narrowed := true }
def FnExactPhragmenOrderUptoSaid : Prop := fnExactPhragmenOrderUptoRow.holds Try.pinned (OpenSpec.upto fnExactPhragmenOrderSpec)

/-- 'laws.FnExactIsPaid', WHERE WHAT IT READS IS OF BULK AT MOST 1048576: true; the input reads as it did. -/
def fnExactIsPaidUptoRow : OpenClaim := { program := "ytegfiapfgffcgaa", sum := "9cbb104fdbf7274b0f4d434fdb53ac2c558a8481c0fceaf395d06e445c1267fd", func := "loop.example/g01095/laws.FnExactIsPaid", spec := "fnExactIsPaid", unfollowed := true, recurses := true, apart := false, narrowed := true }
def FnExactIsPaidUptoSaid : Prop := fnExactIsPaidUptoRow.holds Try.pinned (OpenSpec.upto fnExactIsPaidSpec)

/-- 'laws.FnExactIsStable', WHERE WHAT IT READS IS OF BULK AT MOST 1048576: true; the input reads as it did. -/
def fnExactIsStableUptoRow : OpenClaim := { program := "ytegfiapfgffcgaa", sum := "9cbb104fdbf7274b0f4d434fdb53ac2c558a8481c0fceaf395d06e445c1267fd", func := "loop.example/g01095/laws.FnExactIsStable", spec := "fnExactIsStable", unfollowed := true, recurses := true, apart := false, narrowed := true }
def FnExactIsStableUptoSaid : Prop := fnExactIsStableUptoRow.holds Try.pinned (OpenSpec.upto fnExactIsStableSpec)

/-- 'laws.FnExactUnjustifiedGroup', WHERE WHAT IT READS IS OF BULK AT MOST 1048576: true; the input reads as it did. -/
def fnExactUnjustifiedGroupUptoRow : OpenClaim := { program := "ytegfiapfgffcgaa", sum := "9cbb104fdbf7274b0f4d434fdb53ac2c558a8481c0fceaf395d06e445c1267fd", func := "loop.example/g01095/laws.FnExactUnjustifiedGroup", spec := "fnExactUnjustifiedGroup", unfollowed := true, recurses := true, apart := false, narrowed := true }
def FnExactUnjustifiedGroupUptoSaid : Prop := fnExactUnjustifiedGroupUptoRow.holds Try.pinned (OpenSpec.upto fnExactUnjustifiedGroupSpec)

/-- 'laws.FnExactPriceAfter', WHERE WHAT IT READS IS OF BULK AT MOST 1048576: true; the input reads as it did. -/
def fnExactPriceAfterUptoRow : OpenClaim := { program := "ytegfiapfgffcgaa", sum := "9cbb104fdbf7274b0f4d434fdb53ac2c558a8481c0fceaf395d06e445c1267fd", func := "loop.example/g01095/laws.FnExactPriceAfter", spec := "fnExactPriceAfter", unfollowed := true, recurses := true, apart := false, narrowed := true }
def FnExactPriceAfterUptoSaid : Prop := fnExactPriceAfterUptoRow.holds Try.pinned (OpenSpec.upto fnExactPriceAfterSpec)

/-- 'laws.FnExactEqualShares', WHERE WHAT IT READS IS OF BULK AT MOST 1048576: true; the input reads as it did. -/
def fnExactEqualSharesUptoRow : OpenClaim := { program := "ytegfiapfgffcgaa", sum := "9cbb104fdbf7274b0f4d434fdb53ac2c558a8481c0fceaf395d06e445c1267fd", func := "loop.example/g01095/laws.FnExactEqualShares", spec := "fnExactEqualShares", unfollowed := true, recurses := true, apart := false, narrowed := true }
def FnExactEqualSharesUptoSaid : Prop := fnExactEqualSharesUptoRow.holds Try.pinned (OpenSpec.upto fnExactEqualSharesSpec)

/-- 'laws.FnExactPursesAfter', WHERE WHAT IT READS IS OF BULK AT MOST 1048576: true; the input reads as it did. -/
def fnExactPursesAfterUptoRow : OpenClaim := { program := "ytegfiapfgffcgaa", sum := "9cbb104fdbf7274b0f4d434fdb53ac2c558a8481c0fceaf395d06e445c1267fd", func := "loop.example/g01095/laws.FnExactPursesAfter", spec := "fnExactPursesAfter", unfollowed := true, recurses := true, apart := false, narrowed := true }
def FnExactPursesAfterUptoSaid : Prop := fnExactPursesAfterUptoRow.holds Try.pinned (OpenSpec.upto fnExactPursesAfterSpec)

/-- 'laws.FnExactCompletedShares', WHERE WHAT IT READS IS OF BULK AT MOST 1048576: true; the input reads as it did. -/
def fnExactCompletedSharesUptoRow : OpenClaim := { program := "ytegfiapfgffcgaa", sum := "9cbb104fdbf7274b0f4d434fdb53ac2c558a8481c0fceaf395d06e445c1267fd", func := "loop.example/g01095/laws.FnExactCompletedShares", spec := "fnExactCompletedShares", unfollowed := true, recurses := true, apart := false, narrowed := true }
def FnExactCompletedSharesUptoSaid : Prop := fnExactCompletedSharesUptoRow.holds Try.pinned (OpenSpec.upto fnExactCompletedSharesSpec)

/-- 'laws.FnExactPaymentsOf', WHERE WHAT IT READS IS OF BULK AT MOST 1048576: true; the input reads as it did. -/
def fnExactPaymentsOfUptoRow : OpenClaim := { program := "ytegfiapfgffcgaa", sum := "9cbb104fdbf7274b0f4d434fdb53ac2c558a8481c0fceaf395d06e445c1267fd", func := "loop.example/g01095/laws.FnExactPaymentsOf", spec := "fnExactPaymentsOf", unfollowed := true, recurses := true, apart := false, narrowed := true }
def FnExactPaymentsOfUptoSaid : Prop := fnExactPaymentsOfUptoRow.holds Try.pinned (OpenSpec.upto fnExactPaymentsOfSpec)

end Rows
end Go.Proofs.Ytegfiapfgffcgaa
