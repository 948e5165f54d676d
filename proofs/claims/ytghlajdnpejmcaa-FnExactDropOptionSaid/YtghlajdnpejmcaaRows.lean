/-
  No cell of these rows narrows 'for every input' (looked for: loops, veiled, ifaces, maps, wideKeys, modest, calm, conditions, laid).
  DERIVED. THE GIVEN ROWS OF THIS SEAT. 16 by the template 'for every input the law returns true; each argument reads behind the call as it read before'; 0 by the template 'total and deterministic' (their statements: YtghlajdnpejmcaaTotals.lean).
  GIVEN WITH THE SEED: the statements are not yours to turn. If you find one false, say at which input.
  Laid BY PROGRAM, IN A SANDBOX (cutbox-rows.mjs): the forced cells as the released guide's own fill.sh prints them over the translation 4457f683639f51d3… (all of the seat's roots in one cut). By AI agents, Wed Nov 11 2026. No macro, syntax, notation, axiom, sorry.
-/
import Derived.Test.YtghlajdnpejmcaaChecked
import GoSem.Claim
import GoSem.ClaimJoined
import GoSem.ClaimMapViews
import Derived.JoinedTies
import Derived.KernelRfl
namespace Go.Proofs.Ytghlajdnpejmcaa
/- THE CELL 'sum', in the pinned program and in every row, IS THE sha256 OF THE DUMP (.gsa) THAT YtghlajdnpejmcaaProg.lean LOADS. Nothing in Lean hashes anything: it is a label: what it is worth is what the hold of that sum in a sandbox is worth. -/
noncomputable def Try.pinned : Pinned := { name := "ytghlajdnpejmcaa", sum := "4457f683639f51d3e2749f658a205c3bd07ba7e5d409b9d2ad273856f4f75a5a", checked := Try.checked }
namespace Rows
def none {H : Type} : Left H := { results := [], args := [] }

/-- 'laws.FnExactValidProfile': WHATEVER THE INPUT: true; the input reads as it did. -/
def fnExactValidProfileSpec : ChangeSpec := { name := "fnExactValidProfile", fn := fun _ => fun
  | [d] => { results := [.lit (.bool true)], args := [d] }
  | _ => none }
def fnExactValidProfileRow : OpenClaim := { program := "ytghlajdnpejmcaa", sum := "4457f683639f51d3e2749f658a205c3bd07ba7e5d409b9d2ad273856f4f75a5a", func := "loop.example/g01095/laws.FnExactValidProfile", spec := "fnExactValidProfile", recurses := true, apart := false }
def FnExactValidProfileSaid : Prop := fnExactValidProfileRow.holds Try.pinned (OpenSpec.ofChange fnExactValidProfileSpec)

/-- ITS FALSE NEIGHBOUR: 'it returns false'. Refute it at one input. -/
def fnExactValidProfileWrong : ChangeSpec := { name := "fnExactValidProfile", fn := fun _ => fun
  | [d] => { results := [.lit (.bool false)], args := [d] }
  | _ => none }
def FnExactValidProfileWrongFalsely : Prop := fnExactValidProfileRow.holds Try.pinned (OpenSpec.ofChange fnExactValidProfileWrong)

/-- 'laws.FnExactDisagreementOf': WHATEVER THE INPUT: true; the input reads as it did. -/
def fnExactDisagreementOfSpec : ChangeSpec := { name := "fnExactDisagreementOf", fn := fun _ => fun
  | [d1, d2] => { results := [.lit (.bool true)], args := [d1, d2] }
  | _ => none }
def fnExactDisagreementOfRow : OpenClaim := { program := "ytghlajdnpejmcaa", sum := "4457f683639f51d3e2749f658a205c3bd07ba7e5d409b9d2ad273856f4f75a5a", func := "loop.example/g01095/laws.FnExactDisagreementOf", spec := "fnExactDisagreementOf", recurses := true, apart := false }
def FnExactDisagreementOfSaid : Prop := fnExactDisagreementOfRow.holds Try.pinned (OpenSpec.ofChange fnExactDisagreementOfSpec)

/-- ITS FALSE NEIGHBOUR: 'it returns false'. Refute it at one input. -/
def fnExactDisagreementOfWrong : ChangeSpec := { name := "fnExactDisagreementOf", fn := fun _ => fun
  | [d1, d2] => { results := [.lit (.bool false)], args := [d1, d2] }
  | _ => none }
def FnExactDisagreementOfWrongFalsely : Prop := fnExactDisagreementOfRow.holds Try.pinned (OpenSpec.ofChange fnExactDisagreementOfWrong)

/-- 'laws.FnExactCountPairs': WHATEVER THE INPUT: true; the input reads as it did. -/
def fnExactCountPairsSpec : ChangeSpec := { name := "fnExactCountPairs", fn := fun _ => fun
  | [d] => { results := [.lit (.bool true)], args := [d] }
  | _ => none }
def fnExactCountPairsRow : OpenClaim := { program := "ytghlajdnpejmcaa", sum := "4457f683639f51d3e2749f658a205c3bd07ba7e5d409b9d2ad273856f4f75a5a", func := "loop.example/g01095/laws.FnExactCountPairs", spec := "fnExactCountPairs", recurses := true, apart := false }
def FnExactCountPairsSaid : Prop := fnExactCountPairsRow.holds Try.pinned (OpenSpec.ofChange fnExactCountPairsSpec)

/-- ITS FALSE NEIGHBOUR: 'it returns false'. Refute it at one input. -/
def fnExactCountPairsWrong : ChangeSpec := { name := "fnExactCountPairs", fn := fun _ => fun
  | [d] => { results := [.lit (.bool false)], args := [d] }
  | _ => none }
def FnExactCountPairsWrongFalsely : Prop := fnExactCountPairsRow.holds Try.pinned (OpenSpec.ofChange fnExactCountPairsWrong)

/-- 'laws.FnExactReverseProfile': WHATEVER THE INPUT: true; the input reads as it did. -/
def fnExactReverseProfileSpec : ChangeSpec := { name := "fnExactReverseProfile", fn := fun _ => fun
  | [d] => { results := [.lit (.bool true)], args := [d] }
  | _ => none }
def fnExactReverseProfileRow : OpenClaim := { program := "ytghlajdnpejmcaa", sum := "4457f683639f51d3e2749f658a205c3bd07ba7e5d409b9d2ad273856f4f75a5a", func := "loop.example/g01095/laws.FnExactReverseProfile", spec := "fnExactReverseProfile", recurses := true, apart := false }
def FnExactReverseProfileSaid : Prop := fnExactReverseProfileRow.holds Try.pinned (OpenSpec.ofChange fnExactReverseProfileSpec)

/-- ITS FALSE NEIGHBOUR: 'it returns false'. Refute it at one input. -/
def fnExactReverseProfileWrong : ChangeSpec := { name := "fnExactReverseProfile", fn := fun _ => fun
  | [d] => { results := [.lit (.bool false)], args := [d] }
  | _ => none }
def FnExactReverseProfileWrongFalsely : Prop := fnExactReverseProfileRow.holds Try.pinned (OpenSpec.ofChange fnExactReverseProfileWrong)

/-- 'laws.FnExactBordaScores': WHATEVER THE INPUT: true; the input reads as it did. -/
def fnExactBordaScoresSpec : ChangeSpec := { name := "fnExactBordaScores", fn := fun _ => fun
  | [d] => { results := [.lit (.bool true)], args := [d] }
  | _ => none }
def fnExactBordaScoresRow : OpenClaim := { program := "ytghlajdnpejmcaa", sum := "4457f683639f51d3e2749f658a205c3bd07ba7e5d409b9d2ad273856f4f75a5a", func := "loop.example/g01095/laws.FnExactBordaScores", spec := "fnExactBordaScores", recurses := true, apart := false }
def FnExactBordaScoresSaid : Prop := fnExactBordaScoresRow.holds Try.pinned (OpenSpec.ofChange fnExactBordaScoresSpec)

/-- ITS FALSE NEIGHBOUR: 'it returns false'. Refute it at one input. -/
def fnExactBordaScoresWrong : ChangeSpec := { name := "fnExactBordaScores", fn := fun _ => fun
  | [d] => { results := [.lit (.bool false)], args := [d] }
  | _ => none }
def FnExactBordaScoresWrongFalsely : Prop := fnExactBordaScoresRow.holds Try.pinned (OpenSpec.ofChange fnExactBordaScoresWrong)

/-- 'laws.FnExactDropOption': WHATEVER THE INPUT: true; the input reads as it did. -/
def fnExactDropOptionSpec : ChangeSpec := { name := "fnExactDropOption", fn := fun _ => fun
  | [d1, d2] => { results := [.lit (.bool true)], args := [d1, d2] }
  | _ => none }
def fnExactDropOptionRow : OpenClaim := { program := "ytghlajdnpejmcaa", sum := "4457f683639f51d3e2749f658a205c3bd07ba7e5d409b9d2ad273856f4f75a5a", func := "loop.example/g01095/laws.FnExactDropOption", spec := "fnExactDropOption", recurses := true, apart := false }
def FnExactDropOptionSaid : Prop := fnExactDropOptionRow.holds Try.pinned (OpenSpec.ofChange fnExactDropOptionSpec)

/-- ITS FALSE NEIGHBOUR: 'it returns false'. Refute it at one input. -/
def fnExactDropOptionWrong : ChangeSpec := { name := "fnExactDropOption", fn := fun _ => fun
  | [d1, d2] => { results := [.lit (.bool false)], args := [d1, d2] }
  | _ => none }
def FnExactDropOptionWrongFalsely : Prop := fnExactDropOptionRow.holds Try.pinned (OpenSpec.ofChange fnExactDropOptionWrong)

/-- 'laws.FnExactRaiseOption': WHATEVER THE INPUT: true; the input reads as it did. -/
def fnExactRaiseOptionSpec : ChangeSpec := { name := "fnExactRaiseOption", fn := fun _ => fun
  | [d1, d2, d3] => { results := [.lit (.bool true)], args := [d1, d2, d3] }
  | _ => none }
def fnExactRaiseOptionRow : OpenClaim := { program := "ytghlajdnpejmcaa", sum := "4457f683639f51d3e2749f658a205c3bd07ba7e5d409b9d2ad273856f4f75a5a", func := "loop.example/g01095/laws.FnExactRaiseOption", spec := "fnExactRaiseOption", recurses := true, apart := false }
def FnExactRaiseOptionSaid : Prop := fnExactRaiseOptionRow.holds Try.pinned (OpenSpec.ofChange fnExactRaiseOptionSpec)

/-- ITS FALSE NEIGHBOUR: 'it returns false'. Refute it at one input. -/
def fnExactRaiseOptionWrong : ChangeSpec := { name := "fnExactRaiseOption", fn := fun _ => fun
  | [d1, d2, d3] => { results := [.lit (.bool false)], args := [d1, d2, d3] }
  | _ => none }
def FnExactRaiseOptionWrongFalsely : Prop := fnExactRaiseOptionRow.holds Try.pinned (OpenSpec.ofChange fnExactRaiseOptionWrong)

/-- 'laws.FnExactPathStrengths': WHATEVER THE INPUT: true; the input reads as it did. -/
def fnExactPathStrengthsSpec : ChangeSpec := { name := "fnExactPathStrengths", fn := fun _ => fun
  | [d] => { results := [.lit (.bool true)], args := [d] }
  | _ => none }
def fnExactPathStrengthsRow : OpenClaim := { program := "ytghlajdnpejmcaa", sum := "4457f683639f51d3e2749f658a205c3bd07ba7e5d409b9d2ad273856f4f75a5a", func := "loop.example/g01095/laws.FnExactPathStrengths", spec := "fnExactPathStrengths", recurses := true, apart := false }
def FnExactPathStrengthsSaid : Prop := fnExactPathStrengthsRow.holds Try.pinned (OpenSpec.ofChange fnExactPathStrengthsSpec)

/-- ITS FALSE NEIGHBOUR: 'it returns false'. Refute it at one input. -/
def fnExactPathStrengthsWrong : ChangeSpec := { name := "fnExactPathStrengths", fn := fun _ => fun
  | [d] => { results := [.lit (.bool false)], args := [d] }
  | _ => none }
def FnExactPathStrengthsWrongFalsely : Prop := fnExactPathStrengthsRow.holds Try.pinned (OpenSpec.ofChange fnExactPathStrengthsWrong)

/-- 'laws.FnExactSchulzeWinners': WHATEVER THE INPUT: true; the input reads as it did. -/
def fnExactSchulzeWinnersSpec : ChangeSpec := { name := "fnExactSchulzeWinners", fn := fun _ => fun
  | [d] => { results := [.lit (.bool true)], args := [d] }
  | _ => none }
def fnExactSchulzeWinnersRow : OpenClaim := { program := "ytghlajdnpejmcaa", sum := "4457f683639f51d3e2749f658a205c3bd07ba7e5d409b9d2ad273856f4f75a5a", func := "loop.example/g01095/laws.FnExactSchulzeWinners", spec := "fnExactSchulzeWinners", recurses := true, apart := false }
def FnExactSchulzeWinnersSaid : Prop := fnExactSchulzeWinnersRow.holds Try.pinned (OpenSpec.ofChange fnExactSchulzeWinnersSpec)

/-- ITS FALSE NEIGHBOUR: 'it returns false'. Refute it at one input. -/
def fnExactSchulzeWinnersWrong : ChangeSpec := { name := "fnExactSchulzeWinners", fn := fun _ => fun
  | [d] => { results := [.lit (.bool false)], args := [d] }
  | _ => none }
def FnExactSchulzeWinnersWrongFalsely : Prop := fnExactSchulzeWinnersRow.holds Try.pinned (OpenSpec.ofChange fnExactSchulzeWinnersWrong)

/-- 'laws.FnExactKemenyRanking': WHATEVER THE INPUT: true; the input reads as it did. -/
def fnExactKemenyRankingSpec : ChangeSpec := { name := "fnExactKemenyRanking", fn := fun _ => fun
  | [d] => { results := [.lit (.bool true)], args := [d] }
  | _ => none }
def fnExactKemenyRankingRow : OpenClaim := { program := "ytghlajdnpejmcaa", sum := "4457f683639f51d3e2749f658a205c3bd07ba7e5d409b9d2ad273856f4f75a5a", func := "loop.example/g01095/laws.FnExactKemenyRanking", spec := "fnExactKemenyRanking", unfollowed := true, recurses := true, apart := false }
def FnExactKemenyRankingSaid : Prop := fnExactKemenyRankingRow.holds Try.pinned (OpenSpec.ofChange fnExactKemenyRankingSpec)

/-- ITS FALSE NEIGHBOUR: 'it returns false'. Refute it at one input. -/
def fnExactKemenyRankingWrong : ChangeSpec := { name := "fnExactKemenyRanking", fn := fun _ => fun
  | [d] => { results := [.lit (.bool false)], args := [d] }
  | _ => none }
def FnExactKemenyRankingWrongFalsely : Prop := fnExactKemenyRankingRow.holds Try.pinned (OpenSpec.ofChange fnExactKemenyRankingWrong)

/-- 'laws.FnExactStrongestPath': WHATEVER THE INPUT: true; the input reads as it did. -/
def fnExactStrongestPathSpec : ChangeSpec := { name := "fnExactStrongestPath", fn := fun _ => fun
  | [d1, d2, d3] => { results := [.lit (.bool true)], args := [d1, d2, d3] }
  | _ => none }
def fnExactStrongestPathRow : OpenClaim := { program := "ytghlajdnpejmcaa", sum := "4457f683639f51d3e2749f658a205c3bd07ba7e5d409b9d2ad273856f4f75a5a", func := "loop.example/g01095/laws.FnExactStrongestPath", spec := "fnExactStrongestPath", unfollowed := true, recurses := true, apart := false }
def FnExactStrongestPathSaid : Prop := fnExactStrongestPathRow.holds Try.pinned (OpenSpec.ofChange fnExactStrongestPathSpec)

/-- ITS FALSE NEIGHBOUR: 'it returns false'. Refute it at one input. -/
def fnExactStrongestPathWrong : ChangeSpec := { name := "fnExactStrongestPath", fn := fun _ => fun
  | [d1, d2, d3] => { results := [.lit (.bool false)], args := [d1, d2, d3] }
  | _ => none }
def FnExactStrongestPathWrongFalsely : Prop := fnExactStrongestPathRow.holds Try.pinned (OpenSpec.ofChange fnExactStrongestPathWrong)

/-- 'laws.FnExactDuelsOf': WHATEVER THE INPUT: true; the input reads as it did. -/
def fnExactDuelsOfSpec : ChangeSpec := { name := "fnExactDuelsOf", fn := fun _ => fun
  | [d] => { results := [.lit (.bool true)], args := [d] }
  | _ => none }
def fnExactDuelsOfRow : OpenClaim := { program := "ytghlajdnpejmcaa", sum := "4457f683639f51d3e2749f658a205c3bd07ba7e5d409b9d2ad273856f4f75a5a", func := "loop.example/g01095/laws.FnExactDuelsOf", spec := "fnExactDuelsOf", unfollowed := true, recurses := true, apart := false }
def FnExactDuelsOfSaid : Prop := fnExactDuelsOfRow.holds Try.pinned (OpenSpec.ofChange fnExactDuelsOfSpec)

/-- ITS FALSE NEIGHBOUR: 'it returns false'. Refute it at one input. -/
def fnExactDuelsOfWrong : ChangeSpec := { name := "fnExactDuelsOf", fn := fun _ => fun
  | [d] => { results := [.lit (.bool false)], args := [d] }
  | _ => none }
def FnExactDuelsOfWrongFalsely : Prop := fnExactDuelsOfRow.holds Try.pinned (OpenSpec.ofChange fnExactDuelsOfWrong)

/-- 'laws.FnExactLockedDuels': WHATEVER THE INPUT: true; the input reads as it did. -/
def fnExactLockedDuelsSpec : ChangeSpec := { name := "fnExactLockedDuels", fn := fun _ => fun
  | [d] => { results := [.lit (.bool true)], args := [d] }
  | _ => none }
def fnExactLockedDuelsRow : OpenClaim := { program := "ytghlajdnpejmcaa", sum := "4457f683639f51d3e2749f658a205c3bd07ba7e5d409b9d2ad273856f4f75a5a", func := "loop.example/g01095/laws.FnExactLockedDuels", spec := "fnExactLockedDuels", unfollowed := true, recurses := true, apart := false }
def FnExactLockedDuelsSaid : Prop := fnExactLockedDuelsRow.holds Try.pinned (OpenSpec.ofChange fnExactLockedDuelsSpec)

/-- ITS FALSE NEIGHBOUR: 'it returns false'. Refute it at one input. -/
def fnExactLockedDuelsWrong : ChangeSpec := { name := "fnExactLockedDuels", fn := fun _ => fun
  | [d] => { results := [.lit (.bool false)], args := [d] }
  | _ => none }
def FnExactLockedDuelsWrongFalsely : Prop := fnExactLockedDuelsRow.holds Try.pinned (OpenSpec.ofChange fnExactLockedDuelsWrong)

/-- 'laws.FnExactRankedOrder': WHATEVER THE INPUT: true; the input reads as it did. -/
def fnExactRankedOrderSpec : ChangeSpec := { name := "fnExactRankedOrder", fn := fun _ => fun
  | [d] => { results := [.lit (.bool true)], args := [d] }
  | _ => none }
def fnExactRankedOrderRow : OpenClaim := { program := "ytghlajdnpejmcaa", sum := "4457f683639f51d3e2749f658a205c3bd07ba7e5d409b9d2ad273856f4f75a5a", func := "loop.example/g01095/laws.FnExactRankedOrder", spec := "fnExactRankedOrder", unfollowed := true, recurses := true, apart := false }
def FnExactRankedOrderSaid : Prop := fnExactRankedOrderRow.holds Try.pinned (OpenSpec.ofChange fnExactRankedOrderSpec)

/-- ITS FALSE NEIGHBOUR: 'it returns false'. Refute it at one input. -/
def fnExactRankedOrderWrong : ChangeSpec := { name := "fnExactRankedOrder", fn := fun _ => fun
  | [d] => { results := [.lit (.bool false)], args := [d] }
  | _ => none }
def FnExactRankedOrderWrongFalsely : Prop := fnExactRankedOrderRow.holds Try.pinned (OpenSpec.ofChange fnExactRankedOrderWrong)

/-- 'laws.FnExactDefeatsAll': WHATEVER THE INPUT: true; the input reads as it did. -/
def fnExactDefeatsAllSpec : ChangeSpec := { name := "fnExactDefeatsAll", fn := fun _ => fun
  | [d] => { results := [.lit (.bool true)], args := [d] }
  | _ => none }
def fnExactDefeatsAllRow : OpenClaim := { program := "ytghlajdnpejmcaa", sum := "4457f683639f51d3e2749f658a205c3bd07ba7e5d409b9d2ad273856f4f75a5a", func := "loop.example/g01095/laws.FnExactDefeatsAll", spec := "fnExactDefeatsAll", unfollowed := true, recurses := true, apart := false }
def FnExactDefeatsAllSaid : Prop := fnExactDefeatsAllRow.holds Try.pinned (OpenSpec.ofChange fnExactDefeatsAllSpec)

/-- ITS FALSE NEIGHBOUR: 'it returns false'. Refute it at one input. -/
def fnExactDefeatsAllWrong : ChangeSpec := { name := "fnExactDefeatsAll", fn := fun _ => fun
  | [d] => { results := [.lit (.bool false)], args := [d] }
  | _ => none }
def FnExactDefeatsAllWrongFalsely : Prop := fnExactDefeatsAllRow.holds Try.pinned (OpenSpec.ofChange fnExactDefeatsAllWrong)

/-- 'laws.FnExactLeastDominating': WHATEVER THE INPUT: true; the input reads as it did. -/
def fnExactLeastDominatingSpec : ChangeSpec := { name := "fnExactLeastDominating", fn := fun _ => fun
  | [d] => { results := [.lit (.bool true)], args := [d] }
  | _ => none }
def fnExactLeastDominatingRow : OpenClaim := { program := "ytghlajdnpejmcaa", sum := "4457f683639f51d3e2749f658a205c3bd07ba7e5d409b9d2ad273856f4f75a5a", func := "loop.example/g01095/laws.FnExactLeastDominating", spec := "fnExactLeastDominating", unfollowed := true, recurses := true, apart := false }
def FnExactLeastDominatingSaid : Prop := fnExactLeastDominatingRow.holds Try.pinned (OpenSpec.ofChange fnExactLeastDominatingSpec)

/-- ITS FALSE NEIGHBOUR: 'it returns false'. Refute it at one input. -/
def fnExactLeastDominatingWrong : ChangeSpec := { name := "fnExactLeastDominating", fn := fun _ => fun
  | [d] => { results := [.lit (.bool false)], args := [d] }
  | _ => none }
def FnExactLeastDominatingWrongFalsely : Prop := fnExactLeastDominatingRow.holds Try.pinned (OpenSpec.ofChange fnExactLeastDominatingWrong)

/- THE SECOND FORM. 'bulk': how many values and letters a reading holds, each counted each time it is reached (what is shared counts as often as it is met; a slice's spare places count too). A statement '..UptoSaid' is the law's where the arguments, and the package variables that the reading takes, are together of bulk at most 1048576: NARROWER than '..Said'. Prove '..Said' where nothing that the law and all that it calls make is longer than what came in: it says more and counts as full. Else prove '..UptoSaid'. A law counts once. -/
mutual
def uptoBulk {H : Type} : DataW H → Nat
  | .lit (.string bytes) => bytes.length + 1
  | .lit _ => 1
  | .nil => 1
  | .ptr d => uptoBulk d + 1
  | .slice elems spare => uptoBulkAll elems + uptoBulkAll spare + 1
  | .agg parts => uptoBulkAll parts + 1
  | .iface _ d => uptoBulk d + 1
  | .map entries => uptoBulkEntries entries + 1
  | .held _ => 1
def uptoBulkAll {H : Type} : List (DataW H) → Nat
  | [] => 0
  | d :: r => uptoBulk d + uptoBulkAll r
def uptoBulkEntries {H : Type} : List (Lit × DataW H) → Nat
  | [] => 0
  | x :: r => uptoBulkEntry x + uptoBulkEntries r
def uptoBulkEntry {H : Type} : Lit × DataW H → Nat
  | (.string bytes, d) => bytes.length + uptoBulk d + 1
  | (_, d) => uptoBulk d + 1
 end
def uptoSmall : (H : Type) → List (DataW H) → Bool := fun _ ds => decide (uptoBulkAll ds ≤ 1048576)
def OpenSpec.upto (s : _root_.Go.ChangeSpec) : _root_.Go.OpenSpec := { _root_.Go.OpenSpec.ofChange s with cond := some uptoSmall }

/-- 'laws.FnExactValidProfile', WHERE WHAT IT READS IS OF BULK AT MOST 1048576: true; the input reads as it did. -/
def fnExactValidProfileUptoRow : OpenClaim := { program := "ytghlajdnpejmcaa", sum := "4457f683639f51d3e2749f658a205c3bd07ba7e5d409b9d2ad273856f4f75a5a", func := "loop.example/g01095/laws.FnExactValidProfile", spec := "fnExactValidProfile", recurses := true, apart := false, narrowed := true }
def FnExactValidProfileUptoSaid : Prop := fnExactValidProfileUptoRow.holds Try.pinned (OpenSpec.upto fnExactValidProfileSpec)

/-- 'laws.FnExactDisagreementOf', WHERE WHAT IT READS IS OF BULK AT MOST 1048576: true; the input reads as it did. -/
def fnExactDisagreementOfUptoRow : OpenClaim := { program := "ytghlajdnpejmcaa", sum := "4457f683639f51d3e2749f658a205c3bd07ba7e5d409b9d2ad273856f4f75a5a", func := "loop.example/g01095/laws.FnExactDisagreementOf", spec := "fnExactDisagreementOf", recurses := true, apart := false, narrowed := true }
def FnExactDisagreementOfUptoSaid : Prop := fnExactDisagreementOfUptoRow.holds Try.pinned (OpenSpec.upto fnExactDisagreementOfSpec)

/-- 'laws.FnExactCountPairs', WHERE WHAT IT READS IS OF BULK AT MOST 1048576: true; the input reads as it did. -/
def fnExactCountPairsUptoRow : OpenClaim := { program := "ytghlajdnpejmcaa", sum := "4457f683639f51d3e2749f658a205c3bd07ba7e5d409b9d2ad273856f4f75a5a", func := "loop.example/g01095/laws.FnExactCountPairs", spec := "fnExactCountPairs", recurses := true, apart := false, narrowed := true }
def FnExactCountPairsUptoSaid : Prop := fnExactCountPairsUptoRow.holds Try.pinned (OpenSpec.upto fnExactCountPairsSpec)

/-- 'laws.FnExactReverseProfile', WHERE WHAT IT READS IS OF BULK AT MOST 1048576: true; the input reads as it did. -/
def fnExactReverseProfileUptoRow : OpenClaim := { program := "ytghlajdnpejmcaa", sum := "4457f683639f51d3e2749f658a205c3bd07ba7e5d409b9d2ad273856f4f75a5a", func := "loop.example/g01095/laws.FnExactReverseProfile", spec := "fnExactReverseProfile", recurses := true, apart := false, narrowed := true }
def FnExactReverseProfileUptoSaid : Prop := fnExactReverseProfileUptoRow.holds Try.pinned (OpenSpec.upto fnExactReverseProfileSpec)

/-- 'laws.FnExactBordaScores', WHERE WHAT IT READS IS OF BULK AT MOST 1048576: true; the input reads as it did. -/
def fnExactBordaScoresUptoRow : OpenClaim := { program := "ytghlajdnpejmcaa", sum := "4457f683639f51d3e2749f658a205c3bd07ba7e5d409b9d2ad273856f4f75a5a", func := "loop.example/g01095/laws.FnExactBordaScores", spec := "fnExactBordaScores", recurses := true, apart := false, narrowed := true }
def FnExactBordaScoresUptoSaid : Prop := fnExactBordaScoresUptoRow.holds Try.pinned (OpenSpec.upto fnExactBordaScoresSpec)

/-- 'laws.FnExactDropOption', WHERE WHAT IT READS IS OF BULK AT MOST 1048576: true; the input reads as it did. -/
def fnExactDropOptionUptoRow : OpenClaim := { program := "ytghlajdnpejmcaa", sum := "4457f683639f51d3e2749f658a205c3bd07ba7e5d409b9d2ad273856f4f75a5a", func := "loop.example/g01095/laws.FnExactDropOption", spec := "fnExactDropOption", recurses := true, apart := false, narrowed := true }
def FnExactDropOptionUptoSaid : Prop := fnExactDropOptionUptoRow.holds Try.pinned (OpenSpec.upto fnExactDropOptionSpec)

/-- 'laws.FnExactRaiseOption', WHERE WHAT IT READS IS OF BULK AT MOST 1048576: true; the input reads as it did. -/
def fnExactRaiseOptionUptoRow : OpenClaim := { program := "ytghlajdnpejmcaa", sum := "4457f683639f51d3e2749f658a205c3bd07ba7e5d409b9d2ad273856f4f75a5a", func := "loop.example/g01095/laws.FnExactRaiseOption", spec := "fnExactRaiseOption", recurses := true, apart := false, narrowed := true }
def FnExactRaiseOptionUptoSaid : Prop := fnExactRaiseOptionUptoRow.holds Try.pinned (OpenSpec.upto fnExactRaiseOptionSpec)

/-- 'laws.FnExactPathStrengths', WHERE WHAT IT READS IS OF BULK AT MOST 1048576: true; the input reads as it did. -/
def fnExactPathStrengthsUptoRow : OpenClaim := { program := "ytghlajdnpejmcaa", sum := "4457f683639f51d3e2749f658a205c3bd07ba7e5d409b9d2ad273856f4f75a5a", func := "loop.example/g01095/laws.FnExactPathStrengths", spec := "fnExactPathStrengths", recurses := true, apart := false, narrowed := true }
def FnExactPathStrengthsUptoSaid : Prop := fnExactPathStrengthsUptoRow.holds Try.pinned (OpenSpec.upto fnExactPathStrengthsSpec)

/-- 'laws.FnExactSchulzeWinners', WHERE WHAT IT READS IS OF BULK AT MOST 1048576: true; the input reads as it did. -/
def fnExactSchulzeWinnersUptoRow : OpenClaim := { program := "ytghlajdnpejmcaa", sum := "4457f683639f51d3e2749f658a205c3bd07ba7e5d409b9d2ad273856f4f75a5a", func := "loop.example/g01095/laws.FnExactSchulzeWinners", spec := "fnExactSchulzeWinners", recurses := true, apart := false, narrowed := true }
def FnExactSchulzeWinnersUptoSaid : Prop := fnExactSchulzeWinnersUptoRow.holds Try.pinned (OpenSpec.upto fnExactSchulzeWinnersSpec)

/-- 'laws.FnExactKemenyRanking', WHERE WHAT IT READS IS OF BULK AT MOST 1048576: true; the input reads as it did. -/
def fnExactKemenyRankingUptoRow : OpenClaim := { program := "ytghlajdnpejmcaa", sum := "4457f683639f51d3e2749f658a205c3bd07ba7e5d409b9d2ad273856f4f75a5a", func := "loop.example/g01095/laws.FnExactKemenyRanking", spec := "fnExactKemenyRanking", unfollowed := true, recurses := true, apart := false, narrowed := true }
def FnExactKemenyRankingUptoSaid : Prop := fnExactKemenyRankingUptoRow.holds Try.pinned (OpenSpec.upto fnExactKemenyRankingSpec)

/-- 'laws.FnExactStrongestPath', WHERE WHAT IT READS IS OF BULK AT MOST 1048576: true; the input reads as it did. -/
def fnExactStrongestPathUptoRow : OpenClaim := { program := "ytghlajdnpejmcaa", sum := "4457f683639f51d3e2749f658a205c3bd07ba7e5d409b9d2ad273856f4f75a5a", func := "loop.example/g01095/laws.FnExactStrongestPath", spec := "fnExactStrongestPath", unfollowed := true, recurses := true, apart := false, narrowed := true }
def FnExactStrongestPathUptoSaid : Prop := fnExactStrongestPathUptoRow.holds Try.pinned (OpenSpec.upto fnExactStrongestPathSpec)

/-- 'laws.FnExactDuelsOf', WHERE WHAT IT READS IS OF BULK AT MOST 1048576: true; the input reads as it did. -/
def fnExactDuelsOfUptoRow : OpenClaim := { program := "ytghlajdnpejmcaa", sum := "4457f683639f51d3e2749f658a205c3bd07ba7e5d409b9d2ad273856f4f75a5a", func := "loop.example/g01095/laws.FnExactDuelsOf", spec := "fnExactDuelsOf", unfollowed := true, recurses := true, apart := false, narrowed := true }
def FnExactDuelsOfUptoSaid : Prop := fnExactDuelsOfUptoRow.holds Try.pinned (OpenSpec.upto fnExactDuelsOfSpec)

/-- 'laws.FnExactLockedDuels', WHERE WHAT IT READS IS OF BULK AT MOST 1048576: true; the input reads as it did. -/
def fnExactLockedDuelsUptoRow : OpenClaim := { program := "ytghlajdnpejmcaa", sum := "4457f683639f51d3e2749f658a205c3bd07ba7e5d409b9d2ad273856f4f75a5a", func := "loop.example/g01095/laws.FnExactLockedDuels", spec := "fnExactLockedDuels", unfollowed := true, recurses := true, apart := false, narrowed := true }
def FnExactLockedDuelsUptoSaid : Prop := fnExactLockedDuelsUptoRow.holds Try.pinned (OpenSpec.upto fnExactLockedDuelsSpec)

/-- 'laws.FnExactRankedOrder', WHERE WHAT IT READS IS OF BULK AT MOST 1048576: true; the input reads as it did. -/
def fnExactRankedOrderUptoRow : OpenClaim := { program := "ytghlajdnpejmcaa", sum := "4457f683639f51d3e2749f658a205c3bd07ba7e5d409b9d2ad273856f4f75a5a", func := "loop.example/g01095/laws.FnExactRankedOrder", spec := "fnExactRankedOrder", unfollowed := true, recurses := true, apart := false, narrowed := true }
def FnExactRankedOrderUptoSaid : Prop := fnExactRankedOrderUptoRow.holds Try.pinned (OpenSpec.upto fnExactRankedOrderSpec)

/-- 'laws.FnExactDefeatsAll', WHERE WHAT IT READS IS OF BULK AT MOST 1048576: true; the input reads as it did. -/
def fnExactDefeatsAllUptoRow : OpenClaim := { program := "ytghlajdnpejmcaa", sum := "4457f683639f51d3e2749f658a205c3bd07ba7e5d409b9d2ad273856f4f75a5a", func := "loop.example/g01095/laws.FnExactDefeatsAll", spec := "fnExactDefeatsAll", unfollowed := true, recurses := true, apart := false, narrowed := true }
def FnExactDefeatsAllUptoSaid : Prop := fnExactDefeatsAllUptoRow.holds Try.pinned (OpenSpec.upto fnExactDefeatsAllSpec)

/-- 'laws.FnExactLeastDominating', WHERE WHAT IT READS IS OF BULK AT MOST 1048576: true; the input reads as it did. -/
def fnExactLeastDominatingUptoRow : OpenClaim := { program := "ytghlajdnpejmcaa", sum := "4457f683639f51d3e2749f658a205c3bd07ba7e5d409b9d2ad273856f4f75a5a", func := "loop.example/g01095/laws.FnExactLeastDominating", spec := "fnExactLeastDominating", unfollowed := true, recurses := true, apart := false, narrowed := true }
def FnExactLeastDominatingUptoSaid : Prop := fnExactLeastDominatingUptoRow.holds Try.pinned (OpenSpec.upto fnExactLeastDominatingSpec)

end Rows
end Go.Proofs.Ytghlajdnpejmcaa
