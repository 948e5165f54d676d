/-
  No cell of these rows narrows 'for every input' (looked for: loops, veiled, ifaces, maps, wideKeys, modest, calm, conditions, laid).
  DERIVED. THE GIVEN ROWS OF THIS SEAT. 7 by the template 'for every input the law returns true; each argument reads behind the call as it read before'; 0 by the template 'total and deterministic' (their statements: YtmeeomkjjnlaoaaTotals.lean).
  GIVEN WITH THE SEED: the statements are not yours to turn. If you find one false, say at which input.
  Laid BY PROGRAM, IN A SANDBOX (cutbox-rows.mjs): the forced cells as the released guide's own fill.sh prints them over the translation ff5f3734ec2a9384… (all of the seat's roots in one cut). By AI agents, Wed Nov 11 2026. No macro, syntax, notation, axiom, sorry.
-/
import Derived.Test.YtmeeomkjjnlaoaaChecked
import GoSem.Claim
import GoSem.ClaimJoined
import GoSem.ClaimMapViews
import Derived.JoinedTies
import Derived.KernelRfl
namespace Go.Proofs.Ytmeeomkjjnlaoaa
/- THE CELL 'sum', in the pinned program and in every row, IS THE sha256 OF THE DUMP (.gsa) THAT YtmeeomkjjnlaoaaProg.lean LOADS. Nothing in Lean hashes anything: it is a label: what it is worth is what the hold of that sum in a sandbox is worth. -/
noncomputable def Try.pinned : Pinned := { name := "ytmeeomkjjnlaoaa", sum := "ff5f3734ec2a9384140e688d87af4c63b91f540b97dcdf292f1c3087151f1505", checked := Try.checked }
namespace Rows
def none {H : Type} : Left H := { results := [], args := [] }

/-- 'laws.FnExactLockedDuels': WHATEVER THE INPUT: true; the input reads as it did. -/
def fnExactLockedDuelsSpec : ChangeSpec := { name := "fnExactLockedDuels", fn := fun _ => fun
  | [d] => { results := [.lit (.bool true)], args := [d] }
  | _ => none }
def fnExactLockedDuelsRow : OpenClaim := { program := "ytmeeomkjjnlaoaa", sum := "ff5f3734ec2a9384140e688d87af4c63b91f540b97dcdf292f1c3087151f1505", func := "loop.example/g01095/laws.FnExactLockedDuels", spec := "fnExactLockedDuels", unfollowed := true, recurses := true, apart := false }
def FnExactLockedDuelsSaid : Prop := fnExactLockedDuelsRow.holds Try.pinned (OpenSpec.ofChange fnExactLockedDuelsSpec)

/-- ITS FALSE NEIGHBOUR: 'it returns false'. Refute it at one input. -/
def fnExactLockedDuelsWrong : ChangeSpec := { name := "fnExactLockedDuels", fn := fun _ => fun
  | [d] => { results := [.lit (.bool false)], args := [d] }
  | _ => none }
def FnExactLockedDuelsWrongFalsely : Prop := fnExactLockedDuelsRow.holds Try.pinned (OpenSpec.ofChange fnExactLockedDuelsWrong)

/-- 'laws.FnExactRankedOrder': WHATEVER THE INPUT: true; the input reads as it did. -/
def fnExactRankedOrderSpec : ChangeSpec := { name := "fnExactRankedOrder", fn := fun _ => fun
  | [d] => { results := [.lit (.bool true)], args := [d] }
  | _ => none }
def fnExactRankedOrderRow : OpenClaim := { program := "ytmeeomkjjnlaoaa", sum := "ff5f3734ec2a9384140e688d87af4c63b91f540b97dcdf292f1c3087151f1505", func := "loop.example/g01095/laws.FnExactRankedOrder", spec := "fnExactRankedOrder", unfollowed := true, recurses := true, apart := false }
def FnExactRankedOrderSaid : Prop := fnExactRankedOrderRow.holds Try.pinned (OpenSpec.ofChange fnExactRankedOrderSpec)

/-- ITS FALSE NEIGHBOUR: 'it returns false'. Refute it at one input. -/
def fnExactRankedOrderWrong : ChangeSpec := { name := "fnExactRankedOrder", fn := fun _ => fun
  | [d] => { results := [.lit (.bool false)], args := [d] }
  | _ => none }
def FnExactRankedOrderWrongFalsely : Prop := fnExactRankedOrderRow.holds Try.pinned (OpenSpec.ofChange fnExactRankedOrderWrong)

/-- 'laws.FnExactStrongestPath': WHATEVER THE INPUT: true; the input reads as it did. -/
def fnExactStrongestPathSpec : ChangeSpec := { name := "fnExactStrongestPath", fn := fun _ => fun
  | [d1, d2, d3] => { results := [.lit (.bool true)], args := [d1, d2, d3] }
  | _ => none }
def fnExactStrongestPathRow : OpenClaim := { program := "ytmeeomkjjnlaoaa", sum := "ff5f3734ec2a9384140e688d87af4c63b91f540b97dcdf292f1c3087151f1505", func := "loop.example/g01095/laws.FnExactStrongestPath", spec := "fnExactStrongestPath", unfollowed := true, recurses := true, apart := false }
def FnExactStrongestPathSaid : Prop := fnExactStrongestPathRow.holds Try.pinned (OpenSpec.ofChange fnExactStrongestPathSpec)

/-- ITS FALSE NEIGHBOUR: 'it returns false'. Refute it at one input. -/
def fnExactStrongestPathWrong : ChangeSpec := { name := "fnExactStrongestPath", fn := fun _ => fun
  | [d1, d2, d3] => { results := [.lit (.bool false)], args := [d1, d2, d3] }
  | _ => none }
def FnExactStrongestPathWrongFalsely : Prop := fnExactStrongestPathRow.holds Try.pinned (OpenSpec.ofChange fnExactStrongestPathWrong)

/-- 'laws.FnExactDefeatsAll': WHATEVER THE INPUT: true; the input reads as it did. -/
def fnExactDefeatsAllSpec : ChangeSpec := { name := "fnExactDefeatsAll", fn := fun _ => fun
  | [d] => { results := [.lit (.bool true)], args := [d] }
  | _ => none }
def fnExactDefeatsAllRow : OpenClaim := { program := "ytmeeomkjjnlaoaa", sum := "ff5f3734ec2a9384140e688d87af4c63b91f540b97dcdf292f1c3087151f1505", func := "loop.example/g01095/laws.FnExactDefeatsAll", spec := "fnExactDefeatsAll", unfollowed := true, recurses := true, apart := false }
def FnExactDefeatsAllSaid : Prop := fnExactDefeatsAllRow.holds Try.pinned (OpenSpec.ofChange fnExactDefeatsAllSpec)

/-- ITS FALSE NEIGHBOUR: 'it returns false'. Refute it at one input. -/
def fnExactDefeatsAllWrong : ChangeSpec := { name := "fnExactDefeatsAll", fn := fun _ => fun
  | [d] => { results := [.lit (.bool false)], args := [d] }
  | _ => none }
def FnExactDefeatsAllWrongFalsely : Prop := fnExactDefeatsAllRow.holds Try.pinned (OpenSpec.ofChange fnExactDefeatsAllWrong)

/-- 'laws.FnExactLeastDominating': WHATEVER THE INPUT: true; the input reads as it did. -/
def fnExactLeastDominatingSpec : ChangeSpec := { name := "fnExactLeastDominating", fn := fun _ => fun
  | [d] => { results := [.lit (.bool true)], args := [d] }
  | _ => none }
def fnExactLeastDominatingRow : OpenClaim := { program := "ytmeeomkjjnlaoaa", sum := "ff5f3734ec2a9384140e688d87af4c63b91f540b97dcdf292f1c3087151f1505", func := "loop.example/g01095/laws.FnExactLeastDominating", spec := "fnExactLeastDominating", unfollowed := true, recurses := true, apart := false }
def FnExactLeastDominatingSaid : Prop := fnExactLeastDominatingRow.holds Try.pinned (OpenSpec.ofChange fnExactLeastDominatingSpec)

/-- ITS FALSE NEIGHBOUR: 'it returns false'. Refute it at one input. -/
def fnExactLeastDominatingWrong : ChangeSpec := { name := "fnExactLeastDominating", fn := fun _ => fun
  | [d] => { results := [.lit (.bool false)], args := [d] }
  | _ => none }
def FnExactLeastDominatingWrongFalsely : Prop := fnExactLeastDominatingRow.holds Try.pinned (OpenSpec.ofChange fnExactLeastDominatingWrong)

/-- 'laws.FnExactKemenyRanking': WHATEVER THE INPUT: true; the input reads as it did. -/
def fnExactKemenyRankingSpec : ChangeSpec := { name := "fnExactKemenyRanking", fn := fun _ => fun
  | [d] => { results := [.lit (.bool true)], args := [d] }
  | _ => none }
def fnExactKemenyRankingRow : OpenClaim := { program := "ytmeeomkjjnlaoaa", sum := "ff5f3734ec2a9384140e688d87af4c63b91f540b97dcdf292f1c3087151f1505", func := "loop.example/g01095/laws.FnExactKemenyRanking", spec := "fnExactKemenyRanking", unfollowed := true, recurses := true, apart := false }
def FnExactKemenyRankingSaid : Prop := fnExactKemenyRankingRow.holds Try.pinned (OpenSpec.ofChange fnExactKemenyRankingSpec)

/-- ITS FALSE NEIGHBOUR: 'it returns false'. Refute it at one input. -/
def fnExactKemenyRankingWrong : ChangeSpec := { name := "fnExactKemenyRanking", fn := fun _ => fun
  | [d] => { results := [.lit (.bool false)], args := [d] }
  | _ => none }
def FnExactKemenyRankingWrongFalsely : Prop := fnExactKemenyRankingRow.holds Try.pinned (OpenSpec.ofChange fnExactKemenyRankingWrong)

/-- 'laws.FnExactUnjustifiedGroup': WHATEVER THE INPUT: true; the input reads as it did. -/
def fnExactUnjustifiedGroupSpec : ChangeSpec := { name := "fnExactUnjustifiedGroup", fn := fun _ => fun
  | [d1, d2] => { results := [.lit (.bool true)], args := [d1, d2] }
  | _ => none }
def fnExactUnjustifiedGroupRow : OpenClaim := { program := "ytmeeomkjjnlaoaa", sum := "ff5f3734ec2a9384140e688d87af4c63b91f540b97dcdf292f1c3087151f1505", func := "loop.example/g01095/laws.FnExactUnjustifiedGroup", spec := "fnExactUnjustifiedGroup", unfollowed := true, recurses := true, apart := false }
def FnExactUnjustifiedGroupSaid : Prop := fnExactUnjustifiedGroupRow.holds Try.pinned (OpenSpec.ofChange fnExactUnjustifiedGroupSpec)

/-- ITS FALSE NEIGHBOUR: 'it returns false'. Refute it at one input. -/
def fnExactUnjustifiedGroupWrong : ChangeSpec := { name := "fnExactUnjustifiedGroup", fn := fun _ => fun
  | [d1, d2] => { results := [.lit (.bool false)], args := [d1, d2] }
  | _ => none }
def FnExactUnjustifiedGroupWrongFalsely : Prop := fnExactUnjustifiedGroupRow.holds Try.pinned (OpenSpec.ofChange fnExactUnjustifiedGroupWrong)

/- THE SECOND FORM. 'bulk': how many values and letters a reading holds, each counted each time it is reached (what is shared counts as often as it is met; a slice's spare places count too). A statement '..UptoSaid' is the law's where the arguments, and the package variables that the reading takes, are together of bulk at most 1048576: NARROWER than '..Said'. Prove '..Said' where nothing that the law and all that it calls make is longer than what came in: it says more and counts as full. Else prove '..UptoSaid'. A law counts once. -/
mutual
def uptoBulk {H : Type} : DataW H → Nat
  | .lit (.string bytes) => bytes.length + 1
  | .lit _ => 1
  | .nil => 1
  | .ptr d => uptoBulk d + 1
  | .slice elems spare => uptoBulkAll elems + uptoBulkAll spare + 1
  | .agg parts => uptoBulkAll parts + 1
  | .iface _ d => uptoBulk d + 1
  | .map entries => uptoBulkEntries entries + 1
  | .held _ => 1
def uptoBulkAll {H : Type} : List (DataW H) → Nat
  | [] => 0
  | d :: r => uptoBulk d + uptoBulkAll r
def uptoBulkEntries {H : Type} : List (Lit × DataW H) → Nat
  | [] => 0
  | x :: r => uptoBulkEntry x + uptoBulkEntries r
def uptoBulkEntry {H : Type} : Lit × DataW H → Nat
  | (.string bytes, d) => bytes.length + uptoBulk d + 1
  | (_, d) => uptoBulk d + 1
 end
def uptoSmall : (H : Type) → List (DataW H) → Bool := fun _ ds => decide (uptoBulkAll ds ≤ 1048576)
def OpenSpec.upto (s : _root_.Go.ChangeSpec) : _root_.Go.OpenSpec := { _root_.Go.OpenSpec.ofChange s with cond := some uptoSmall }

/-- 'laws.FnExactLockedDuels', WHERE WHAT IT READS IS OF BULK AT MOST 1048576: true; the input reads as it did. -/
def fnExactLockedDuelsUptoRow : OpenClaim := { program := "ytmeeomkjjnlaoaa", sum := "ff5f3734ec2a9384140e688d87af4c63b91f540b97dcdf292f1c3087151f1505", func := "loop.example/g01095/laws.FnExactLockedDuels", spec := "fnExactLockedDuels", unfollowed := true, recurses := true, apart := false, narrowed := true }
def FnExactLockedDuelsUptoSaid : Prop := fnExactLockedDuelsUptoRow.holds Try.pinned (OpenSpec.upto fnExactLockedDuelsSpec)

/-- 'laws.FnExactRankedOrder', WHERE WHAT IT READS IS OF BULK AT MOST 1048576: true; the input reads as it did. -/
def fnExactRankedOrderUptoRow : OpenClaim := { program := "ytmeeomkjjnlaoaa", sum := "ff5f3734ec2a9384140e688d87af4c63b91f540b97dcdf292f1c3087151f1505", func := "loop.example/g01095/laws.FnExactRankedOrder", spec := "fnExactRankedOrder", unfollowed := true, recurses := true, apart := false, narrowed := true }
def FnExactRankedOrderUptoSaid : Prop := fnExactRankedOrderUptoRow.holds Try.pinned (OpenSpec.upto fnExactRankedOrderSpec)

/-- 'laws.FnExactStrongestPath', WHERE WHAT IT READS IS OF BULK AT MOST 1048576: true; the input reads as it did. -/
def fnExactStrongestPathUptoRow : OpenClaim := { program := "ytmeeomkjjnlaoaa", sum := "ff5f3734ec2a9384140e688d87af4c63b91f540b97dcdf292f1c3087151f1505", func := "loop.example/g01095/laws.FnExactStrongestPath", spec := "fnExactStrongestPath", unfollowed := true, recurses := true, apart := false, narrowed := true }
def FnExactStrongestPathUptoSaid : Prop := fnExactStrongestPathUptoRow.holds Try.pinned (OpenSpec.upto fnExactStrongestPathSpec)

/-- 'laws.FnExactDefeatsAll', WHERE WHAT IT READS IS OF BULK AT MOST 1048576: true; the input reads as it did. -/
def fnExactDefeatsAllUptoRow : OpenClaim := { program := "ytmeeomkjjnlaoaa", sum := "ff5f3734ec2a9384140e688d87af4c63b91f540b97dcdf292f1c3087151f1505", func := "loop.example/g01095/laws.FnExactDefeatsAll", spec := "fnExactDefeatsAll", unfollowed := true, recurses := true, apart := false, narrowed := true }
def FnExactDefeatsAllUptoSaid : Prop := fnExactDefeatsAllUptoRow.holds Try.pinned (OpenSpec.upto fnExactDefeatsAllSpec)

/-- 'laws.FnExactLeastDominating', WHERE WHAT IT READS IS OF BULK AT MOST 1048576: true; the input reads as it did. -/
def fnExactLeastDominatingUptoRow : OpenClaim := { program := "ytmeeomkjjnlaoaa", sum := "ff5f3734ec2a9384140e688d87af4c63b91f540b97dcdf292f1c3087151f1505", func := "loop.example/g01095/laws.FnExactLeastDominating", spec := "fnExactLeastDominating", unfollowed := true, recurses := true, apart := false, narrowed := true }
def FnExactLeastDominatingUptoSaid : Prop := fnExactLeastDominatingUptoRow.holds Try.pinned (OpenSpec.upto fnExactLeastDominatingSpec)

/-- 'laws.FnExactKemenyRanking', WHERE WHAT IT READS IS OF BULK AT MOST 1048576: true; the input reads as it did. -/
def fnExactKemenyRankingUptoRow : OpenClaim := { program := "ytmeeomkjjnlaoaa", sum := "ff5f3734ec2a9384140e688d87af4c63b91f540b97dcdf292f1c3087151f1505", func := "loop.example/g01095/laws.FnExactKemenyRanking", spec := "fnExactKemenyRanking", unfollowed := true, recurses := true, apart := false, narrowed := true }
def FnExactKemenyRankingUptoSaid : Prop := fnExactKemenyRankingUptoRow.holds Try.pinned (OpenSpec.upto fnExactKemenyRankingSpec)

/-- 'laws.FnExactUnjustifiedGroup', WHERE WHAT IT READS IS OF BULK AT MOST 1048576: true; the input reads as it did. -/
def fnExactUnjustifiedGroupUptoRow : OpenClaim := { program := "ytmeeomkjjnlaoaa", sum := "ff5f3734ec2a9384140e688d87af4c63b91f540b97dcdf292f1c3087151f1505", func := "loop.example/g01095/laws.FnExactUnjustifiedGroup", spec := "fnExactUnjustifiedGroup", unfollowed := true, recurses := true, apart := false, narrowed := true }
def FnExactUnjustifiedGroupUptoSaid : Prop := fnExactUnjustifiedGroupUptoRow.holds Try.pinned (OpenSpec.upto fnExactUnjustifiedGroupSpec)

end Rows
end Go.Proofs.Ytmeeomkjjnlaoaa
