/-
  No cell of these rows narrows 'for every input' (looked for: loops, veiled, ifaces, maps, wideKeys, modest, calm, conditions, laid).
  DERIVED. THE GIVEN ROWS OF THIS SEAT. 4 by the template 'for every input the law returns true; each argument reads behind the call as it read before'; 0 by the template 'total and deterministic' (their statements: YtogfoieenmlijaaTotals.lean).
  GIVEN WITH THE SEED: the statements are not yours to turn. If you find one false, say at which input.
  Laid BY PROGRAM, IN A SANDBOX (cutbox-rows.mjs): the forced cells as the released guide's own fill.sh prints them over the translation 11edea4377bb410a… (all of the seat's roots in one cut). By AI agents, Wed Nov 11 2026. No macro, syntax, notation, axiom, sorry.
-/
import Derived.Test.YtogfoieenmlijaaChecked
import GoSem.Claim
import GoSem.ClaimJoined
import GoSem.ClaimMapViews
import Derived.JoinedTies
import Derived.KernelRfl
namespace Go.Proofs.Ytogfoieenmlijaa
/- THE CELL 'sum', in the pinned program and in every row, IS THE sha256 OF THE DUMP (.gsa) THAT YtogfoieenmlijaaProg.lean LOADS. Nothing in Lean hashes anything: it is a label: what it is worth is what the hold of that sum in a sandbox is worth. -/
noncomputable def Try.pinned : Pinned := { name := "ytogfoieenmlijaa", sum := "11edea4377bb410a2073709308603f3b1d37e52377abb1728121cfab3ce9767c", checked := Try.checked }
namespace Rows
def none {H : Type} : Left H := { results := [], args := [] }

/-- 'laws.FnExactValidStatute': WHATEVER THE INPUT: true; the input reads as it did. -/
def fnExactValidStatuteSpec : ChangeSpec := { name := "fnExactValidStatute", fn := fun _ => fun
  | [d] => { results := [.lit (.bool true)], args := [d] }
  | _ => none }
def fnExactValidStatuteRow : OpenClaim := { program := "ytogfoieenmlijaa", sum := "11edea4377bb410a2073709308603f3b1d37e52377abb1728121cfab3ce9767c", func := "loop.example/g01095/laws.FnExactValidStatute", spec := "fnExactValidStatute", apart := false }
def FnExactValidStatuteSaid : Prop := fnExactValidStatuteRow.holds Try.pinned (OpenSpec.ofChange fnExactValidStatuteSpec)

/-- ITS FALSE NEIGHBOUR: 'it returns false'. Refute it at one input. -/
def fnExactValidStatuteWrong : ChangeSpec := { name := "fnExactValidStatute", fn := fun _ => fun
  | [d] => { results := [.lit (.bool false)], args := [d] }
  | _ => none }
def FnExactValidStatuteWrongFalsely : Prop := fnExactValidStatuteRow.holds Try.pinned (OpenSpec.ofChange fnExactValidStatuteWrong)

/-- 'laws.FnExactValidPatch': WHATEVER THE INPUT: true; the input reads as it did. -/
def fnExactValidPatchSpec : ChangeSpec := { name := "fnExactValidPatch", fn := fun _ => fun
  | [d] => { results := [.lit (.bool true)], args := [d] }
  | _ => none }
def fnExactValidPatchRow : OpenClaim := { program := "ytogfoieenmlijaa", sum := "11edea4377bb410a2073709308603f3b1d37e52377abb1728121cfab3ce9767c", func := "loop.example/g01095/laws.FnExactValidPatch", spec := "fnExactValidPatch", apart := false }
def FnExactValidPatchSaid : Prop := fnExactValidPatchRow.holds Try.pinned (OpenSpec.ofChange fnExactValidPatchSpec)

/-- ITS FALSE NEIGHBOUR: 'it returns false'. Refute it at one input. -/
def fnExactValidPatchWrong : ChangeSpec := { name := "fnExactValidPatch", fn := fun _ => fun
  | [d] => { results := [.lit (.bool false)], args := [d] }
  | _ => none }
def FnExactValidPatchWrongFalsely : Prop := fnExactValidPatchRow.holds Try.pinned (OpenSpec.ofChange fnExactValidPatchWrong)

/-- 'laws.FnExactValidFrame': WHATEVER THE INPUT: true; the input reads as it did. -/
def fnExactValidFrameSpec : ChangeSpec := { name := "fnExactValidFrame", fn := fun _ => fun
  | [d] => { results := [.lit (.bool true)], args := [d] }
  | _ => none }
def fnExactValidFrameRow : OpenClaim := { program := "ytogfoieenmlijaa", sum := "11edea4377bb410a2073709308603f3b1d37e52377abb1728121cfab3ce9767c", func := "loop.example/g01095/laws.FnExactValidFrame", spec := "fnExactValidFrame", apart := false }
def FnExactValidFrameSaid : Prop := fnExactValidFrameRow.holds Try.pinned (OpenSpec.ofChange fnExactValidFrameSpec)

/-- ITS FALSE NEIGHBOUR: 'it returns false'. Refute it at one input. -/
def fnExactValidFrameWrong : ChangeSpec := { name := "fnExactValidFrame", fn := fun _ => fun
  | [d] => { results := [.lit (.bool false)], args := [d] }
  | _ => none }
def FnExactValidFrameWrongFalsely : Prop := fnExactValidFrameRow.holds Try.pinned (OpenSpec.ofChange fnExactValidFrameWrong)

/-- 'laws.FnExactValidActs': WHATEVER THE INPUT: true; the input reads as it did. -/
def fnExactValidActsSpec : ChangeSpec := { name := "fnExactValidActs", fn := fun _ => fun
  | [d] => { results := [.lit (.bool true)], args := [d] }
  | _ => none }
def fnExactValidActsRow : OpenClaim := { program := "ytogfoieenmlijaa", sum := "11edea4377bb410a2073709308603f3b1d37e52377abb1728121cfab3ce9767c", func := "loop.example/g01095/laws.FnExactValidActs", spec := "fnExactValidActs", apart := false }
def FnExactValidActsSaid : Prop := fnExactValidActsRow.holds Try.pinned (OpenSpec.ofChange fnExactValidActsSpec)

/-- ITS FALSE NEIGHBOUR: 'it returns false'. Refute it at one input. -/
def fnExactValidActsWrong : ChangeSpec := { name := "fnExactValidActs", fn := fun _ => fun
  | [d] => { results := [.lit (.bool false)], args := [d] }
  | _ => none }
def FnExactValidActsWrongFalsely : Prop := fnExactValidActsRow.holds Try.pinned (OpenSpec.ofChange fnExactValidActsWrong)

/- THE SECOND FORM. 'bulk': how many values and letters a reading holds, each counted each time it is reached (what is shared counts as often as it is met; a slice's spare places count too). A statement '..UptoSaid' is the law's where the arguments, and the package variables that the reading takes, are together of bulk at most 1048576: NARROWER than '..Said'. Prove '..Said' where nothing that the law and all that it calls make is longer than what came in: it says more and counts as full. Else prove '..UptoSaid'. A law counts once. -/
mutual
def uptoBulk {H : Type} : DataW H → Nat
  | .lit (.string bytes) => bytes.length + 1
  | .lit _ => 1
  | .nil => 1
  | .ptr d => uptoBulk d + 1
  | .slice elems spare => uptoBulkAll elems + uptoBulkAll spare + 1
  | .agg parts => uptoBulkAll parts + 1
  | .iface _ d => uptoBulk d + 1
  | .map entries => uptoBulkEntries entries + 1
  | .held _ => 1
def uptoBulkAll {H : Type} : List (DataW H) → Nat
  | [] => 0
  | d :: r => uptoBulk d + uptoBulkAll r
def uptoBulkEntries {H : Type} : List (Lit × DataW H) → Nat
  | [] => 0
  | x :: r => uptoBulkEntry x + uptoBulkEntries r
def uptoBulkEntry {H : Type} : Lit × DataW H → Nat
  | (.string bytes, d) => bytes.length + uptoBulk d + 1
  | (_, d) => uptoBulk d + 1
 end
def uptoSmall : (H : Type) → List (DataW H) → Bool := fun _ ds => decide (uptoBulkAll ds ≤ 1048576)
def OpenSpec.upto (s : _root_.Go.ChangeSpec) : _root_.Go.OpenSpec := { _root_.Go.OpenSpec.ofChange s with cond := some uptoSmall }

/-- 'laws.FnExactValidStatute', WHERE WHAT IT READS IS OF BULK AT MOST 1048576: true; the input reads as it did. -/
def fnExactValidStatuteUptoRow : OpenClaim := { program := "ytogfoieenmlijaa", sum := "11edea4377bb410a2073709308603f3b1d37e52377abb1728121cfab3ce9767c", func := "loop.example/g01095/laws.FnExactValidStatute", spec := "fnExactValidStatute", apart := false, narrowed := true }
def FnExactValidStatuteUptoSaid : Prop := fnExactValidStatuteUptoRow.holds Try.pinned (OpenSpec.upto fnExactValidStatuteSpec)

/-- 'laws.FnExactValidPatch', WHERE WHAT IT READS IS OF BULK AT MOST 1048576: true; the input reads as it did. -/
def fnExactValidPatchUptoRow : OpenClaim := { program := "ytogfoieenmlijaa", sum := "11edea4377bb410a2073709308603f3b1d37e52377abb1728121cfab3ce9767c", func := "loop.example/g01095/laws.FnExactValidPatch", spec := "fnExactValidPatch", apart := false, narrowed := true }
def FnExactValidPatchUptoSaid : Prop := fnExactValidPatchUptoRow.holds Try.pinned (OpenSpec.upto fnExactValidPatchSpec)

/-- 'laws.FnExactValidFrame', WHERE WHAT IT READS IS OF BULK AT MOST 1048576: true; the input reads as it did. -/
def fnExactValidFrameUptoRow : OpenClaim := { program := "ytogfoieenmlijaa", sum := "11edea4377bb410a2073709308603f3b1d37e52377abb1728121cfab3ce9767c", func := "loop.example/g01095/laws.FnExactValidFrame", spec := "fnExactValidFrame", apart := false, narrowed := true }
def FnExactValidFrameUptoSaid : Prop := fnExactValidFrameUptoRow.holds Try.pinned (OpenSpec.upto fnExactValidFrameSpec)

/-- 'laws.FnExactValidActs', WHERE WHAT IT READS IS OF BULK AT MOST 1048576: true; the input reads as it did. -/
def fnExactValidActsUptoRow : OpenClaim := { program := "ytogfoieenmlijaa", sum := "11edea4377bb410a2073709308603f3b1d37e52377abb1728121cfab3ce9767c", func := "loop.example/g01095/laws.FnExactValidActs", spec := "fnExactValidActs", apart := false, narrowed := true }
def FnExactValidActsUptoSaid : Prop := fnExactValidActsUptoRow.holds Try.pinned (OpenSpec.upto fnExactValidActsSpec)

end Rows
end Go.Proofs.Ytogfoieenmlijaa
