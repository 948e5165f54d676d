/-
  No cell of these rows narrows 'for every input' (looked for: loops, veiled, ifaces, maps, wideKeys, modest, calm, conditions, laid).
  DERIVED. THE GIVEN ROWS OF THIS SEAT. 2 by the template 'for every input the law returns true; each argument reads behind the call as it read before'; 0 by the template 'total and deterministic' (their statements: YtbmeejcmbnjncaaTotals.lean).
  GIVEN WITH THE SEED: the statements are not yours to turn. If you find one false, say at which input.
  Laid BY PROGRAM, IN A SANDBOX (cutbox-rows.mjs): the forced cells as the released guide's own fill.sh prints them over the translation 613529085c2236e4… (all of the seat's roots in one cut). By AI agents, Wed Nov 11 2026. No macro, syntax, notation, axiom, sorry.
-/
import Derived.Test.YtbmeejcmbnjncaaChecked
import GoSem.Claim
import GoSem.ClaimJoined
import GoSem.ClaimMapViews
import Derived.JoinedTies
import Derived.KernelRfl
namespace Go.Proofs.Ytbmeejcmbnjncaa
/- THE CELL 'sum', in the pinned program and in every row, IS THE sha256 OF THE DUMP (.gsa) THAT YtbmeejcmbnjncaaProg.lean LOADS. Nothing in Lean hashes anything: it is a label: what it is worth is what the hold of that sum in a sandbox is worth. -/
noncomputable def Try.pinned : Pinned := { name := "ytbmeejcmbnjncaa", sum := "613529085c2236e404db30f3e86cc55c37e0f93078658a5b0d43728c259ddb84", checked := Try.checked }
namespace Rows
def none {H : Type} : Left H := { results := [], args := [] }

/-- 'laws.FnExactChangeDays': WHATEVER THE INPUT: true; the input reads as it did. -/
def fnExactChangeDaysSpec : ChangeSpec := { name := "fnExactChangeDays", fn := fun _ => fun
  | [d1, d2] => { results := [.lit (.bool true)], args := [d1, d2] }
  | _ => none }
def fnExactChangeDaysRow : OpenClaim := { program := "ytbmeejcmbnjncaa", sum := "613529085c2236e404db30f3e86cc55c37e0f93078658a5b0d43728c259ddb84", func := "loop.example/g01095/laws.FnExactChangeDays", spec := "fnExactChangeDays", inPlace := ["slices.overlaps[loop.example/g01095/impl.Article]"], unfollowed := true, recurses := true, apart := false }
def FnExactChangeDaysSaid : Prop := fnExactChangeDaysRow.holds Try.pinned (OpenSpec.ofChange fnExactChangeDaysSpec)

/-- ITS FALSE NEIGHBOUR: 'it returns false'. Refute it at one input. -/
def fnExactChangeDaysWrong : ChangeSpec := { name := "fnExactChangeDays", fn := fun _ => fun
  | [d1, d2] => { results := [.lit (.bool false)], args := [d1, d2] }
  | _ => none }
def FnExactChangeDaysWrongFalsely : Prop := fnExactChangeDaysRow.holds Try.pinned (OpenSpec.ofChange fnExactChangeDaysWrong)

/-- 'laws.FnExactMergePatches': WHATEVER THE INPUT: true; the input reads as it did. -/
def fnExactMergePatchesSpec : ChangeSpec := { name := "fnExactMergePatches", fn := fun _ => fun
  | [d1, d2] => { results := [.lit (.bool true)], args := [d1, d2] }
  | _ => none }
def fnExactMergePatchesRow : OpenClaim := { program := "ytbmeejcmbnjncaa", sum := "613529085c2236e404db30f3e86cc55c37e0f93078658a5b0d43728c259ddb84", func := "loop.example/g01095/laws.FnExactMergePatches", spec := "fnExactMergePatches", unfollowed := true, recurses := true, apart := false }
def FnExactMergePatchesSaid : Prop := fnExactMergePatchesRow.holds Try.pinned (OpenSpec.ofChange fnExactMergePatchesSpec)

/-- ITS FALSE NEIGHBOUR: 'it returns false'. Refute it at one input. -/
def fnExactMergePatchesWrong : ChangeSpec := { name := "fnExactMergePatches", fn := fun _ => fun
  | [d1, d2] => { results := [.lit (.bool false)], args := [d1, d2] }
  | _ => none }
def FnExactMergePatchesWrongFalsely : Prop := fnExactMergePatchesRow.holds Try.pinned (OpenSpec.ofChange fnExactMergePatchesWrong)

/- THE SECOND FORM. 'bulk': how many values and letters a reading holds, each counted each time it is reached (what is shared counts as often as it is met; a slice's spare places count too). A statement '..UptoSaid' is the law's where the arguments, and the package variables that the reading takes, are together of bulk at most 1048576: NARROWER than '..Said'. Prove '..Said' where nothing that the law and all that it calls make is longer than what came in: it says more and counts as full. Else prove '..UptoSaid'. A law counts once. -/
mutual
def uptoBulk {H : Type} : DataW H → Nat
  | .lit (.string bytes) => bytes.length + 1
  | .lit _ => 1
  | .nil => 1
  | .ptr d => uptoBulk d + 1
  | .slice elems spare => uptoBulkAll elems + uptoBulkAll spare + 1
  | .agg parts => uptoBulkAll parts + 1
  | .iface _ d => uptoBulk d + 1
  | .map entries => uptoBulkEntries entries + 1
  | .held _ => 1
def uptoBulkAll {H : Type} : List (DataW H) → Nat
  | [] => 0
  | d :: r => uptoBulk d + uptoBulkAll r
def uptoBulkEntries {H : Type} : List (Lit × DataW H) → Nat
  | [] => 0
  | x :: r => uptoBulkEntry x + uptoBulkEntries r
def uptoBulkEntry {H : Type} : Lit × DataW H → Nat
  | (.string bytes, d) => bytes.length + uptoBulk d + 1
  | (_, d) => uptoBulk d + 1
 end
def uptoSmall : (H : Type) → List (DataW H) → Bool := fun _ ds => decide (uptoBulkAll ds ≤ 1048576)
def OpenSpec.upto (s : _root_.Go.ChangeSpec) : _root_.Go.OpenSpec := { _root_.Go.OpenSpec.ofChange s with cond := some uptoSmall }

/-- 'laws.FnExactChangeDays', WHERE WHAT IT READS IS OF BULK AT MOST 1048576: true; the input reads as it did. -/
def fnExactChangeDaysUptoRow : OpenClaim := { program := "ytbmeejcmbnjncaa", sum := "613529085c2236e404db30f3e86cc55c37e0f93078658a5b0d43728c259ddb84", func := "loop.example/g01095/laws.FnExactChangeDays", spec := "fnExactChangeDays", inPlace := ["slices.overlaps[loop.example/g01095/impl.Article]"], unfollowed := true, recurses := true, apart := false, narrowed := true }
def FnExactChangeDaysUptoSaid : Prop := fnExactChangeDaysUptoRow.holds Try.pinned (OpenSpec.upto fnExactChangeDaysSpec)

/-- 'laws.FnExactMergePatches', WHERE WHAT IT READS IS OF BULK AT MOST 1048576: true; the input reads as it did. -/
def fnExactMergePatchesUptoRow : OpenClaim := { program := "ytbmeejcmbnjncaa", sum := "613529085c2236e404db30f3e86cc55c37e0f93078658a5b0d43728c259ddb84", func := "loop.example/g01095/laws.FnExactMergePatches", spec := "fnExactMergePatches", unfollowed := true, recurses := true, apart := false, narrowed := true }
def FnExactMergePatchesUptoSaid : Prop := fnExactMergePatchesUptoRow.holds Try.pinned (OpenSpec.upto fnExactMergePatchesSpec)

end Rows
end Go.Proofs.Ytbmeejcmbnjncaa
