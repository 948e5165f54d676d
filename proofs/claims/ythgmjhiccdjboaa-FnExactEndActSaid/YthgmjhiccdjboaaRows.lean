/-
  No cell of these rows narrows 'for every input' (looked for: loops, veiled, ifaces, maps, wideKeys, modest, calm, conditions, laid).
  DERIVED. THE GIVEN ROWS OF THIS SEAT. 8 by the template 'for every input the law returns true; each argument reads behind the call as it read before'; 0 by the template 'total and deterministic' (their statements: YthgmjhiccdjboaaTotals.lean).
  GIVEN WITH THE SEED: the statements are not yours to turn. If you find one false, say at which input.
  Laid BY PROGRAM, IN A SANDBOX (cutbox-rows.mjs): the forced cells as the released guide's own fill.sh prints them over the translation 7c08a8f34ea2dc35… (all of the seat's roots in one cut). By AI agents, Wed Nov 11 2026. No macro, syntax, notation, axiom, sorry.
-/
import Derived.Test.YthgmjhiccdjboaaChecked
import GoSem.Claim
import GoSem.ClaimJoined
import GoSem.ClaimMapViews
import Derived.JoinedTies
import Derived.KernelRfl
namespace Go.Proofs.Ythgmjhiccdjboaa
/- THE CELL 'sum', in the pinned program and in every row, IS THE sha256 OF THE DUMP (.gsa) THAT YthgmjhiccdjboaaProg.lean LOADS. Nothing in Lean hashes anything: it is a label: what it is worth is what the hold of that sum in a sandbox is worth. -/
noncomputable def Try.pinned : Pinned := { name := "ythgmjhiccdjboaa", sum := "7c08a8f34ea2dc35b09d6870902814b5f27cd4595fc52b5e6a4a3cc0849551b2", checked := Try.checked }
namespace Rows
def none {H : Type} : Left H := { results := [], args := [] }

/-- 'laws.FnExactEndAct': WHATEVER THE INPUT: true; the input reads as it did. -/
def fnExactEndActSpec : ChangeSpec := { name := "fnExactEndAct", fn := fun _ => fun
  | [d1, d2, d3, d4] => { results := [.lit (.bool true)], args := [d1, d2, d3, d4] }
  | _ => none }
def fnExactEndActRow : OpenClaim := { program := "ythgmjhiccdjboaa", sum := "7c08a8f34ea2dc35b09d6870902814b5f27cd4595fc52b5e6a4a3cc0849551b2", func := "loop.example/g01095/laws.FnExactEndAct", spec := "fnExactEndAct", inPlace := ["slices.overlaps[loop.example/g01095/impl.Article]"], unfollowed := true, recurses := true, apart := false }
def FnExactEndActSaid : Prop := fnExactEndActRow.holds Try.pinned (OpenSpec.ofChange fnExactEndActSpec)

/-- ITS FALSE NEIGHBOUR: 'it returns false'. Refute it at one input. -/
def fnExactEndActWrong : ChangeSpec := { name := "fnExactEndAct", fn := fun _ => fun
  | [d1, d2, d3, d4] => { results := [.lit (.bool false)], args := [d1, d2, d3, d4] }
  | _ => none }
def FnExactEndActWrongFalsely : Prop := fnExactEndActRow.holds Try.pinned (OpenSpec.ofChange fnExactEndActWrong)

/-- 'laws.FnExactRebasePatch': WHATEVER THE INPUT: true; the input reads as it did. -/
def fnExactRebasePatchSpec : ChangeSpec := { name := "fnExactRebasePatch", fn := fun _ => fun
  | [d1, d2] => { results := [.lit (.bool true)], args := [d1, d2] }
  | _ => none }
def fnExactRebasePatchRow : OpenClaim := { program := "ythgmjhiccdjboaa", sum := "7c08a8f34ea2dc35b09d6870902814b5f27cd4595fc52b5e6a4a3cc0849551b2", func := "loop.example/g01095/laws.FnExactRebasePatch", spec := "fnExactRebasePatch", unfollowed := true, recurses := true, apart := false }
def FnExactRebasePatchSaid : Prop := fnExactRebasePatchRow.holds Try.pinned (OpenSpec.ofChange fnExactRebasePatchSpec)

/-- ITS FALSE NEIGHBOUR: 'it returns false'. Refute it at one input. -/
def fnExactRebasePatchWrong : ChangeSpec := { name := "fnExactRebasePatch", fn := fun _ => fun
  | [d1, d2] => { results := [.lit (.bool false)], args := [d1, d2] }
  | _ => none }
def FnExactRebasePatchWrongFalsely : Prop := fnExactRebasePatchRow.holds Try.pinned (OpenSpec.ofChange fnExactRebasePatchWrong)

/-- 'laws.FnExactChangeDays': WHATEVER THE INPUT: true; the input reads as it did. -/
def fnExactChangeDaysSpec : ChangeSpec := { name := "fnExactChangeDays", fn := fun _ => fun
  | [d1, d2] => { results := [.lit (.bool true)], args := [d1, d2] }
  | _ => none }
def fnExactChangeDaysRow : OpenClaim := { program := "ythgmjhiccdjboaa", sum := "7c08a8f34ea2dc35b09d6870902814b5f27cd4595fc52b5e6a4a3cc0849551b2", func := "loop.example/g01095/laws.FnExactChangeDays", spec := "fnExactChangeDays", inPlace := ["slices.overlaps[loop.example/g01095/impl.Article]"], unfollowed := true, recurses := true, apart := false }
def FnExactChangeDaysSaid : Prop := fnExactChangeDaysRow.holds Try.pinned (OpenSpec.ofChange fnExactChangeDaysSpec)

/-- ITS FALSE NEIGHBOUR: 'it returns false'. Refute it at one input. -/
def fnExactChangeDaysWrong : ChangeSpec := { name := "fnExactChangeDays", fn := fun _ => fun
  | [d1, d2] => { results := [.lit (.bool false)], args := [d1, d2] }
  | _ => none }
def FnExactChangeDaysWrongFalsely : Prop := fnExactChangeDaysRow.holds Try.pinned (OpenSpec.ofChange fnExactChangeDaysWrong)

/-- 'laws.FnExactApplyPatch': WHATEVER THE INPUT: true; the input reads as it did. -/
def fnExactApplyPatchSpec : ChangeSpec := { name := "fnExactApplyPatch", fn := fun _ => fun
  | [d1, d2] => { results := [.lit (.bool true)], args := [d1, d2] }
  | _ => none }
def fnExactApplyPatchRow : OpenClaim := { program := "ythgmjhiccdjboaa", sum := "7c08a8f34ea2dc35b09d6870902814b5f27cd4595fc52b5e6a4a3cc0849551b2", func := "loop.example/g01095/laws.FnExactApplyPatch", spec := "fnExactApplyPatch", inPlace := ["slices.overlaps[loop.example/g01095/impl.Article]"], unfollowed := true, recurses := true, apart := false }
def FnExactApplyPatchSaid : Prop := fnExactApplyPatchRow.holds Try.pinned (OpenSpec.ofChange fnExactApplyPatchSpec)

/-- ITS FALSE NEIGHBOUR: 'it returns false'. Refute it at one input. -/
def fnExactApplyPatchWrong : ChangeSpec := { name := "fnExactApplyPatch", fn := fun _ => fun
  | [d1, d2] => { results := [.lit (.bool false)], args := [d1, d2] }
  | _ => none }
def FnExactApplyPatchWrongFalsely : Prop := fnExactApplyPatchRow.holds Try.pinned (OpenSpec.ofChange fnExactApplyPatchWrong)

/-- 'laws.FnExactSourceOf': WHATEVER THE INPUT: true; the input reads as it did. -/
def fnExactSourceOfSpec : ChangeSpec := { name := "fnExactSourceOf", fn := fun _ => fun
  | [d1, d2, d3, d4] => { results := [.lit (.bool true)], args := [d1, d2, d3, d4] }
  | _ => none }
def fnExactSourceOfRow : OpenClaim := { program := "ythgmjhiccdjboaa", sum := "7c08a8f34ea2dc35b09d6870902814b5f27cd4595fc52b5e6a4a3cc0849551b2", func := "loop.example/g01095/laws.FnExactSourceOf", spec := "fnExactSourceOf", inPlace := ["slices.overlaps[loop.example/g01095/impl.Article]"], unfollowed := true, recurses := true, apart := false }
def FnExactSourceOfSaid : Prop := fnExactSourceOfRow.holds Try.pinned (OpenSpec.ofChange fnExactSourceOfSpec)

/-- ITS FALSE NEIGHBOUR: 'it returns false'. Refute it at one input. -/
def fnExactSourceOfWrong : ChangeSpec := { name := "fnExactSourceOf", fn := fun _ => fun
  | [d1, d2, d3, d4] => { results := [.lit (.bool false)], args := [d1, d2, d3, d4] }
  | _ => none }
def FnExactSourceOfWrongFalsely : Prop := fnExactSourceOfRow.holds Try.pinned (OpenSpec.ofChange fnExactSourceOfWrong)

/-- 'laws.FnExactTextOn': WHATEVER THE INPUT: true; the input reads as it did. -/
def fnExactTextOnSpec : ChangeSpec := { name := "fnExactTextOn", fn := fun _ => fun
  | [d1, d2, d3] => { results := [.lit (.bool true)], args := [d1, d2, d3] }
  | _ => none }
def fnExactTextOnRow : OpenClaim := { program := "ythgmjhiccdjboaa", sum := "7c08a8f34ea2dc35b09d6870902814b5f27cd4595fc52b5e6a4a3cc0849551b2", func := "loop.example/g01095/laws.FnExactTextOn", spec := "fnExactTextOn", inPlace := ["slices.overlaps[loop.example/g01095/impl.Article]"], unfollowed := true, recurses := true, apart := false }
def FnExactTextOnSaid : Prop := fnExactTextOnRow.holds Try.pinned (OpenSpec.ofChange fnExactTextOnSpec)

/-- ITS FALSE NEIGHBOUR: 'it returns false'. Refute it at one input. -/
def fnExactTextOnWrong : ChangeSpec := { name := "fnExactTextOn", fn := fun _ => fun
  | [d1, d2, d3] => { results := [.lit (.bool false)], args := [d1, d2, d3] }
  | _ => none }
def FnExactTextOnWrongFalsely : Prop := fnExactTextOnRow.holds Try.pinned (OpenSpec.ofChange fnExactTextOnWrong)

/-- 'laws.FnExactMergePatches': WHATEVER THE INPUT: true; the input reads as it did. -/
def fnExactMergePatchesSpec : ChangeSpec := { name := "fnExactMergePatches", fn := fun _ => fun
  | [d1, d2] => { results := [.lit (.bool true)], args := [d1, d2] }
  | _ => none }
def fnExactMergePatchesRow : OpenClaim := { program := "ythgmjhiccdjboaa", sum := "7c08a8f34ea2dc35b09d6870902814b5f27cd4595fc52b5e6a4a3cc0849551b2", func := "loop.example/g01095/laws.FnExactMergePatches", spec := "fnExactMergePatches", unfollowed := true, recurses := true, apart := false }
def FnExactMergePatchesSaid : Prop := fnExactMergePatchesRow.holds Try.pinned (OpenSpec.ofChange fnExactMergePatchesSpec)

/-- ITS FALSE NEIGHBOUR: 'it returns false'. Refute it at one input. -/
def fnExactMergePatchesWrong : ChangeSpec := { name := "fnExactMergePatches", fn := fun _ => fun
  | [d1, d2] => { results := [.lit (.bool false)], args := [d1, d2] }
  | _ => none }
def FnExactMergePatchesWrongFalsely : Prop := fnExactMergePatchesRow.holds Try.pinned (OpenSpec.ofChange fnExactMergePatchesWrong)

/-- 'laws.FnExactBrokenDays': WHATEVER THE INPUT: true; the input reads as it did. -/
def fnExactBrokenDaysSpec : ChangeSpec := { name := "fnExactBrokenDays", fn := fun _ => fun
  | [d1, d2] => { results := [.lit (.bool true)], args := [d1, d2] }
  | _ => none }
def fnExactBrokenDaysRow : OpenClaim := { program := "ythgmjhiccdjboaa", sum := "7c08a8f34ea2dc35b09d6870902814b5f27cd4595fc52b5e6a4a3cc0849551b2", func := "loop.example/g01095/laws.FnExactBrokenDays", spec := "fnExactBrokenDays", inPlace := ["slices.overlaps[loop.example/g01095/impl.Article]"], unfollowed := true, recurses := true, apart := false }
def FnExactBrokenDaysSaid : Prop := fnExactBrokenDaysRow.holds Try.pinned (OpenSpec.ofChange fnExactBrokenDaysSpec)

/-- ITS FALSE NEIGHBOUR: 'it returns false'. Refute it at one input. -/
def fnExactBrokenDaysWrong : ChangeSpec := { name := "fnExactBrokenDays", fn := fun _ => fun
  | [d1, d2] => { results := [.lit (.bool false)], args := [d1, d2] }
  | _ => none }
def FnExactBrokenDaysWrongFalsely : Prop := fnExactBrokenDaysRow.holds Try.pinned (OpenSpec.ofChange fnExactBrokenDaysWrong)

/- THE SECOND FORM. 'bulk': how many values and letters a reading holds, each counted each time it is reached (what is shared counts as often as it is met; a slice's spare places count too). A statement '..UptoSaid' is the law's where the arguments, and the package variables that the reading takes, are together of bulk at most 1048576: NARROWER than '..Said'. Prove '..Said' where nothing that the law and all that it calls make is longer than what came in: it says more and counts as full. Else prove '..UptoSaid'. A law counts once. -/
mutual
def uptoBulk {H : Type} : DataW H → Nat
  | .lit (.string bytes) => bytes.length + 1
  | .lit _ => 1
  | .nil => 1
  | .ptr d => uptoBulk d + 1
  | .slice elems spare => uptoBulkAll elems + uptoBulkAll spare + 1
  | .agg parts => uptoBulkAll parts + 1
  | .iface _ d => uptoBulk d + 1
  | .map entries => uptoBulkEntries entries + 1
  | .held _ => 1
def uptoBulkAll {H : Type} : List (DataW H) → Nat
  | [] => 0
  | d :: r => uptoBulk d + uptoBulkAll r
def uptoBulkEntries {H : Type} : List (Lit × DataW H) → Nat
  | [] => 0
  | x :: r => uptoBulkEntry x + uptoBulkEntries r
def uptoBulkEntry {H : Type} : Lit × DataW H → Nat
  | (.string bytes, d) => bytes.length + uptoBulk d + 1
  | (_, d) => uptoBulk d + 1
 end
def uptoSmall : (H : Type) → List (DataW H) → Bool := fun _ ds => decide (uptoBulkAll ds ≤ 1048576)
def OpenSpec.upto (s : _root_.Go.ChangeSpec) : _root_.Go.OpenSpec := { _root_.Go.OpenSpec.ofChange s with cond := some uptoSmall }

/-- 'laws.FnExactEndAct', WHERE WHAT IT READS IS OF BULK AT MOST 1048576: true; the input reads as it did. -/
def fnExactEndActUptoRow : OpenClaim := { program := "ythgmjhiccdjboaa", sum := "7c08a8f34ea2dc35b09d6870902814b5f27cd4595fc52b5e6a4a3cc0849551b2", func := "loop.example/g01095/laws.FnExactEndAct", spec := "fnExactEndAct", inPlace := ["slices.overlaps[loop.example/g01095/impl.Article]"], unfollowed := true, recurses := true, apart := false, narrowed := true }
def FnExactEndActUptoSaid : Prop := fnExactEndActUptoRow.holds Try.pinned (OpenSpec.upto fnExactEndActSpec)

/-- 'laws.FnExactRebasePatch', WHERE WHAT IT READS IS OF BULK AT MOST 1048576: true; the input reads as it did. -/
def fnExactRebasePatchUptoRow : OpenClaim := { program := "ythgmjhiccdjboaa", sum := "7c08a8f34ea2dc35b09d6870902814b5f27cd4595fc52b5e6a4a3cc0849551b2", func := "loop.example/g01095/laws.FnExactRebasePatch", spec := "fnExactRebasePatch", unfollowed := true, recurses := true, apart := false, narrowed := true }
def FnExactRebasePatchUptoSaid : Prop := fnExactRebasePatchUptoRow.holds Try.pinned (OpenSpec.upto fnExactRebasePatchSpec)

/-- 'laws.FnExactChangeDays', WHERE WHAT IT READS IS OF BULK AT MOST 1048576: true; the input reads as it did. -/
def fnExactChangeDaysUptoRow : OpenClaim := { program := "ythgmjhiccdjboaa", sum := "7c08a8f34ea2dc35b09d6870902814b5f27cd4595fc52b5e6a4a3cc0849551b2", func := "loop.example/g01095/laws.FnExactChangeDays", spec := "fnExactChangeDays", inPlace := ["slices.overlaps[loop.example/g01095/impl.Article]"], unfollowed := true, recurses := true, apart := false, narrowed := true }
def FnExactChangeDaysUptoSaid : Prop := fnExactChangeDaysUptoRow.holds Try.pinned (OpenSpec.upto fnExactChangeDaysSpec)

/-- 'laws.FnExactApplyPatch', WHERE WHAT IT READS IS OF BULK AT MOST 1048576: true; the input reads as it did. -/
def fnExactApplyPatchUptoRow : OpenClaim := { program := "ythgmjhiccdjboaa", sum := "7c08a8f34ea2dc35b09d6870902814b5f27cd4595fc52b5e6a4a3cc0849551b2", func := "loop.example/g01095/laws.FnExactApplyPatch", spec := "fnExactApplyPatch", inPlace := ["slices.overlaps[loop.example/g01095/impl.Article]"], unfollowed := true, recurses := true, apart := false, narrowed := true }
def FnExactApplyPatchUptoSaid : Prop := fnExactApplyPatchUptoRow.holds Try.pinned (OpenSpec.upto fnExactApplyPatchSpec)

/-- 'laws.FnExactSourceOf', WHERE WHAT IT READS IS OF BULK AT MOST 1048576: true; the input reads as it did. -/
def fnExactSourceOfUptoRow : OpenClaim := { program := "ythgmjhiccdjboaa", sum := "7c08a8f34ea2dc35b09d6870902814b5f27cd4595fc52b5e6a4a3cc0849551b2", func := "loop.example/g01095/laws.FnExactSourceOf", spec := "fnExactSourceOf", inPlace := ["slices.overlaps[loop.example/g01095/impl.Article]"], unfollowed := true, recurses := true, apart := false, narrowed := true }
def FnExactSourceOfUptoSaid : Prop := fnExactSourceOfUptoRow.holds Try.pinned (OpenSpec.upto fnExactSourceOfSpec)

/-- 'laws.FnExactTextOn', WHERE WHAT IT READS IS OF BULK AT MOST 1048576: true; the input reads as it did. -/
def fnExactTextOnUptoRow : OpenClaim := { program := "ythgmjhiccdjboaa", sum := "7c08a8f34ea2dc35b09d6870902814b5f27cd4595fc52b5e6a4a3cc0849551b2", func := "loop.example/g01095/laws.FnExactTextOn", spec := "fnExactTextOn", inPlace := ["slices.overlaps[loop.example/g01095/impl.Article]"], unfollowed := true, recurses := true, apart := false, narrowed := true }
def FnExactTextOnUptoSaid : Prop := fnExactTextOnUptoRow.holds Try.pinned (OpenSpec.upto fnExactTextOnSpec)

/-- 'laws.FnExactMergePatches', WHERE WHAT IT READS IS OF BULK AT MOST 1048576: true; the input reads as it did. -/
def fnExactMergePatchesUptoRow : OpenClaim := { program := "ythgmjhiccdjboaa", sum := "7c08a8f34ea2dc35b09d6870902814b5f27cd4595fc52b5e6a4a3cc0849551b2", func := "loop.example/g01095/laws.FnExactMergePatches", spec := "fnExactMergePatches", unfollowed := true, recurses := true, apart := false, narrowed := true }
def FnExactMergePatchesUptoSaid : Prop := fnExactMergePatchesUptoRow.holds Try.pinned (OpenSpec.upto fnExactMergePatchesSpec)

/-- 'laws.FnExactBrokenDays', WHERE WHAT IT READS IS OF BULK AT MOST 1048576: true; the input reads as it did. -/
def fnExactBrokenDaysUptoRow : OpenClaim := { program := "ythgmjhiccdjboaa", sum := "7c08a8f34ea2dc35b09d6870902814b5f27cd4595fc52b5e6a4a3cc0849551b2", func := "loop.example/g01095/laws.FnExactBrokenDays", spec := "fnExactBrokenDays", inPlace := ["slices.overlaps[loop.example/g01095/impl.Article]"], unfollowed := true, recurses := true, apart := false, narrowed := true }
def FnExactBrokenDaysUptoSaid : Prop := fnExactBrokenDaysUptoRow.holds Try.pinned (OpenSpec.upto fnExactBrokenDaysSpec)

end Rows
end Go.Proofs.Ythgmjhiccdjboaa
