/-
  No cell of these rows narrows 'for every input' (looked for: loops, veiled, ifaces, maps, wideKeys, modest, calm, conditions, laid).
  DERIVED. THE GIVEN ROWS OF THIS SEAT. 9 by the template 'for every input the law returns true; each argument reads behind the call as it read before'; 0 by the template 'total and deterministic' (their statements: YtcginliajfemcaaTotals.lean).
  GIVEN WITH THE SEED: the statements are not yours to turn. If you find one false, say at which input.
  Laid BY PROGRAM, IN A SANDBOX (cutbox-rows.mjs): the forced cells as the released guide's own fill.sh prints them over the translation b7d20d6ed7e9c03c… (all of the seat's roots in one cut). By AI agents, Wed Nov 11 2026. No macro, syntax, notation, axiom, sorry.
-/
import Derived.Test.YtcginliajfemcaaChecked
import GoSem.Claim
import GoSem.ClaimJoined
import GoSem.ClaimMapViews
import Derived.JoinedTies
import Derived.KernelRfl
namespace Go.Proofs.Ytcginliajfemcaa
/- THE CELL 'sum', in the pinned program and in every row, IS THE sha256 OF THE DUMP (.gsa) THAT YtcginliajfemcaaProg.lean LOADS. Nothing in Lean hashes anything: it is a label: what it is worth is what the hold of that sum in a sandbox is worth. -/
noncomputable def Try.pinned : Pinned := { name := "ytcginliajfemcaa", sum := "b7d20d6ed7e9c03cff87608e939f7a593d78afcb2af7d485ce70fb161515a6d6", checked := Try.checked }
namespace Rows
def none {H : Type} : Left H := { results := [], args := [] }

/-- 'laws.FnExactValidFrame': WHATEVER THE INPUT: true; the input reads as it did. -/
def fnExactValidFrameSpec : ChangeSpec := { name := "fnExactValidFrame", fn := fun _ => fun
  | [d] => { results := [.lit (.bool true)], args := [d] }
  | _ => none }
def fnExactValidFrameRow : OpenClaim := { program := "ytcginliajfemcaa", sum := "b7d20d6ed7e9c03cff87608e939f7a593d78afcb2af7d485ce70fb161515a6d6", func := "loop.example/g01095/laws.FnExactValidFrame", spec := "fnExactValidFrame", apart := false }
def FnExactValidFrameSaid : Prop := fnExactValidFrameRow.holds Try.pinned (OpenSpec.ofChange fnExactValidFrameSpec)

/-- ITS FALSE NEIGHBOUR: 'it returns false'. Refute it at one input. -/
def fnExactValidFrameWrong : ChangeSpec := { name := "fnExactValidFrame", fn := fun _ => fun
  | [d] => { results := [.lit (.bool false)], args := [d] }
  | _ => none }
def FnExactValidFrameWrongFalsely : Prop := fnExactValidFrameRow.holds Try.pinned (OpenSpec.ofChange fnExactValidFrameWrong)

/-- 'laws.FnExactIsConflictFree': WHATEVER THE INPUT: true; the input reads as it did. -/
def fnExactIsConflictFreeSpec : ChangeSpec := { name := "fnExactIsConflictFree", fn := fun _ => fun
  | [d1, d2] => { results := [.lit (.bool true)], args := [d1, d2] }
  | _ => none }
def fnExactIsConflictFreeRow : OpenClaim := { program := "ytcginliajfemcaa", sum := "b7d20d6ed7e9c03cff87608e939f7a593d78afcb2af7d485ce70fb161515a6d6", func := "loop.example/g01095/laws.FnExactIsConflictFree", spec := "fnExactIsConflictFree", apart := false }
def FnExactIsConflictFreeSaid : Prop := fnExactIsConflictFreeRow.holds Try.pinned (OpenSpec.ofChange fnExactIsConflictFreeSpec)

/-- ITS FALSE NEIGHBOUR: 'it returns false'. Refute it at one input. -/
def fnExactIsConflictFreeWrong : ChangeSpec := { name := "fnExactIsConflictFree", fn := fun _ => fun
  | [d1, d2] => { results := [.lit (.bool false)], args := [d1, d2] }
  | _ => none }
def FnExactIsConflictFreeWrongFalsely : Prop := fnExactIsConflictFreeRow.holds Try.pinned (OpenSpec.ofChange fnExactIsConflictFreeWrong)

/-- 'laws.FnExactAttackersOf': WHATEVER THE INPUT: true; the input reads as it did. -/
def fnExactAttackersOfSpec : ChangeSpec := { name := "fnExactAttackersOf", fn := fun _ => fun
  | [d1, d2] => { results := [.lit (.bool true)], args := [d1, d2] }
  | _ => none }
def fnExactAttackersOfRow : OpenClaim := { program := "ytcginliajfemcaa", sum := "b7d20d6ed7e9c03cff87608e939f7a593d78afcb2af7d485ce70fb161515a6d6", func := "loop.example/g01095/laws.FnExactAttackersOf", spec := "fnExactAttackersOf", apart := false }
def FnExactAttackersOfSaid : Prop := fnExactAttackersOfRow.holds Try.pinned (OpenSpec.ofChange fnExactAttackersOfSpec)

/-- ITS FALSE NEIGHBOUR: 'it returns false'. Refute it at one input. -/
def fnExactAttackersOfWrong : ChangeSpec := { name := "fnExactAttackersOf", fn := fun _ => fun
  | [d1, d2] => { results := [.lit (.bool false)], args := [d1, d2] }
  | _ => none }
def FnExactAttackersOfWrongFalsely : Prop := fnExactAttackersOfRow.holds Try.pinned (OpenSpec.ofChange fnExactAttackersOfWrong)

/-- 'laws.FnExactIsAdmissible': WHATEVER THE INPUT: true; the input reads as it did. -/
def fnExactIsAdmissibleSpec : ChangeSpec := { name := "fnExactIsAdmissible", fn := fun _ => fun
  | [d1, d2] => { results := [.lit (.bool true)], args := [d1, d2] }
  | _ => none }
def fnExactIsAdmissibleRow : OpenClaim := { program := "ytcginliajfemcaa", sum := "b7d20d6ed7e9c03cff87608e939f7a593d78afcb2af7d485ce70fb161515a6d6", func := "loop.example/g01095/laws.FnExactIsAdmissible", spec := "fnExactIsAdmissible", apart := false }
def FnExactIsAdmissibleSaid : Prop := fnExactIsAdmissibleRow.holds Try.pinned (OpenSpec.ofChange fnExactIsAdmissibleSpec)

/-- ITS FALSE NEIGHBOUR: 'it returns false'. Refute it at one input. -/
def fnExactIsAdmissibleWrong : ChangeSpec := { name := "fnExactIsAdmissible", fn := fun _ => fun
  | [d1, d2] => { results := [.lit (.bool false)], args := [d1, d2] }
  | _ => none }
def FnExactIsAdmissibleWrongFalsely : Prop := fnExactIsAdmissibleRow.holds Try.pinned (OpenSpec.ofChange fnExactIsAdmissibleWrong)

/-- 'laws.FnExactIsStrategy': WHATEVER THE INPUT: true; the input reads as it did. -/
def fnExactIsStrategySpec : ChangeSpec := { name := "fnExactIsStrategy", fn := fun _ => fun
  | [d1, d2, d3] => { results := [.lit (.bool true)], args := [d1, d2, d3] }
  | _ => none }
def fnExactIsStrategyRow : OpenClaim := { program := "ytcginliajfemcaa", sum := "b7d20d6ed7e9c03cff87608e939f7a593d78afcb2af7d485ce70fb161515a6d6", func := "loop.example/g01095/laws.FnExactIsStrategy", spec := "fnExactIsStrategy", unfollowed := true, recurses := true, apart := false }
def FnExactIsStrategySaid : Prop := fnExactIsStrategyRow.holds Try.pinned (OpenSpec.ofChange fnExactIsStrategySpec)

/-- ITS FALSE NEIGHBOUR: 'it returns false'. Refute it at one input. -/
def fnExactIsStrategyWrong : ChangeSpec := { name := "fnExactIsStrategy", fn := fun _ => fun
  | [d1, d2, d3] => { results := [.lit (.bool false)], args := [d1, d2, d3] }
  | _ => none }
def FnExactIsStrategyWrongFalsely : Prop := fnExactIsStrategyRow.holds Try.pinned (OpenSpec.ofChange fnExactIsStrategyWrong)

/-- 'laws.FnExactRoundsOf': WHATEVER THE INPUT: true; the input reads as it did. -/
def fnExactRoundsOfSpec : ChangeSpec := { name := "fnExactRoundsOf", fn := fun _ => fun
  | [d] => { results := [.lit (.bool true)], args := [d] }
  | _ => none }
def fnExactRoundsOfRow : OpenClaim := { program := "ytcginliajfemcaa", sum := "b7d20d6ed7e9c03cff87608e939f7a593d78afcb2af7d485ce70fb161515a6d6", func := "loop.example/g01095/laws.FnExactRoundsOf", spec := "fnExactRoundsOf", apart := false }
def FnExactRoundsOfSaid : Prop := fnExactRoundsOfRow.holds Try.pinned (OpenSpec.ofChange fnExactRoundsOfSpec)

/-- ITS FALSE NEIGHBOUR: 'it returns false'. Refute it at one input. -/
def fnExactRoundsOfWrong : ChangeSpec := { name := "fnExactRoundsOf", fn := fun _ => fun
  | [d] => { results := [.lit (.bool false)], args := [d] }
  | _ => none }
def FnExactRoundsOfWrongFalsely : Prop := fnExactRoundsOfRow.holds Try.pinned (OpenSpec.ofChange fnExactRoundsOfWrong)

/-- 'laws.FnExactDefendedBy': WHATEVER THE INPUT: true; the input reads as it did. -/
def fnExactDefendedBySpec : ChangeSpec := { name := "fnExactDefendedBy", fn := fun _ => fun
  | [d1, d2] => { results := [.lit (.bool true)], args := [d1, d2] }
  | _ => none }
def fnExactDefendedByRow : OpenClaim := { program := "ytcginliajfemcaa", sum := "b7d20d6ed7e9c03cff87608e939f7a593d78afcb2af7d485ce70fb161515a6d6", func := "loop.example/g01095/laws.FnExactDefendedBy", spec := "fnExactDefendedBy", apart := false }
def FnExactDefendedBySaid : Prop := fnExactDefendedByRow.holds Try.pinned (OpenSpec.ofChange fnExactDefendedBySpec)

/-- ITS FALSE NEIGHBOUR: 'it returns false'. Refute it at one input. -/
def fnExactDefendedByWrong : ChangeSpec := { name := "fnExactDefendedBy", fn := fun _ => fun
  | [d1, d2] => { results := [.lit (.bool false)], args := [d1, d2] }
  | _ => none }
def FnExactDefendedByWrongFalsely : Prop := fnExactDefendedByRow.holds Try.pinned (OpenSpec.ofChange fnExactDefendedByWrong)

/-- 'laws.FnExactGroundedSet': WHATEVER THE INPUT: true; the input reads as it did. -/
def fnExactGroundedSetSpec : ChangeSpec := { name := "fnExactGroundedSet", fn := fun _ => fun
  | [d] => { results := [.lit (.bool true)], args := [d] }
  | _ => none }
def fnExactGroundedSetRow : OpenClaim := { program := "ytcginliajfemcaa", sum := "b7d20d6ed7e9c03cff87608e939f7a593d78afcb2af7d485ce70fb161515a6d6", func := "loop.example/g01095/laws.FnExactGroundedSet", spec := "fnExactGroundedSet", apart := false }
def FnExactGroundedSetSaid : Prop := fnExactGroundedSetRow.holds Try.pinned (OpenSpec.ofChange fnExactGroundedSetSpec)

/-- ITS FALSE NEIGHBOUR: 'it returns false'. Refute it at one input. -/
def fnExactGroundedSetWrong : ChangeSpec := { name := "fnExactGroundedSet", fn := fun _ => fun
  | [d] => { results := [.lit (.bool false)], args := [d] }
  | _ => none }
def FnExactGroundedSetWrongFalsely : Prop := fnExactGroundedSetRow.holds Try.pinned (OpenSpec.ofChange fnExactGroundedSetWrong)

/-- 'laws.FnExactReductOf': WHATEVER THE INPUT: true; the input reads as it did. -/
def fnExactReductOfSpec : ChangeSpec := { name := "fnExactReductOf", fn := fun _ => fun
  | [d1, d2] => { results := [.lit (.bool true)], args := [d1, d2] }
  | _ => none }
def fnExactReductOfRow : OpenClaim := { program := "ytcginliajfemcaa", sum := "b7d20d6ed7e9c03cff87608e939f7a593d78afcb2af7d485ce70fb161515a6d6", func := "loop.example/g01095/laws.FnExactReductOf", spec := "fnExactReductOf", unfollowed := true, recurses := true, apart := false }
def FnExactReductOfSaid : Prop := fnExactReductOfRow.holds Try.pinned (OpenSpec.ofChange fnExactReductOfSpec)

/-- ITS FALSE NEIGHBOUR: 'it returns false'. Refute it at one input. -/
def fnExactReductOfWrong : ChangeSpec := { name := "fnExactReductOf", fn := fun _ => fun
  | [d1, d2] => { results := [.lit (.bool false)], args := [d1, d2] }
  | _ => none }
def FnExactReductOfWrongFalsely : Prop := fnExactReductOfRow.holds Try.pinned (OpenSpec.ofChange fnExactReductOfWrong)

/- THE SECOND FORM. 'bulk': how many values and letters a reading holds, each counted each time it is reached (what is shared counts as often as it is met; a slice's spare places count too). A statement '..UptoSaid' is the law's where the arguments, and the package variables that the reading takes, are together of bulk at most 1048576: NARROWER than '..Said'. Prove '..Said' where nothing that the law and all that it calls make is longer than what came in: it says more and counts as full. Else prove '..UptoSaid'. A law counts once. -/
mutual
def uptoBulk {H : Type} : DataW H → Nat
  | .lit (.string bytes) => bytes.length + 1
  | .lit _ => 1
  | .nil => 1
  | .ptr d => uptoBulk d + 1
  | .slice elems spare => uptoBulkAll elems + uptoBulkAll spare + 1
  | .agg parts => uptoBulkAll parts + 1
  | .iface _ d => uptoBulk d + 1
  | .map entries => uptoBulkEntries entries + 1
  | .held _ => 1
def uptoBulkAll {H : Type} : List (DataW H) → Nat
  | [] => 0
  | d :: r => uptoBulk d + uptoBulkAll r
def uptoBulkEntries {H : Type} : List (Lit × DataW H) → Nat
  | [] => 0
  | x :: r => uptoBulkEntry x + uptoBulkEntries r
def uptoBulkEntry {H : Type} : Lit × DataW H → Nat
  | (.string bytes, d) => bytes.length + uptoBulk d + 1
  | (_, d) => uptoBulk d + 1
 end
def uptoSmall : (H : Type) → List (DataW H) → Bool := fun _ ds => decide (uptoBulkAll ds ≤ 1048576)
def OpenSpec.upto (s : _root_.Go.ChangeSpec) : _root_.Go.OpenSpec := { _root_.Go.OpenSpec.ofChange s with cond := some uptoSmall }

/-- 'laws.FnExactValidFrame', WHERE WHAT IT READS IS OF BULK AT MOST 1048576: true; the input reads as it did. -/
def fnExactValidFrameUptoRow : OpenClaim := { program := "ytcginliajfemcaa", sum := "b7d20d6ed7e9c03cff87608e939f7a593d78afcb2af7d485ce70fb161515a6d6", func := "loop.example/g01095/laws.FnExactValidFrame", spec := "fnExactValidFrame", apart := false, narrowed := true }
def FnExactValidFrameUptoSaid : Prop := fnExactValidFrameUptoRow.holds Try.pinned (OpenSpec.upto fnExactValidFrameSpec)

/-- 'laws.FnExactIsConflictFree', WHERE WHAT IT READS IS OF BULK AT MOST 1048576: true; the input reads as it did. -/
def fnExactIsConflictFreeUptoRow : OpenClaim := { program := "ytcginliajfemcaa", sum := "b7d20d6ed7e9c03cff87608e939f7a593d78afcb2af7d485ce70fb161515a6d6", func := "loop.example/g01095/laws.FnExactIsConflictFree", spec := "fnExactIsConflictFree", apart := false, narrowed := true }
def FnExactIsConflictFreeUptoSaid : Prop := fnExactIsConflictFreeUptoRow.holds Try.pinned (OpenSpec.upto fnExactIsConflictFreeSpec)

/-- 'laws.FnExactAttackersOf', WHERE WHAT IT READS IS OF BULK AT MOST 1048576: true; the input reads as it did. -/
def fnExactAttackersOfUptoRow : OpenClaim := { program := "ytcginliajfemcaa", sum := "b7d20d6ed7e9c03cff87608e939f7a593d78afcb2af7d485ce70fb161515a6d6", func := "loop.example/g01095/laws.FnExactAttackersOf", spec := "fnExactAttackersOf", apart := false, narrowed := true }
def FnExactAttackersOfUptoSaid : Prop := fnExactAttackersOfUptoRow.holds Try.pinned (OpenSpec.upto fnExactAttackersOfSpec)

/-- 'laws.FnExactIsAdmissible', WHERE WHAT IT READS IS OF BULK AT MOST 1048576: true; the input reads as it did. -/
def fnExactIsAdmissibleUptoRow : OpenClaim := { program := "ytcginliajfemcaa", sum := "b7d20d6ed7e9c03cff87608e939f7a593d78afcb2af7d485ce70fb161515a6d6", func := "loop.example/g01095/laws.FnExactIsAdmissible", spec := "fnExactIsAdmissible", apart := false, narrowed := true }
def FnExactIsAdmissibleUptoSaid : Prop := fnExactIsAdmissibleUptoRow.holds Try.pinned (OpenSpec.upto fnExactIsAdmissibleSpec)

/-- 'laws.FnExactIsStrategy', WHERE WHAT IT READS IS OF BULK AT MOST 1048576: true; the input reads as it did. -/
def fnExactIsStrategyUptoRow : OpenClaim := { program := "ytcginliajfemcaa", sum := "b7d20d6ed7e9c03cff87608e939f7a593d78afcb2af7d485ce70fb161515a6d6", func := "loop.example/g01095/laws.FnExactIsStrategy", spec := "fnExactIsStrategy", unfollowed := true, recurses := true, apart := false, narrowed := true }
def FnExactIsStrategyUptoSaid : Prop := fnExactIsStrategyUptoRow.holds Try.pinned (OpenSpec.upto fnExactIsStrategySpec)

/-- 'laws.FnExactRoundsOf', WHERE WHAT IT READS IS OF BULK AT MOST 1048576: true; the input reads as it did. -/
def fnExactRoundsOfUptoRow : OpenClaim := { program := "ytcginliajfemcaa", sum := "b7d20d6ed7e9c03cff87608e939f7a593d78afcb2af7d485ce70fb161515a6d6", func := "loop.example/g01095/laws.FnExactRoundsOf", spec := "fnExactRoundsOf", apart := false, narrowed := true }
def FnExactRoundsOfUptoSaid : Prop := fnExactRoundsOfUptoRow.holds Try.pinned (OpenSpec.upto fnExactRoundsOfSpec)

/-- 'laws.FnExactDefendedBy', WHERE WHAT IT READS IS OF BULK AT MOST 1048576: true; the input reads as it did. -/
def fnExactDefendedByUptoRow : OpenClaim := { program := "ytcginliajfemcaa", sum := "b7d20d6ed7e9c03cff87608e939f7a593d78afcb2af7d485ce70fb161515a6d6", func := "loop.example/g01095/laws.FnExactDefendedBy", spec := "fnExactDefendedBy", apart := false, narrowed := true }
def FnExactDefendedByUptoSaid : Prop := fnExactDefendedByUptoRow.holds Try.pinned (OpenSpec.upto fnExactDefendedBySpec)

/-- 'laws.FnExactGroundedSet', WHERE WHAT IT READS IS OF BULK AT MOST 1048576: true; the input reads as it did. -/
def fnExactGroundedSetUptoRow : OpenClaim := { program := "ytcginliajfemcaa", sum := "b7d20d6ed7e9c03cff87608e939f7a593d78afcb2af7d485ce70fb161515a6d6", func := "loop.example/g01095/laws.FnExactGroundedSet", spec := "fnExactGroundedSet", apart := false, narrowed := true }
def FnExactGroundedSetUptoSaid : Prop := fnExactGroundedSetUptoRow.holds Try.pinned (OpenSpec.upto fnExactGroundedSetSpec)

/-- 'laws.FnExactReductOf', WHERE WHAT IT READS IS OF BULK AT MOST 1048576: true; the input reads as it did. -/
def fnExactReductOfUptoRow : OpenClaim := { program := "ytcginliajfemcaa", sum := "b7d20d6ed7e9c03cff87608e939f7a593d78afcb2af7d485ce70fb161515a6d6", func := "loop.example/g01095/laws.FnExactReductOf", spec := "fnExactReductOf", unfollowed := true, recurses := true, apart := false, narrowed := true }
def FnExactReductOfUptoSaid : Prop := fnExactReductOfUptoRow.holds Try.pinned (OpenSpec.upto fnExactReductOfSpec)

end Rows
end Go.Proofs.Ytcginliajfemcaa
