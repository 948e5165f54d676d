/-
  DERIVED. GIVEN WITH THE SEED: THE CARDS: each row of YthgmjhiccdjboaaDoorRows.lean that lists a variable, with what it lists TIED to the program's text (the seventh form; the later family's looks); each row that meets fmt, with fmt's text TOLD by the authors' own Lean function (tested against real Go, not proved from fmt's source: count such statements apart). THE CARD IS WHAT COUNTS. Prove the row's statement (the work); the ties are given (YthgmjhiccdjboaaDoorTie.lean); close each card by the builder's one call (the guide's Derived/Test/ToyasCard.lean, 'card_holds'). Laid BY PROGRAM, IN A SANDBOX (cutbox-door.mjs). By AI agents, Wed Nov 11 2026. No macro, syntax, notation, axiom, sorry.
-/
import Derived.Test.YthgmjhiccdjboaaDoorRows
import GoSem.ClaimSeven
namespace Go.Proofs.YthgmjhiccdjboaaDoor
namespace Rows

/-- THE TIED CARD OF 'laws.FnExactStatuteText'. -/
def fnExactStatuteTextCard : Claim7 := { stood := { row := fnExactStatuteTextRow, standIns := [], harness := (true, "328c5b6b2b0ec3ffc8af98987861f5a553b94f7085f389b069ddf0dbcf72e9b0"), looks := true }, kinds := [], alts := [], laidByText := true, laidKinds := [.data, .data, .data], laidTests := true, laidLooks := .later }
def FnExactStatuteTextCardSaid : Prop := Claim7.holds Tryd.pinned (.plain (OpenSpec.ofChange fnExactStatuteTextSpec)) fnExactStatuteTextCard

/-- THE TIED CARD OF 'laws.FnExactPatchText'. -/
def fnExactPatchTextCard : Claim7 := { stood := { row := fnExactPatchTextRow, standIns := [], harness := (true, "328c5b6b2b0ec3ffc8af98987861f5a553b94f7085f389b069ddf0dbcf72e9b0"), looks := true }, kinds := [], alts := [], laidByText := true, laidKinds := [.data, .data, .data], laidTests := true, laidLooks := .later }
def FnExactPatchTextCardSaid : Prop := Claim7.holds Tryd.pinned (.plain (OpenSpec.ofChange fnExactPatchTextSpec)) fnExactPatchTextCard

/-- THE TIED CARD OF 'laws.FnExactReadStatute'. -/
def fnExactReadStatuteCard : Claim7 := { stood := { row := fnExactReadStatuteRow, standIns := [], harness := (true, "328c5b6b2b0ec3ffc8af98987861f5a553b94f7085f389b069ddf0dbcf72e9b0"), looks := true }, kinds := [], alts := [], laidByText := true, laidKinds := [.data, .data, .data, .data, .sentinel, .sentinel, .pinned], laidTests := true, laidLooks := .later }
def FnExactReadStatuteCardSaid : Prop := Claim7.holds Tryd.pinned (.plain (OpenSpec.ofChange fnExactReadStatuteSpec)) fnExactReadStatuteCard

/-- THE TIED CARD OF 'laws.FnExactReadPatch'. -/
def fnExactReadPatchCard : Claim7 := { stood := { row := fnExactReadPatchRow, standIns := [], harness := (true, "328c5b6b2b0ec3ffc8af98987861f5a553b94f7085f389b069ddf0dbcf72e9b0"), looks := true }, kinds := [], alts := [], laidByText := true, laidKinds := [.data, .data, .data, .data, .sentinel, .sentinel, .pinned], laidTests := true, laidLooks := .later }
def FnExactReadPatchCardSaid : Prop := Claim7.holds Tryd.pinned (.plain (OpenSpec.ofChange fnExactReadPatchSpec)) fnExactReadPatchCard

/-- THE SECOND FORM's CARD OF 'laws.FnExactStatuteText'. -/
def fnExactStatuteTextUptoCard : Claim7 := { stood := { row := fnExactStatuteTextUptoRow, standIns := [], harness := (true, "328c5b6b2b0ec3ffc8af98987861f5a553b94f7085f389b069ddf0dbcf72e9b0"), looks := true }, kinds := [], alts := [], laidByText := true, laidKinds := [.data, .data, .data], laidTests := true, laidLooks := .later }
def FnExactStatuteTextUptoCardSaid : Prop := Claim7.holds Tryd.pinned (.plain (OpenSpec.upto fnExactStatuteTextSpec)) fnExactStatuteTextUptoCard

/-- THE SECOND FORM's CARD OF 'laws.FnExactPatchText'. -/
def fnExactPatchTextUptoCard : Claim7 := { stood := { row := fnExactPatchTextUptoRow, standIns := [], harness := (true, "328c5b6b2b0ec3ffc8af98987861f5a553b94f7085f389b069ddf0dbcf72e9b0"), looks := true }, kinds := [], alts := [], laidByText := true, laidKinds := [.data, .data, .data], laidTests := true, laidLooks := .later }
def FnExactPatchTextUptoCardSaid : Prop := Claim7.holds Tryd.pinned (.plain (OpenSpec.upto fnExactPatchTextSpec)) fnExactPatchTextUptoCard

/-- THE SECOND FORM's CARD OF 'laws.FnExactReadStatute'. -/
def fnExactReadStatuteUptoCard : Claim7 := { stood := { row := fnExactReadStatuteUptoRow, standIns := [], harness := (true, "328c5b6b2b0ec3ffc8af98987861f5a553b94f7085f389b069ddf0dbcf72e9b0"), looks := true }, kinds := [], alts := [], laidByText := true, laidKinds := [.data, .data, .data, .data, .sentinel, .sentinel, .pinned], laidTests := true, laidLooks := .later }
def FnExactReadStatuteUptoCardSaid : Prop := Claim7.holds Tryd.pinned (.plain (OpenSpec.upto fnExactReadStatuteSpec)) fnExactReadStatuteUptoCard

/-- THE SECOND FORM's CARD OF 'laws.FnExactReadPatch'. -/
def fnExactReadPatchUptoCard : Claim7 := { stood := { row := fnExactReadPatchUptoRow, standIns := [], harness := (true, "328c5b6b2b0ec3ffc8af98987861f5a553b94f7085f389b069ddf0dbcf72e9b0"), looks := true }, kinds := [], alts := [], laidByText := true, laidKinds := [.data, .data, .data, .data, .sentinel, .sentinel, .pinned], laidTests := true, laidLooks := .later }
def FnExactReadPatchUptoCardSaid : Prop := Claim7.holds Tryd.pinned (.plain (OpenSpec.upto fnExactReadPatchSpec)) fnExactReadPatchUptoCard
end Rows
end Go.Proofs.YthgmjhiccdjboaaDoor
