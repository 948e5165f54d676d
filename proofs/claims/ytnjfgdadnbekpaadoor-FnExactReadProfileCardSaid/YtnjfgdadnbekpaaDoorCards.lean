/-
  DERIVED. GIVEN WITH THE SEED: THE CARDS: each row of YtnjfgdadnbekpaaDoorRows.lean that lists a variable, with what it lists TIED to the program's text (the seventh form; the later family's looks); each row that meets fmt, with fmt's text TOLD by the authors' own Lean function (tested against real Go, not proved from fmt's source: count such statements apart). THE CARD IS WHAT COUNTS. Prove the row's statement (the work); the ties are given (YtnjfgdadnbekpaaDoorTie.lean); close each card by the builder's one call (the guide's Derived/Test/ToyasCard.lean, 'card_holds'). Laid BY PROGRAM, IN A SANDBOX (cutbox-door.mjs). By AI agents, Wed Nov 11 2026. No macro, syntax, notation, axiom, sorry.
-/
import Derived.Test.YtnjfgdadnbekpaaDoorRows
import GoSem.ClaimSeven
namespace Go.Proofs.YtnjfgdadnbekpaaDoor
namespace Rows

/-- THE TIED CARD OF 'laws.FnExactProfileText'. -/
def fnExactProfileTextCard : Claim7 := { stood := { row := fnExactProfileTextRow, standIns := [], harness := (true, "f71ce9107630d45bcf83b42411efde511b515ce6d7f9e527557c6e0cedb5e2c5"), looks := true }, kinds := [], alts := [], laidByText := true, laidKinds := [.data, .data, .data], laidTests := true, laidLooks := .later }
def FnExactProfileTextCardSaid : Prop := Claim7.holds Tryd.pinned (.plain (OpenSpec.ofChange fnExactProfileTextSpec)) fnExactProfileTextCard

/-- THE TIED CARD OF 'laws.FnExactReadProfile'. -/
def fnExactReadProfileCard : Claim7 := { stood := { row := fnExactReadProfileRow, standIns := [], harness := (true, "f71ce9107630d45bcf83b42411efde511b515ce6d7f9e527557c6e0cedb5e2c5"), looks := true }, kinds := [], alts := [], laidByText := true, laidKinds := [.data, .data, .data, .data, .sentinel, .sentinel, .pinned], laidTests := true, laidLooks := .later }
def FnExactReadProfileCardSaid : Prop := Claim7.holds Tryd.pinned (.plain (OpenSpec.ofChange fnExactReadProfileSpec)) fnExactReadProfileCard

/-- THE TIED CARD OF 'laws.FnExactReadStatute'. -/
def fnExactReadStatuteCard : Claim7 := { stood := { row := fnExactReadStatuteRow, standIns := [], harness := (true, "f71ce9107630d45bcf83b42411efde511b515ce6d7f9e527557c6e0cedb5e2c5"), looks := true }, kinds := [], alts := [], laidByText := true, laidKinds := [.data, .data, .data, .data, .sentinel, .sentinel, .pinned], laidTests := true, laidLooks := .later }
def FnExactReadStatuteCardSaid : Prop := Claim7.holds Tryd.pinned (.plain (OpenSpec.ofChange fnExactReadStatuteSpec)) fnExactReadStatuteCard

/-- THE TIED CARD OF 'laws.FnExactReadPatch'. -/
def fnExactReadPatchCard : Claim7 := { stood := { row := fnExactReadPatchRow, standIns := [], harness := (true, "f71ce9107630d45bcf83b42411efde511b515ce6d7f9e527557c6e0cedb5e2c5"), looks := true }, kinds := [], alts := [], laidByText := true, laidKinds := [.data, .data, .data, .data, .sentinel, .sentinel, .pinned], laidTests := true, laidLooks := .later }
def FnExactReadPatchCardSaid : Prop := Claim7.holds Tryd.pinned (.plain (OpenSpec.ofChange fnExactReadPatchSpec)) fnExactReadPatchCard

/-- THE SECOND FORM's CARD OF 'laws.FnExactProfileText'. -/
def fnExactProfileTextUptoCard : Claim7 := { stood := { row := fnExactProfileTextUptoRow, standIns := [], harness := (true, "f71ce9107630d45bcf83b42411efde511b515ce6d7f9e527557c6e0cedb5e2c5"), looks := true }, kinds := [], alts := [], laidByText := true, laidKinds := [.data, .data, .data], laidTests := true, laidLooks := .later }
def FnExactProfileTextUptoCardSaid : Prop := Claim7.holds Tryd.pinned (.plain (OpenSpec.upto fnExactProfileTextSpec)) fnExactProfileTextUptoCard

/-- THE SECOND FORM's CARD OF 'laws.FnExactReadProfile'. -/
def fnExactReadProfileUptoCard : Claim7 := { stood := { row := fnExactReadProfileUptoRow, standIns := [], harness := (true, "f71ce9107630d45bcf83b42411efde511b515ce6d7f9e527557c6e0cedb5e2c5"), looks := true }, kinds := [], alts := [], laidByText := true, laidKinds := [.data, .data, .data, .data, .sentinel, .sentinel, .pinned], laidTests := true, laidLooks := .later }
def FnExactReadProfileUptoCardSaid : Prop := Claim7.holds Tryd.pinned (.plain (OpenSpec.upto fnExactReadProfileSpec)) fnExactReadProfileUptoCard

/-- THE SECOND FORM's CARD OF 'laws.FnExactReadStatute'. -/
def fnExactReadStatuteUptoCard : Claim7 := { stood := { row := fnExactReadStatuteUptoRow, standIns := [], harness := (true, "f71ce9107630d45bcf83b42411efde511b515ce6d7f9e527557c6e0cedb5e2c5"), looks := true }, kinds := [], alts := [], laidByText := true, laidKinds := [.data, .data, .data, .data, .sentinel, .sentinel, .pinned], laidTests := true, laidLooks := .later }
def FnExactReadStatuteUptoCardSaid : Prop := Claim7.holds Tryd.pinned (.plain (OpenSpec.upto fnExactReadStatuteSpec)) fnExactReadStatuteUptoCard

/-- THE SECOND FORM's CARD OF 'laws.FnExactReadPatch'. -/
def fnExactReadPatchUptoCard : Claim7 := { stood := { row := fnExactReadPatchUptoRow, standIns := [], harness := (true, "f71ce9107630d45bcf83b42411efde511b515ce6d7f9e527557c6e0cedb5e2c5"), looks := true }, kinds := [], alts := [], laidByText := true, laidKinds := [.data, .data, .data, .data, .sentinel, .sentinel, .pinned], laidTests := true, laidLooks := .later }
def FnExactReadPatchUptoCardSaid : Prop := Claim7.holds Tryd.pinned (.plain (OpenSpec.upto fnExactReadPatchSpec)) fnExactReadPatchUptoCard
end Rows
end Go.Proofs.YtnjfgdadnbekpaaDoor
