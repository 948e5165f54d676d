/- Closed facts of the program, asked once; no condition. Printed by a program of mine (mk3.py). -/
import Derived.Test.YtegfiapfgffcgaaRows
import Derived.ProofKit
import Derived.Test.YtegfiapfgffcgaaBpLib2
namespace Go.Proofs.Ytegfiapfgffcgaa
open Go Go.GL Go.RowKit Go.WideShapes Go.ChangeShapes Go.Deep Go.Proofs.Ytegfiapfgffcgaa

set_option maxRecDepth 100000
theorem q_own : ownKnob Try.prog.godebug = none := by kernel_rfl
theorem q2 : laidOutB Try.prog = true := by kernel_rfl
theorem q3 : mapsRowed Try.prog = true := by kernel_rfl
theorem q7 : (Try.prog.stops == []) = true := by kernel_rfl
theorem q9 : (Try.prog.stopKnobs == []) = true := by kernel_rfl
theorem q23 : (Rows.fnExactApprovedInRow.plainKeys == Try.prog.plainKeys) = true := by kernel_rfl
theorem q25 : Try.prog.stopsHeard = true := by kernel_rfl
theorem q26 : Try.prog.mayEnter = true := by kernel_rfl
theorem q27 : (Rows.fnExactApprovedInRow.lifted == Try.prog.liftsFinal) = true := by kernel_rfl
theorem q28 : (Try.prog.make == some Rows.fnExactApprovedInRow.make) = true := by kernel_rfl
end Go.Proofs.Ytegfiapfgffcgaa
