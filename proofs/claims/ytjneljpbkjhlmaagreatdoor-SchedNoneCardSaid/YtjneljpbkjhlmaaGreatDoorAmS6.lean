/- The row's closed facts. -/
import Derived.Test.YtjneljpbkjhlmaaGreatDoorTie
import Derived.ProofKit
import Derived.Stop.Joined
set_option linter.unusedVariables false
set_option linter.unusedSimpArgs false
set_option linter.unnecessarySimpa false
set_option linter.unusedSectionVars false
set_option maxRecDepth 100000
namespace Go.Proofs.YtjneljpbkjhlmaaGreatDoor
open Go
theorem g1 : Rows.schedNoneRow.wf (OpenSpec.ofChange Rows.schedNoneSpec) = true := by kernel_rfl
theorem g2 : laidOutB Tryz.prog = true := by kernel_rfl
theorem g3 : mapsRowed Tryz.prog = true := by kernel_rfl
theorem g4 : Tryz.f3.params.all (Tryz.prog.readableRec ·) = true := by kernel_rfl
theorem g5 : namedTie Tryz.prog Rows.schedNoneRow.named Rows.schedNoneSpec.vars = true := by kernel_rfl
theorem g6 : Tryz.prog.stops = [] := by kernel_rfl
theorem g7 : Tryz.prog.stopKnobs = [] := by kernel_rfl
end Go.Proofs.YtjneljpbkjhlmaaGreatDoor
