/- The row's closed facts. -/
import Derived.Test.YtjneljpbkjhlmaaGreatDoorTie
import Derived.ProofKit
import Derived.Stop.Joined
set_option linter.unusedVariables false
set_option linter.unusedSimpArgs false
set_option linter.unnecessarySimpa false
set_option linter.unusedSectionVars false
set_option maxRecDepth 100000
namespace Go.Proofs.YtjneljpbkjhlmaaGreatDoor
open Go
theorem k1 : (Rows.schedNoneRow.plainKeys == Tryz.prog.plainKeys) = true := by kernel_rfl
theorem k2 : Tryz.prog.stopsHeard = true := by kernel_rfl
theorem k3 : Tryz.prog.mayEnter = true := by kernel_rfl
theorem k4 : (Rows.schedNoneRow.lifted == Tryz.prog.liftsFinal) = true := by kernel_rfl
theorem k5 : (Tryz.prog.make == some Rows.schedNoneRow.make) = true := by kernel_rfl
theorem k6 : (Rows.schedNoneRow.loops == (Tryz.f3.params.toList ++ Rows.schedNoneSpec.plain.varTypes Tryz.prog).any (Tryz.prog.loopsFrom ·)) = true := by kernel_rfl
theorem k7 : (Rows.schedNoneRow.wideKeys == (Tryz.f3.params.toList ++ Rows.schedNoneSpec.plain.varTypes Tryz.prog ++ Tryz.f3.resultTypes.toList).any (Tryz.prog.wideKeysFrom ·)) = true := by kernel_rfl
theorem k8 : (Rows.schedNoneRow.veiled == (Tryz.f3.params.toList ++ Rows.schedNoneSpec.plain.varTypes Tryz.prog ++ Tryz.f3.resultTypes.toList).any (Tryz.prog.veiledRec ·)) = true := by kernel_rfl
theorem k9 : Rows.schedNoneRow.veiledFits Tryz.prog Tryz.f3.params.toList (Tryz.f3.params.toList ++ Rows.schedNoneSpec.plain.varTypes Tryz.prog ++ Tryz.f3.resultTypes.toList) = true := by kernel_rfl
end Go.Proofs.YtjneljpbkjhlmaaGreatDoor
