/- The row's closed facts, joined. -/
import Derived.Test.YtjneljpbkjhlmaaGreatDoorAmS5
import Derived.Test.YtjneljpbkjhlmaaGreatDoorAmS6
import Derived.Test.YtjneljpbkjhlmaaGreatDoorAmS7
set_option linter.unusedVariables false
set_option linter.unusedSimpArgs false
set_option linter.unnecessarySimpa false
set_option linter.unusedSectionVars false
set_option maxRecDepth 100000
namespace Go.Proofs.YtjneljpbkjhlmaaGreatDoor
open Go
theorem closed3 : joinedFacts Tryz.prog 3 Tryz.f3 Rows.schedNoneSpec Rows.schedNoneRow = true := by
  unfold joinedFacts
  rw [g1, g2, g3, g4, g5, g6, g7, ← fInPlace, ← fUnf, ← fRec, ← fNamed, k1, k2, k3, k4, k5, k6, k7, k8, k9]
  kernel_rfl
end Go.Proofs.YtjneljpbkjhlmaaGreatDoor
