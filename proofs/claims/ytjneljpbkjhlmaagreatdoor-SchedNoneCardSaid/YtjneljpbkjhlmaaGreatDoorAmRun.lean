import Derived.Test.YtjneljpbkjhlmaaGreatDoorAmSeat
set_option linter.unusedVariables false
set_option linter.unusedSimpArgs false
set_option linter.unnecessarySimpa false
set_option linter.unusedSectionVars false
set_option maxRecDepth 100000
namespace Go.AM
open Go Go.Proofs
noncomputable def tb : Tbl := ⟨fun _ _ => none, fun _ _ _ _ => False⟩
theorem tbOk : TblOk Tryz.prog tb := ⟨fun _ _ _ _ h => (nomatch h), fun _ _ _ _ h => False.elim h⟩
theorem awake_run : (machY Tryz.prog tt xp tb 100000).call f_awake [] (.ex .nil 0) (fun v _ => match v with | .tt => True | _ => False) = True := by kernel_rfl
end Go.AM
