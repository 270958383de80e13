/- Closed facts for the row: the start that fits. -/
import Derived.Test.YtjneljpbkjhlmaaGreatDoorAmS3
import Derived.Test.YtjneljpbkjhlmaaGreatDoorTie
import Derived.ProofKit
import Derived.LaidMore
import Derived.OpenShut
import Derived.Stop.Joined
set_option linter.unusedVariables false
set_option linter.unusedSimpArgs false
set_option linter.unnecessarySimpa false
set_option linter.unusedSectionVars false
set_option maxRecDepth 100000
set_option linter.unusedVariables false
namespace Go.Proofs.YtjneljpbkjhlmaaGreatDoor
open Go Go.ChangeShapes Go.WideShapes Go.ChangeAt Go.RowKit
def layCells (cs : Array Value) : Obj → Obj
  | .cells _ t f => .cells cs t f
  | o => o
noncomputable def gFirst : Nat := (Tryz.prog.globalNamed "unicode/utf8.first").getD 0
noncomputable def layAt (g : Nat) (cs : Array Value) (h : Array Obj) : Array Obj := h.setIfInBounds g (layCells cs (h.getD g (.cells #[] 0 (0, 0))))
noncomputable def startW (os : Os) : World :=
  { World.doorLaid Tryz.prog 400 os with heap := layAt gFirst ((Go.Pinned.utf8FirstZ.map fun (n : Nat) => Value.int .u8 (Int.ofNat n)).toArray) (World.doorLaid Tryz.prog 400 os).heap }
theorem own : ownKnob Tryz.prog.godebug = none := by kernel_rfl
theorem params3 : Tryz.f3.params = #[29, 3] := by kernel_rfl
theorem door_met (os : Os) (args : Array Value) : laidMetH Tryz.prog Rows.schedNoneRow.laid ((startW os).forCall (fun _ _ => 0) ⟨#[], args, []⟩).memory :=
  laidMetH_of_parts3 (fuel := 8) (laidMet_of_run' 8 (by kernel_rfl) (by kernel_rfl)) (by kernel_rfl) (by kernel_rfl)
def arg0 : Value := .agg #[.int .i64 0, .string ⟨#[]⟩, .slice none 0 0, .slice none 0 0, .slice none 0 0, .slice none 0 0, .string ⟨#[]⟩, .string ⟨#[]⟩, .int .i64 0, .int .i64 0]
theorem start_shaped (os : Os) : ((startW os).forCall (fun _ _ => 0) ⟨#[], #[arg0, .int .i64 0], []⟩).Shaped Tryz.prog := World.shaped_of_RefB (by kernel_rfl) (by kernel_rfl)
theorem start_ok (os : Os) : Input.okWideB Tryz.prog ((startW os).forCall (fun _ _ => 0) ⟨#[], #[arg0, .int .i64 0], []⟩) 3 ⟨#[], #[arg0, .int .i64 0], []⟩ = true := by kernel_rfl
end Go.Proofs.YtjneljpbkjhlmaaGreatDoor
