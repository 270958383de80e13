/- SchedNone: of none nothing is told: the tied card. -/
import Derived.Test.YtjneljpbkjhlmaaGreatDoorAmS9
set_option linter.unusedVariables false
set_option linter.unusedSimpArgs false
set_option linter.unnecessarySimpa false
set_option linter.unusedSectionVars false
set_option maxRecDepth 100000
namespace Go.Proofs.YtjneljpbkjhlmaaGreatDoor
open Go Go.ChangeShapes Go.WideShapes Go.ChangeAt Go.RowKit
theorem sched_none_row : Rows.SchedNoneSaid :=
  OpenClaim.holds_of_wide 3 Tryz.f3 rfl rfl rfl rfl rfl rfl rfl ⟨rfl, rfl, rfl, rfl, rfl⟩ rfl rfl rfl rfl rfl (by kernel_rfl) Tryz.func3 closed3
    (of_decide_eq_true (by kernel_rfl)) (by unfold Func.isWrapper; first | (rw [if_pos (by decide +kernel)]; kernel_rfl) | (rw [if_neg (by decide +kernel)]; exact ⟨rfl, rfl⟩))
    (fun os started H enc _ => lifted os started H enc)
theorem fname : Tryz.prog.funcNamed "corollary/corollarylaw19.SchedNone" = some 3 := by kernel_rfl
theorem goes3 : Tryz.prog.goes 3 = false := by
  unfold Program.goes; rw [clo3, ← fUnf]; kernel_rfl
theorem goesRow : false = Rows.schedNoneRow.goesBy Tryz.prog := by
  have h : Rows.schedNoneRow.goesBy Tryz.prog = ((Tryz.prog.funcNamed "corollary/corollarylaw19.SchedNone").any Tryz.prog.goes || false) := rfl
  rw [h, fname, Option.any_some, goes3]; rfl
theorem looksAll : true = Tryz.prog.looks [] := by kernel_rfl
theorem mainIs : Tryz.prog.mainIs = some (true, "40106704ecd19550b9b8179a4b67bf924e7ed9e9bef1bca41b2b977a7a2014b5".toList) := by kernel_rfl
theorem byText : Rows.schedNoneRow.wfByText (OpenSpec.ofChange Rows.schedNoneSpec) = true := by kernel_rfl
theorem standIn : ([29, 3].all fun u => !Tryz.prog.wantsStandIn u) = true := by kernel_rfl
theorem sched_none_card : Rows.SchedNoneCardSaid :=
  Claim7.holds_tied_plain_at .later [] [.data, .pinned] true (true, "40106704ecd19550b9b8179a4b67bf924e7ed9e9bef1bca41b2b977a7a2014b5") true
    sched_none_row (fun _ h => by cases h) byText (fun _ h => by cases h) schedNone_row_tie rfl ⟨rfl, rfl⟩ mainIs rfl
    (fun f fn hf hfn => by
      obtain rfl : f = 3 := Option.some.inj (fname.symm.trans hf) |>.symm
      obtain rfl : fn = Tryz.f3 := (Option.some.inj (Tryz.func3.symm.trans hfn)).symm
      exact ⟨looksAll, fun j t ht => by
        rw [params3] at ht
        have hm : t ∈ [29, 3] := by simpa using Array.mem_of_getElem? ht
        exact (show Tryz.prog.wantsStandIn t = false by simpa using List.all_eq_true.1 standIn t hm)⟩)
    goesRow
#print axioms sched_none_card
end Go.Proofs.YtjneljpbkjhlmaaGreatDoor
