/- The guard of commands. -/
import Derived.Test.YtjneljpbkjhlmaaGreatDoorAmS1
set_option linter.unusedVariables false
set_option linter.unusedSimpArgs false
set_option linter.unnecessarySimpa false
set_option linter.unusedSectionVars false
set_option maxRecDepth 100000
set_option linter.unusedVariables false
set_option maxHeartbeats 400000
namespace Go.AM
open Go Go.Proofs
theorem small17 (m : Nat → Option GRow) (kd sub pos : Int) (nm snm stx : List UInt8) (cols keys idx ops : List (List V)) (hc : ∀ cs ∈ cols, ∃ s k b, cs = [.s s, .i .i64 k, .b b]) (hi : ∀ cs ∈ idx, ∃ l b, cs = [.lst 1 l, .b b])
    (ho : ∀ cs ∈ ops, ∃ k s l, cs = [.i .i64 k, .s s, .lst 3 l]) (hl1 : cols.length ≤ maxLen) (hl2 : idx.length ≤ maxLen) (hl3 : ops.length ≤ maxLen) :
    ACalls Tryz.prog 4 [.agg [.i .i64 kd, .s nm, .lst 3 cols, .lst 1 keys, .lst 2 idx, .lst 3 ops, .s snm, .s stx, .i .i64 sub, .i .i64 pos]] (.sy m) (fun v h' => h' = .sy m ∧ ∃ b, bvI v b) := by
  refine ACalls.of hSX htt Tryz.func4 rfl rfl rfl ?_
  ((conv => whnf); repeat' (first | (intro amx; try rw [decide_eq_true_eq] at amx; try rw [decide_eq_false_iff_not] at amx; (conv => whnf)) | (refine ⟨by omega, ?_⟩; (conv => whnf)) | (refine ⟨fun amb => ?_, fun amb => ?_⟩ <;> (try rw [decide_eq_true_eq] at amb) <;> (try rw [decide_eq_false_iff_not] at amb) <;> first | (exfalso; omega) | (conv => whnf)) | fail))
  refine (small08 m _ _ _ _ hc hi hl1 hl2).mono ?_
  rintro v h' ⟨rfl, b, hb⟩
  cases hb
  all_goals ((conv => whnf); repeat' (first | (intro amx; try rw [decide_eq_true_eq] at amx; try rw [decide_eq_false_iff_not] at amx; (conv => whnf)) | (refine ⟨by omega, ?_⟩; (conv => whnf)) | (refine ⟨fun amb => ?_, fun amb => ?_⟩ <;> (try rw [decide_eq_true_eq] at amb) <;> (try rw [decide_eq_false_iff_not] at amb) <;> first | (exfalso; omega) | (conv => whnf)) | fail))
  all_goals first | (refine .done ?_; (conv => whnf); exact ⟨rfl, _, .ff⟩) | skip
  all_goals
    refine LoopP.gh (.keep [1, 2, 3] (.done ?_))
    refine LoopP.ind hSX htt (α := Nat) (fun i => [(1, .box false [V.i .i64 kd, V.s nm, V.lst 3 cols, V.lst 1 keys, V.lst 2 idx, V.lst 3 ops, V.s snm, V.s stx, V.i .i64 sub, V.i .i64 pos]), (2, .ff), (3, .i .i64 (i : Nat))]) (fun _ => .sy m) (fun i => i ≤ ops.length) (fun i => ops.length - i) ?_ 0 (Nat.zero_le _)
    intro x hx
    ((conv => whnf); repeat' (first | (intro amx; try rw [decide_eq_true_eq] at amx; try rw [decide_eq_false_iff_not] at amx; (conv => whnf)) | (refine ⟨by omega, ?_⟩; (conv => whnf)) | (refine ⟨fun amb => ?_, fun amb => ?_⟩ <;> (try rw [decide_eq_true_eq] at amb) <;> (try rw [decide_eq_false_iff_not] at amb) <;> first | (exfalso; omega) | (conv => whnf)) | fail))
    · have hcs := amx
      obtain ⟨k, s, l, rfl⟩ := ho _ (List.mem_of_getElem? hcs)
      ((conv => whnf); repeat' (first | (intro amx; try rw [decide_eq_true_eq] at amx; try rw [decide_eq_false_iff_not] at amx; (conv => whnf)) | (refine ⟨by omega, ?_⟩; (conv => whnf)) | (refine ⟨fun amb => ?_, fun amb => ?_⟩ <;> (try rw [decide_eq_true_eq] at amb) <;> (try rw [decide_eq_false_iff_not] at amb) <;> first | (exfalso; omega) | (conv => whnf)) | fail))
      all_goals first | (refine .done ?_; (conv => whnf); exact ⟨rfl, _, .ff⟩) | skip
      have hcs2 := amx
      obtain rfl := Option.some.inj (hcs.symm.trans hcs2)
      ((conv => whnf); repeat' (first | (intro amx; try rw [decide_eq_true_eq] at amx; try rw [decide_eq_false_iff_not] at amx; (conv => whnf)) | (refine ⟨by omega, ?_⟩; (conv => whnf)) | (refine ⟨fun amb => ?_, fun amb => ?_⟩ <;> (try rw [decide_eq_true_eq] at amb) <;> (try rw [decide_eq_false_iff_not] at amb) <;> first | (exfalso; omega) | (conv => whnf)) | fail))
      all_goals first | (refine .done ?_; (conv => whnf); exact ⟨rfl, _, .ff⟩) | exact .keep [1, 2, 3] (.done ⟨x + 1, ⟨by omega, by omega⟩, by rw [wrapS x ops.length (by omega) hl3]; rfl, rfl⟩)
    · refine .done ?_; (conv => whnf); exact ⟨rfl, _, .tt⟩
end Go.AM
