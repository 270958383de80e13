/- The law, walked. -/
import Derived.Test.YtjneljpbkjhlmaaGreatDoorAmS2
import Derived.Test.YtjneljpbkjhlmaaGreatDoorAmRun
import Derived.Test.YtjneljpbkjhlmaaGreatDoorAmI
set_option linter.unusedVariables false
set_option linter.unusedSimpArgs false
set_option linter.unnecessarySimpa false
set_option linter.unusedSectionVars false
set_option maxRecDepth 100000
set_option linter.unusedVariables false
set_option maxHeartbeats 400000
namespace Go.AM
open Go Go.Proofs
theorem awakeC (m : Nat → Option GRow) : ACalls Tryz.prog 5 [] (.sy m) fun v h' => h' = .sy m ∧ v = .tt := by
  have k : ACalls Tryz.prog 5 [] (.ex .nil 0) fun v _ => v = .tt := (runY xall tbOk 99999 awake_run).mono fun v h' hv => by
    cases v <;> first | rfl | exact hv.elim
  exact k.frame (fun v e => by subst e; rfl) (.sy m) rfl
theorem c9 (m : Nat → Option GRow) : ACalls Tryz.prog 9 [.nilp] (.sy m) fun v h' => h' = .sy m ∧ v = .nils := by
  refine ACalls.of hSX htt Tryz.func9 rfl rfl rfl ?_
  ((conv => whnf); repeat' (first | (intro amx; try rw [decide_eq_true_eq] at amx; try rw [decide_eq_false_iff_not] at amx; (conv => whnf)) | (refine ⟨by omega, ?_⟩; (conv => whnf)) | (refine ⟨fun amb => ?_, fun amb => ?_⟩ <;> (try rw [decide_eq_true_eq] at amb) <;> (try rw [decide_eq_false_iff_not] at amb) <;> first | (exfalso; omega) | (conv => whnf)) | fail))
  refine .done ?_; (conv => whnf); exact ⟨rfl, rfl⟩
theorem c6 (m : Nat → Option GRow) (n : Int) : ACalls Tryz.prog 6 [.nilp, .i .i64 n] (.sy m) fun v h' => h' = .sy m ∧ v = (.tup [.i .i64 0, .ff]) := by
  refine ACalls.of hSX htt Tryz.func6 rfl rfl rfl ?_
  ((conv => whnf); repeat' (first | (intro amx; try rw [decide_eq_true_eq] at amx; try rw [decide_eq_false_iff_not] at amx; (conv => whnf)) | (refine ⟨by omega, ?_⟩; (conv => whnf)) | (refine ⟨fun amb => ?_, fun amb => ?_⟩ <;> (try rw [decide_eq_true_eq] at amb) <;> (try rw [decide_eq_false_iff_not] at amb) <;> first | (exfalso; omega) | (conv => whnf)) | fail))
  refine (c9 m).mono ?_
  rintro _ _ ⟨rfl, rfl⟩
  ((conv => whnf); repeat' (first | (intro amx; try rw [decide_eq_true_eq] at amx; try rw [decide_eq_false_iff_not] at amx; (conv => whnf)) | (refine ⟨by omega, ?_⟩; (conv => whnf)) | (refine ⟨fun amb => ?_, fun amb => ?_⟩ <;> (try rw [decide_eq_true_eq] at amb) <;> (try rw [decide_eq_false_iff_not] at amb) <;> first | (exfalso; omega) | (conv => whnf)) | fail))
  refine .done ?_; (conv => whnf); exact ⟨rfl, rfl⟩
theorem c7 (m : Nat → Option GRow) (n : Int) : ACalls Tryz.prog 7 [.nilp, .i .i64 n] (.sy m) fun v h' => h' = .sy m ∧ v = .nilp := by
  refine ACalls.of hSX htt Tryz.func7 rfl rfl rfl ?_
  ((conv => whnf); repeat' (first | (intro amx; try rw [decide_eq_true_eq] at amx; try rw [decide_eq_false_iff_not] at amx; (conv => whnf)) | (refine ⟨by omega, ?_⟩; (conv => whnf)) | (refine ⟨fun amb => ?_, fun amb => ?_⟩ <;> (try rw [decide_eq_true_eq] at amb) <;> (try rw [decide_eq_false_iff_not] at amb) <;> first | (exfalso; omega) | (conv => whnf)) | fail))
  refine .done ?_; (conv => whnf); exact ⟨rfl, rfl⟩
theorem c8 (m : Nat → Option GRow) (kd sub pos : Int) (nm snm stx : List UInt8) (cols keys idx ops : List (List V)) : ACalls Tryz.prog 8 [.nilp, .agg [.i .i64 kd, .s nm, .lst 3 cols, .lst 1 keys, .lst 2 idx, .lst 3 ops, .s snm, .s stx, .i .i64 sub, .i .i64 pos]] (.sy m) fun v h' => h' = .sy m ∧ v = .i .i64 0 := by
  refine ACalls.of hSX htt Tryz.func8 rfl rfl rfl ?_
  ((conv => whnf); repeat' (first | (intro amx; try rw [decide_eq_true_eq] at amx; try rw [decide_eq_false_iff_not] at amx; (conv => whnf)) | (refine ⟨by omega, ?_⟩; (conv => whnf)) | (refine ⟨fun amb => ?_, fun amb => ?_⟩ <;> (try rw [decide_eq_true_eq] at amb) <;> (try rw [decide_eq_false_iff_not] at amb) <;> first | (exfalso; omega) | (conv => whnf)) | fail))
  refine .done ?_; (conv => whnf); exact ⟨rfl, rfl⟩
theorem c10 (m : Nat → Option GRow) : ACalls Tryz.prog 10 [.nilp] (.sy m) fun v h' => h' = .sy m ∧ v = .nils := by
  refine ACalls.of hSX htt Tryz.func10 rfl rfl rfl ?_
  ((conv => whnf); repeat' (first | (intro amx; try rw [decide_eq_true_eq] at amx; try rw [decide_eq_false_iff_not] at amx; (conv => whnf)) | (refine ⟨by omega, ?_⟩; (conv => whnf)) | (refine ⟨fun amb => ?_, fun amb => ?_⟩ <;> (try rw [decide_eq_true_eq] at amb) <;> (try rw [decide_eq_false_iff_not] at amb) <;> first | (exfalso; omega) | (conv => whnf)) | fail))
  refine .done ?_; (conv => whnf); exact ⟨rfl, rfl⟩
theorem c11 (m : Nat → Option GRow) : ACalls Tryz.prog 11 [.nilp] (.sy m) fun v h' => h' = .sy m ∧ v = .tt := by
  refine ACalls.of hSX htt Tryz.func11 rfl rfl rfl ?_
  ((conv => whnf); repeat' (first | (intro amx; try rw [decide_eq_true_eq] at amx; try rw [decide_eq_false_iff_not] at amx; (conv => whnf)) | (refine ⟨by omega, ?_⟩; (conv => whnf)) | (refine ⟨fun amb => ?_, fun amb => ?_⟩ <;> (try rw [decide_eq_true_eq] at amb) <;> (try rw [decide_eq_false_iff_not] at amb) <;> first | (exfalso; omega) | (conv => whnf)) | fail))
  refine .done ?_; (conv => whnf); exact ⟨rfl, rfl⟩
theorem c12 (m : Nat → Option GRow) : ACalls Tryz.prog 12 [.nilp] (.sy m) fun v h' => h' = .sy m ∧ v = .i .i64 0 := by
  refine ACalls.of hSX htt Tryz.func12 rfl rfl rfl ?_
  ((conv => whnf); repeat' (first | (intro amx; try rw [decide_eq_true_eq] at amx; try rw [decide_eq_false_iff_not] at amx; (conv => whnf)) | (refine ⟨by omega, ?_⟩; (conv => whnf)) | (refine ⟨fun amb => ?_, fun amb => ?_⟩ <;> (try rw [decide_eq_true_eq] at amb) <;> (try rw [decide_eq_false_iff_not] at amb) <;> first | (exfalso; omega) | (conv => whnf)) | fail))
  refine .done ?_; (conv => whnf); exact ⟨rfl, rfl⟩
theorem c13 (m : Nat → Option GRow) : ACalls Tryz.prog 13 [.nilp] (.sy m) fun v h' => h' = .sy m ∧ v = .i .i64 0 := by
  refine ACalls.of hSX htt Tryz.func13 rfl rfl rfl ?_
  ((conv => whnf); repeat' (first | (intro amx; try rw [decide_eq_true_eq] at amx; try rw [decide_eq_false_iff_not] at amx; (conv => whnf)) | (refine ⟨by omega, ?_⟩; (conv => whnf)) | (refine ⟨fun amb => ?_, fun amb => ?_⟩ <;> (try rw [decide_eq_true_eq] at amb) <;> (try rw [decide_eq_false_iff_not] at amb) <;> first | (exfalso; omega) | (conv => whnf)) | fail))
  refine .done ?_; (conv => whnf); exact ⟨rfl, rfl⟩
theorem law (m : Nat → Option GRow) (kd sub pos n : Int) (nm snm stx : List UInt8) (cols keys idx ops : List (List V)) (hc : ∀ cs ∈ cols, ∃ s k b, cs = [.s s, .i .i64 k, .b b]) (hi : ∀ cs ∈ idx, ∃ l b, cs = [.lst 1 l, .b b])
    (ho : ∀ cs ∈ ops, ∃ k s l, cs = [.i .i64 k, .s s, .lst 3 l]) (hl1 : cols.length ≤ maxLen) (hl2 : idx.length ≤ maxLen) (hl3 : ops.length ≤ maxLen) :
    ACalls Tryz.prog 3 [.agg [.i .i64 kd, .s nm, .lst 3 cols, .lst 1 keys, .lst 2 idx, .lst 3 ops, .s snm, .s stx, .i .i64 sub, .i .i64 pos], .i .i64 n] (.sy m) (fun v h' => h' = .sy m ∧ bvI v true) := by
  refine ACalls.of hSX htt Tryz.func3 rfl rfl rfl ?_
  ((conv => whnf); repeat' (first | (intro amx; try rw [decide_eq_true_eq] at amx; try rw [decide_eq_false_iff_not] at amx; (conv => whnf)) | (refine ⟨by omega, ?_⟩; (conv => whnf)) | (refine ⟨fun amb => ?_, fun amb => ?_⟩ <;> (try rw [decide_eq_true_eq] at amb) <;> (try rw [decide_eq_false_iff_not] at amb) <;> first | (exfalso; omega) | (conv => whnf)) | fail))
  refine (small17 m kd sub pos nm snm stx cols keys idx ops hc hi ho hl1 hl2 hl3).mono ?_
  rintro v h' ⟨rfl, b, hb⟩
  cases hb
  all_goals ((conv => whnf); repeat' (first | (intro amx; try rw [decide_eq_true_eq] at amx; try rw [decide_eq_false_iff_not] at amx; (conv => whnf)) | (refine ⟨by omega, ?_⟩; (conv => whnf)) | (refine ⟨fun amb => ?_, fun amb => ?_⟩ <;> (try rw [decide_eq_true_eq] at amb) <;> (try rw [decide_eq_false_iff_not] at amb) <;> first | (exfalso; omega) | (conv => whnf)) | fail))
  all_goals repeat' (first
    | (refine (awakeC m).mono ?_; rintro _ _ ⟨rfl, rfl⟩; ((conv => whnf); repeat' (first | (intro amx; try rw [decide_eq_true_eq] at amx; try rw [decide_eq_false_iff_not] at amx; (conv => whnf)) | (refine ⟨by omega, ?_⟩; (conv => whnf)) | (refine ⟨fun amb => ?_, fun amb => ?_⟩ <;> (try rw [decide_eq_true_eq] at amb) <;> (try rw [decide_eq_false_iff_not] at amb) <;> first | (exfalso; omega) | (conv => whnf)) | fail)))
    | (refine (c6 m n).mono ?_; rintro _ _ ⟨rfl, rfl⟩; ((conv => whnf); repeat' (first | (intro amx; try rw [decide_eq_true_eq] at amx; try rw [decide_eq_false_iff_not] at amx; (conv => whnf)) | (refine ⟨by omega, ?_⟩; (conv => whnf)) | (refine ⟨fun amb => ?_, fun amb => ?_⟩ <;> (try rw [decide_eq_true_eq] at amb) <;> (try rw [decide_eq_false_iff_not] at amb) <;> first | (exfalso; omega) | (conv => whnf)) | fail)))
    | (refine (c7 m _).mono ?_; rintro _ _ ⟨rfl, rfl⟩; ((conv => whnf); repeat' (first | (intro amx; try rw [decide_eq_true_eq] at amx; try rw [decide_eq_false_iff_not] at amx; (conv => whnf)) | (refine ⟨by omega, ?_⟩; (conv => whnf)) | (refine ⟨fun amb => ?_, fun amb => ?_⟩ <;> (try rw [decide_eq_true_eq] at amb) <;> (try rw [decide_eq_false_iff_not] at amb) <;> first | (exfalso; omega) | (conv => whnf)) | fail)))
    | (refine (c8 m kd sub pos nm snm stx cols keys idx ops).mono ?_; rintro _ _ ⟨rfl, rfl⟩; ((conv => whnf); repeat' (first | (intro amx; try rw [decide_eq_true_eq] at amx; try rw [decide_eq_false_iff_not] at amx; (conv => whnf)) | (refine ⟨by omega, ?_⟩; (conv => whnf)) | (refine ⟨fun amb => ?_, fun amb => ?_⟩ <;> (try rw [decide_eq_true_eq] at amb) <;> (try rw [decide_eq_false_iff_not] at amb) <;> first | (exfalso; omega) | (conv => whnf)) | fail)))
    | (refine (c9 m).mono ?_; rintro _ _ ⟨rfl, rfl⟩; ((conv => whnf); repeat' (first | (intro amx; try rw [decide_eq_true_eq] at amx; try rw [decide_eq_false_iff_not] at amx; (conv => whnf)) | (refine ⟨by omega, ?_⟩; (conv => whnf)) | (refine ⟨fun amb => ?_, fun amb => ?_⟩ <;> (try rw [decide_eq_true_eq] at amb) <;> (try rw [decide_eq_false_iff_not] at amb) <;> first | (exfalso; omega) | (conv => whnf)) | fail)))
    | (refine (c10 m).mono ?_; rintro _ _ ⟨rfl, rfl⟩; ((conv => whnf); repeat' (first | (intro amx; try rw [decide_eq_true_eq] at amx; try rw [decide_eq_false_iff_not] at amx; (conv => whnf)) | (refine ⟨by omega, ?_⟩; (conv => whnf)) | (refine ⟨fun amb => ?_, fun amb => ?_⟩ <;> (try rw [decide_eq_true_eq] at amb) <;> (try rw [decide_eq_false_iff_not] at amb) <;> first | (exfalso; omega) | (conv => whnf)) | fail)))
    | (refine (c11 m).mono ?_; rintro _ _ ⟨rfl, rfl⟩; ((conv => whnf); repeat' (first | (intro amx; try rw [decide_eq_true_eq] at amx; try rw [decide_eq_false_iff_not] at amx; (conv => whnf)) | (refine ⟨by omega, ?_⟩; (conv => whnf)) | (refine ⟨fun amb => ?_, fun amb => ?_⟩ <;> (try rw [decide_eq_true_eq] at amb) <;> (try rw [decide_eq_false_iff_not] at amb) <;> first | (exfalso; omega) | (conv => whnf)) | fail)))
    | (refine (c12 m).mono ?_; rintro _ _ ⟨rfl, rfl⟩; ((conv => whnf); repeat' (first | (intro amx; try rw [decide_eq_true_eq] at amx; try rw [decide_eq_false_iff_not] at amx; (conv => whnf)) | (refine ⟨by omega, ?_⟩; (conv => whnf)) | (refine ⟨fun amb => ?_, fun amb => ?_⟩ <;> (try rw [decide_eq_true_eq] at amb) <;> (try rw [decide_eq_false_iff_not] at amb) <;> first | (exfalso; omega) | (conv => whnf)) | fail)))
    | (refine (c13 m).mono ?_; rintro _ _ ⟨rfl, rfl⟩; ((conv => whnf); repeat' (first | (intro amx; try rw [decide_eq_true_eq] at amx; try rw [decide_eq_false_iff_not] at amx; (conv => whnf)) | (refine ⟨by omega, ?_⟩; (conv => whnf)) | (refine ⟨fun amb => ?_, fun amb => ?_⟩ <;> (try rw [decide_eq_true_eq] at amb) <;> (try rw [decide_eq_false_iff_not] at amb) <;> first | (exfalso; omega) | (conv => whnf)) | fail)))
    | (refine .done ?_; (conv => whnf); exact ⟨rfl, .tt⟩)
    | (first | (intro amx; try rw [decide_eq_true_eq] at amx; try rw [decide_eq_false_iff_not] at amx; (conv => whnf)) | (refine ⟨by omega, ?_⟩; (conv => whnf)) | (refine ⟨fun amb => ?_, fun amb => ?_⟩ <;> (try rw [decide_eq_true_eq] at amb) <;> (try rw [decide_eq_false_iff_not] at amb) <;> first | (exfalso; omega) | (conv => whnf)) | fail))
end Go.AM
