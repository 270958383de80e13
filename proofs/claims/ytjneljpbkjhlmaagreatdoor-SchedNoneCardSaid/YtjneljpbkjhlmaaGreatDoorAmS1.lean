/- The guards. -/
import Derived.Test.YtjneljpbkjhlmaaGreatDoorAmSeat
set_option linter.unusedVariables false
set_option linter.unusedSimpArgs false
set_option linter.unnecessarySimpa false
set_option linter.unusedSectionVars false
set_option maxRecDepth 100000
set_option linter.unusedVariables false
namespace Go.AM
open Go Go.Proofs
noncomputable abbrev SX : Mach := symX Tryz.prog (extX Tryz.prog tt xp)
theorem hSX : Snd Tryz.prog SX := symX_ok xall
theorem wrapS (x n : Nat) (h : x < n) (hn : n ≤ maxLen) : IntKind.i64.wrap ((x : Int) + 1) = ((x + 1 : Nat) : Int) := by
  have := wrap64_id (l := (x : Int) + 1) (by omega) (by simp only [maxLen] at hn; omega)
  rw [this]; rfl
set_option maxHeartbeats 400000
theorem small08 (m : Nat → Option GRow) (nm : List UInt8) (cols keys idx : List (List V)) (hc : ∀ cs ∈ cols, ∃ s k b, cs = [.s s, .i .i64 k, .b b]) (hi : ∀ cs ∈ idx, ∃ l b, cs = [.lst 1 l, .b b]) (hl1 : cols.length ≤ maxLen) (hl2 : idx.length ≤ maxLen) :
    ACalls Tryz.prog 14 [.agg [.s nm, .lst 3 cols, .lst 1 keys, .lst 2 idx]] (.sy m) (fun v h' => h' = .sy m ∧ ∃ b, bvI v b) := by
  refine ACalls.of hSX htt Tryz.func14 rfl rfl rfl ?_
  ((conv => whnf); repeat' (first | (intro amx; try rw [decide_eq_true_eq] at amx; try rw [decide_eq_false_iff_not] at amx; (conv => whnf)) | (refine ⟨by omega, ?_⟩; (conv => whnf)) | (refine ⟨fun amb => ?_, fun amb => ?_⟩ <;> (try rw [decide_eq_true_eq] at amb) <;> (try rw [decide_eq_false_iff_not] at amb) <;> first | (exfalso; omega) | (conv => whnf)) | fail))
  iterate 4 (refine .done ?_; (conv => whnf); exact ⟨rfl, _, .ff⟩)
  refine LoopP.gh (.keep [1, 2, 3] (.done ?_))
  refine LoopP.ind hSX htt (α := Nat) (fun i => [(1, .box false [V.s nm, V.lst 3 cols, V.lst 1 keys, V.lst 2 idx]), (2, .ff), (3, .i .i64 (i : Nat))]) (fun _ => .sy m) (fun i => i ≤ cols.length) (fun i => cols.length - i) ?_ 0 (Nat.zero_le _)
  intro x hx
  ((conv => whnf); repeat' (first | (intro amx; try rw [decide_eq_true_eq] at amx; try rw [decide_eq_false_iff_not] at amx; (conv => whnf)) | (refine ⟨by omega, ?_⟩; (conv => whnf)) | (refine ⟨fun amb => ?_, fun amb => ?_⟩ <;> (try rw [decide_eq_true_eq] at amb) <;> (try rw [decide_eq_false_iff_not] at amb) <;> first | (exfalso; omega) | (conv => whnf)) | fail))
  · have hcs := amx
    obtain ⟨s, k, b, rfl⟩ := hc _ (List.mem_of_getElem? hcs)
    ((conv => whnf); repeat' (first | (intro amx; try rw [decide_eq_true_eq] at amx; try rw [decide_eq_false_iff_not] at amx; (conv => whnf)) | (refine ⟨by omega, ?_⟩; (conv => whnf)) | (refine ⟨fun amb => ?_, fun amb => ?_⟩ <;> (try rw [decide_eq_true_eq] at amb) <;> (try rw [decide_eq_false_iff_not] at amb) <;> first | (exfalso; omega) | (conv => whnf)) | fail))
    · refine .done ?_; (conv => whnf); exact ⟨rfl, _, .ff⟩
    · exact .keep [1, 2, 3] (.done ⟨x + 1, ⟨by omega, by omega⟩, by rw [wrapS x cols.length (by omega) hl1]; rfl, rfl⟩)
  · refine LoopP.gh (.keep [1, 2, 4] (.done ?_))
    refine LoopP.ind hSX htt (α := Nat) (fun i => [(1, .box false [V.s nm, V.lst 3 cols, V.lst 1 keys, V.lst 2 idx]), (2, .ff), (4, .i .i64 (i : Nat))]) (fun _ => .sy m) (fun i => i ≤ idx.length) (fun i => idx.length - i) ?_ 0 (Nat.zero_le _)
    intro x hx
    ((conv => whnf); repeat' (first | (intro amx; try rw [decide_eq_true_eq] at amx; try rw [decide_eq_false_iff_not] at amx; (conv => whnf)) | (refine ⟨by omega, ?_⟩; (conv => whnf)) | (refine ⟨fun amb => ?_, fun amb => ?_⟩ <;> (try rw [decide_eq_true_eq] at amb) <;> (try rw [decide_eq_false_iff_not] at amb) <;> first | (exfalso; omega) | (conv => whnf)) | fail))
    · have hcs := amx
      obtain ⟨l, b, rfl⟩ := hi _ (List.mem_of_getElem? hcs)
      ((conv => whnf); repeat' (first | (intro amx; try rw [decide_eq_true_eq] at amx; try rw [decide_eq_false_iff_not] at amx; (conv => whnf)) | (refine ⟨by omega, ?_⟩; (conv => whnf)) | (refine ⟨fun amb => ?_, fun amb => ?_⟩ <;> (try rw [decide_eq_true_eq] at amb) <;> (try rw [decide_eq_false_iff_not] at amb) <;> first | (exfalso; omega) | (conv => whnf)) | fail))
      · refine .done ?_; (conv => whnf); exact ⟨rfl, _, .ff⟩
      · exact .keep [1, 2, 4] (.done ⟨x + 1, ⟨by omega, by omega⟩, by rw [wrapS x idx.length (by omega) hl2]; rfl, rfl⟩)
    · refine .done ?_; (conv => whnf); exact ⟨rfl, _, .tt⟩
end Go.AM
