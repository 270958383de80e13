/- SchedNone: the law for every input. -/
import Derived.Test.YtjneljpbkjhlmaaGreatDoorAmS3
import Derived.Test.YtjneljpbkjhlmaaGreatDoorAmS4
import Derived.Test.YtjneljpbkjhlmaaGreatDoorAmS8
import Derived.Test.YtjneljpbkjhlmaaGreatDoorAmJ
import Derived.SevenTiedAt
import Derived.Test.YtjneljpbkjhlmaaGreatDoorCards
set_option linter.unusedVariables false
set_option linter.unusedSimpArgs false
set_option linter.unnecessarySimpa false
set_option linter.unusedSectionVars false
set_option maxRecDepth 100000
set_option linter.unusedVariables false
namespace Go.Proofs.YtjneljpbkjhlmaaGreatDoor
open Go Go.AM Go.ChangeShapes Go.WideShapes Go.ChangeAt Go.RowKit
def tInt : Ty := .int .i64
def tCol : Ty := .st 3 [.str, tInt, .bool]
def tIdx : Ty := .st 2 [.sl 1 tInt, .bool]
def tSchema : Ty := .st 4 [.str, .sl 3 tCol, .sl 1 tInt, .sl 2 tIdx]
def tVal : Ty := .st 3 [tInt, tInt, .str]
def tOp : Ty := .st 3 [tInt, .str, .sl 3 tVal]
def tCmd : Ty := .st 10 [tInt, tSchema, .sl 3 tOp, .str, .str, tInt, tInt]
theorem lay : tyL Tryz.prog Tryz.f3.params.toList [tCmd, tInt] = true := by kernel_rfl
theorem col_inv {cs : List V} (h : Typed tCol cs) : ∃ s k b, cs = [.s s, .i .i64 k, .b b] := by
  obtain ⟨u1, r1, rfl, h1, hr⟩ := h.st_inv.cons_inv
  obtain ⟨u2, r2, rfl, h2, hr⟩ := hr.cons_inv
  obtain ⟨u3, r3, rfl, h3, hr⟩ := hr.cons_inv
  obtain rfl := hr.nil_inv
  obtain ⟨s, rfl, _⟩ := h1.str_inv
  obtain ⟨k, rfl⟩ := h2.int_inv
  obtain ⟨b, rfl⟩ := h3.bool_inv
  exact ⟨s, k, b, rfl⟩
theorem idx_inv {cs : List V} (h : Typed tIdx cs) : ∃ l b, cs = [.lst 1 l, .b b] := by
  obtain ⟨u1, r1, rfl, h1, hr⟩ := h.st_inv.cons_inv
  obtain ⟨u2, r2, rfl, h2, hr⟩ := hr.cons_inv
  obtain rfl := hr.nil_inv
  obtain ⟨s, rfl, _⟩ := h1.sl_inv
  obtain ⟨b, rfl⟩ := h2.bool_inv
  exact ⟨s, b, rfl⟩
theorem op_inv {cs : List V} (h : Typed tOp cs) : ∃ k s l, cs = [.i .i64 k, .s s, .lst 3 l] := by
  obtain ⟨u1, r1, rfl, h1, hr⟩ := h.st_inv.cons_inv
  obtain ⟨u2, r2, rfl, h2, hr⟩ := hr.cons_inv
  obtain ⟨u3, r3, rfl, h3, hr⟩ := hr.cons_inv
  obtain rfl := hr.nil_inv
  obtain ⟨k, rfl⟩ := h1.int_inv
  obtain ⟨s, rfl, _⟩ := h2.str_inv
  obtain ⟨l, rfl, _⟩ := h3.sl_inv
  exact ⟨k, s, l, rfl⟩
theorem cmd_inv {vs : List V} (h : Typed tCmd vs) : ∃ (kd sub pos : Int) (nm snm stx : List UInt8) (cols keys idx ops : List (List V)),
    vs = [.i .i64 kd, .s nm, .lst 3 cols, .lst 1 keys, .lst 2 idx, .lst 3 ops, .s snm, .s stx, .i .i64 sub, .i .i64 pos] ∧ (∀ cs ∈ cols, ∃ s k b, cs = [.s s, .i .i64 k, .b b]) ∧ (∀ cs ∈ idx, ∃ l b, cs = [.lst 1 l, .b b]) ∧
    (∀ cs ∈ ops, ∃ k s l, cs = [.i .i64 k, .s s, .lst 3 l]) ∧ cols.length ≤ maxLen ∧ idx.length ≤ maxLen ∧ ops.length ≤ maxLen := by
  obtain ⟨u1, r1, rfl, h1, hr⟩ := h.st_inv.cons_inv
  obtain ⟨u2, r2, rfl, h2, hr⟩ := hr.cons_inv
  obtain ⟨u3, r3, rfl, h3, hr⟩ := hr.cons_inv
  obtain ⟨u4, r4, rfl, h4, hr⟩ := hr.cons_inv
  obtain ⟨u5, r5, rfl, h5, hr⟩ := hr.cons_inv
  obtain ⟨u6, r6, rfl, h6, hr⟩ := hr.cons_inv
  obtain ⟨u7, r7, rfl, h7, hr⟩ := hr.cons_inv
  obtain rfl := hr.nil_inv
  obtain ⟨kd, rfl⟩ := h1.int_inv
  obtain ⟨w1, q1, rfl, g1, hr⟩ := h2.st_inv.cons_inv
  obtain ⟨w2, q2, rfl, g2, hr⟩ := hr.cons_inv
  obtain ⟨w3, q3, rfl, g3, hr⟩ := hr.cons_inv
  obtain ⟨w4, q4, rfl, g4, hr⟩ := hr.cons_inv
  obtain rfl := hr.nil_inv
  obtain ⟨nm, rfl, _⟩ := g1.str_inv
  obtain ⟨cols, rfl, c1, c2⟩ := g2.sl_inv
  obtain ⟨keys, rfl, _, _⟩ := g3.sl_inv
  obtain ⟨idx, rfl, i1, i2⟩ := g4.sl_inv
  obtain ⟨ops, rfl, o1, o2⟩ := h3.sl_inv
  obtain ⟨snm, rfl, _⟩ := h4.str_inv
  obtain ⟨stx, rfl, _⟩ := h5.str_inv
  obtain ⟨sub, rfl⟩ := h6.int_inv
  obtain ⟨pos, rfl⟩ := h7.int_inv
  exact ⟨kd, sub, pos, nm, snm, stx, cols, keys, idx, ops, rfl, fun cs h => col_inv (c2 cs h), fun cs h => idx_inv (i2 cs h), fun cs h => op_inv (o2 cs h), c1, i1, o1⟩
theorem law_all (us : List V) (h : Args [tCmd, tInt] us) : ACalls Tryz.prog 3 us (.sy fun _ => none) fun v h' => h' = .sy (fun _ => none) ∧ bvI v true := by
  obtain ⟨v1, r1, rfl, h1, hr⟩ := h.cons_inv
  obtain ⟨v2, r2, rfl, h2, hr⟩ := hr.cons_inv
  obtain rfl := hr.nil_inv
  obtain ⟨vs, h1, rfl⟩ := h1
  obtain ⟨kd, sub, pos, nm, snm, stx, cols, keys, idx, ops, rfl, hc, hi, ho, l1, l2, l3⟩ := cmd_inv h1
  obtain ⟨n, hn⟩ := Typed.int_inv h2
  cases hn
  exact law _ kd sub pos n nm snm stx cols keys idx ops hc hi ho l1 l2 l3
theorem ent3 : Ent Tryz.prog 3 := ⟨_, Tryz.func3, rfl, by decide⟩
theorem lifted (os : Os) (started : os.Started) (H : Type) (enc : TypeId × Value → H) :
    ReturnsInHanded {} Tryz.checked os 3 .any (fun w args => (Rows.schedNoneSpec.pre enc Tryz.prog Tryz.f3 [] false w args ∧ laidMetH Tryz.prog Rows.schedNoneRow.laid w) ∧ sizedMet enc Tryz.prog Tryz.f3 (OpenSpec.ofChange Rows.schedNoneSpec) false w args)
      (Rows.schedNoneSpec.post enc Tryz.prog Tryz.f3 false true false false) := by
  refine returnsInHanded_of_change_and (C := Tryz.checked) (X := fun w _ => laidMetH Tryz.prog Rows.schedNoneRow.laid w) (fun _ _ _ hh h => h.of_heap hh) own started (by kernel_rfl) Tryz.func3
    (ChangeSpec.witness_shaped (enc := enc) (C := Tryz.checked) (os := os) (X := fun w _ => laidMetH Tryz.prog Rows.schedNoneRow.laid w) false (startW os) #[arg0, .int .i64 0] 8 rfl (start_shaped os) (start_ok os) (by kernel_rfl) (by kernel_rfl) (door_met os _)) ?_
  intro W base args ds gs before hval hW _ _ hL _
  refine law_contract (tys := [tCmd, tInt]) (tb := 4) ent3 lay g2 ?_ rfl rfl Tryz.underlying4 ?_ law_all hval hW
  · intro t ht
    have hall : (Tryz.f3.params.toList.all fun t => Tryz.prog.readableRec t && decide (t < Tryz.prog.types.size)) = true := by kernel_rfl
    have := List.all_eq_true.1 hall t ht
    simpa only [Bool.and_eq_true, decide_eq_true_eq] using this
  · intro ds hd
    have hd : ds.length = 2 := hd
    match ds, hd with
    | [d1, d2], _ => rfl
end Go.Proofs.YtjneljpbkjhlmaaGreatDoor
