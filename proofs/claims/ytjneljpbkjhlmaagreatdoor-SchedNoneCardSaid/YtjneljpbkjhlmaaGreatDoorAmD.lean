/- Soundness, 11: slice literals, append, struct literals. -/
import Derived.Test.YtjneljpbkjhlmaaGreatDoorAmC
import Derived.Orders
set_option linter.unusedVariables false
set_option linter.unusedSimpArgs false
set_option linter.unnecessarySimpa false
set_option linter.unusedSectionVars false
set_option linter.unusedVariables false
set_option linter.unusedSimpArgs false
namespace Go.AM
open Go

section
variable {P : Program} {M : Mach} {tt : TT} {c0 : Cfg} {h0 : H} {n : Nat} {c : Cfg} {h : H} {bb : Nat → Nat} {F : Fr} {a : Act} {o : Oper} {next : Act → World → Prop} {Q : Exit → Act → World → Prop} {K : Fr → H → Prop}

theorem seqs_eq (m : Nat) (z : List V) : seqs m z = List.replicate m z := by induction m <;> simp_all [seqs, List.replicate_succ]

theorem zero_row (z : Array Value) (hz : 0 < z.size) (m : Nat) : ((Array.range (m * z.size)).map (fun j => z[j % z.size]!)).toList = (List.replicate m z.toList).flatten := by
  induction m with
  | zero => simp
  | succ m ih =>
    rw [List.replicate_succ, List.flatten_cons, ← ih]
    simp only [Array.toList_map, Array.toList_range]
    rw [Nat.add_mul, Nat.add_comm, Nat.one_mul, List.range_add, List.map_append]
    congr 1
    · apply List.ext_getElem
      · simp
      · intro j h1 h2
        simp at h1
        simp [Nat.mod_eq_of_lt h1, h1]
    · rw [List.map_map]
      apply List.map_congr_left
      intro j _
      simp

theorem ok_buildSlice {t : TypeId} {m : Nat} {parts : Array (Nat × Operand)} (htt : ∀ t, TIok P t (tt t)) (ho : o.op = .buildSlice t m parts) (st : St c0 h0 n c h bb F a) (hk : evOp0 M tt n o F h K) (hn : Goes c0 h0 n K next) : o.wp P a c.w next Q := by
  simp only [evOp0, ho, opPick, opBuild, opLoad, opNilCheck, opBinOp, opConvert, opSlice, opFieldAddr, opIndexAddr, opIndex, opExtract, opAlloc, opBox, opStore, opBuildSlice, opMakeFunc] at hk
  have ht := htt t
  split at hk
  case h_2 => exact hk.elim
  rename_i esz eb ez hz
  rw [hz] at ht
  obtain ⟨e, hu, _, ie, zv, hi1, hi2, hpos, hi3, hi4, hi5, hi6, hi7, _⟩ := ht
  split at hk
  · exact hk.elim
  rename_i hble
  have hmax : m * esz ≤ 2 ^ 24 := Nat.le_of_ble_eq_true hble
  obtain ⟨_, _, hk⟩ := mapEv_ok st _ hk
  obtain ⟨c, h, F, e1, e2, st, hk⟩ := gh_ok st hk
  rw [← e1]
  have hzs : zv.cells.size = esz := by have := congrArg List.length hi5; simp at this; omega
  obtain ⟨es', arr', h1, h2, h3, h4, h5⟩ := fill_ok parts.toList st (seqs m ez) ((Array.range (m * esz)).map (fun j => zv.cells[j % esz]!)) (K := fun es => newK h ⟨esz, 0, es, 0⟩ fun g h => put n F o.dst (.gsl g esz 0 m) fun F => K F h) (fun i cs hi => by
      rw [seqs_eq, List.getElem?_replicate] at hi
      split at hi
      · injection hi with hi; subst hi; exact ⟨hi6, hi7⟩
      · cases hi) (by
      rw [seqs_eq]
      have hz' := zero_row zv.cells (by omega) m
      rw [hzs] at hz'
      rw [hz']
      have : ∀ m, RVs c (List.replicate m ez).flatten (List.replicate m zv.cells.toList).flatten := by
        intro m
        induction m with
        | zero => exact RVs.nil c
        | succ m ih => rw [List.replicate_succ, List.replicate_succ, List.flatten_cons, List.flatten_cons]; exact (RVs.cvs zv.cells.toList hi5).append ih
      exact this m) hk
  have hlen : es'.length = m := by rw [h2, seqs_eq, List.length_replicate]
  obtain ⟨g, hg1, hg2⟩ := fresh st.ok st.hs
  have hk2 := newK_ok h5 hg2
  have hal : arr'.size = m * esz := by have := h4.len; rw [flat_len (fun i cs hh => (h3 i cs hh).1), hlen] at this; simpa using this.symm
  have hel := Elems.of_flat (fun i cs hh => (h3 i cs hh).1) (fun i cs hh => (h3 i cs hh).2) h4
  have hme : m ≤ maxLen := by
    have : m * 1 ≤ m * esz := Nat.mul_le_mul_left m hpos
    simp only [maxLen]; omega
  have hp : Pushed c.w (c.w.alloc (.cells arr' e)) (.cells arr' e (0, 0)) := ⟨rfl, rfl, rfl, rfl⟩
  obtain ⟨st', hrv⟩ := st.newRow (h1 := h) hp (fun _ _ hh => hh) hg1 (To.new st.hs rfl hg2 ⟨esz, 0, es', 0⟩) (cap := m) hpos hal (by simp [hlen]) hme hel (Nat.zero_le _)
  simp only [hlen] at hrv
  have hrun : (execOp a.eval o).run P c.w = .ok (.value (.slice (some ⟨c.w.heap.size, 0, none⟩) m m)) (c.w.alloc (.cells arr' e)) := by
    have hb : ¬ (m * esz > 2 ^ 24) := by omega
    have hparts : (parts.map fun p => (p.1, a.eval p.2)).toList = parts.toList.map fun p => (p.1, a.eval p.2) := by simp
    simp only [execOp, ho, Instr.buildSlice, Sem.run_bind, run_underlying hu, Result.andThen_ok, sizeOf, typeInfo, run_program, hi1, Sem.run_pure, hi2]
    rw [if_neg hb]
    rw [show (Array.map (fun x => match x with | (i, x) => (i, a.eval x)) parts) = parts.map fun p => (p.1, a.eval p.2) from rfl, hparts]
    by_cases h0 : m * esz = 0
    · have hr0 : Array.range 0 = #[] := rfl
      simp only [h0, hr0, List.map_toArray, List.map_nil] at h1
      simp only [h0, hr0, List.map_toArray, List.map_nil, if_true, pure_bind, h1]
      simp [newRow]
    · simp only [h0, if_false]
      simp [zeroValue, typeInfo, hi1, hi4, hzs, h1, newRow]
  obtain ⟨F', hF', hK⟩ := put_ok st'.fs (VOk.of_RV hrv) hk2
  exact wp_value hrun (hn _ _ bb F' _ ⟨st'.keep, st'.ok, st'.hs, hF'⟩ hK)


theorem Elems.of_prefix {sz : Nat} {es : List (List V)} {arr : Array Value} {xs : List Value} (hl : ∀ (i : Nat) (cs : List V), es[i]? = some cs → cs.length = sz ∧ cellL cs = true) (h : RVs c es.flatten xs)
    (ha : ∀ (q : Nat) (x : Value), xs[q]? = some x → arr[q]? = some x) : Elems c sz es arr := by
  refine ⟨fun i cs hi => (hl i cs hi).1, fun i cs j v h1 h2 => ?_⟩
  have hj : j < sz := by rw [← (hl i cs h1).1]; exact (List.getElem?_eq_some_iff.1 h2).1
  have hf : es.flatten[i * sz + j]? = some v := by rw [flat_get (fun i cs hi => (hl i cs hi).1) i j hj, h1]; exact h2
  have hlt : i * sz + j < xs.length := by rw [← h.len]; exact (List.getElem?_eq_some_iff.1 hf).1
  have hx := List.getElem?_eq_getElem hlt
  exact ⟨cellL_at (hl i cs h1).2 j v h2, _, ha _ _ hx, h.at_ _ _ _ hf hx⟩

theorem wrap64_id {l : Int} (h0 : 0 ≤ l) (h1 : l < 9223372036854775808) : IntKind.i64.wrap l = l := by
  have e : l % 18446744073709551616 = l := Int.emod_eq_of_lt h0 (by omega)
  have e1 : (2 ^ IntKind.i64.bits : Int) = 18446744073709551616 := by decide
  have e2 : (2 ^ (IntKind.i64.bits - 1) : Int) = 9223372036854775808 := by decide
  simp only [IntKind.wrap, e1, e2, e]
  rw [if_neg]
  simp
  omega

theorem ok_makeSlice {t : TypeId} {x y : Operand} (htt : ∀ t, TIok P t (tt t)) (ho : o.op = .makeSlice t x y) (st : St c0 h0 n c h bb F a) (hk : evOp0 M tt n o F h K) (hn : Goes c0 h0 n K next) : o.wp P a c.w next Q := by
  simp only [evOp0, ho, opMakeSlice] at hk
  have ht := htt t
  split at hk
  case h_2 => exact hk.elim
  rename_i esz eb ez hz
  rw [hz] at ht
  obtain ⟨e, hu, _, ie, zv, hi1, hi2, hpos, hi3, hi4, hi5, hi6, hi7, _⟩ := ht
  split at hk
  case h_2 => exact hk.elim
  rename_i l m heb hx hy
  obtain ⟨⟨h1, h2, h3⟩, hk⟩ := chk_ok hk
  simp only [forceN_eq] at hk
  have heb' : 0 < eb := Nat.le_of_ble_eq_true heb
  have hx := (evo st hx).int
  have hy := (evo st hy).int
  have hzs : zv.cells.size = esz := by have := congrArg List.length hi5; simp at this; omega
  have hmle : m.toNat ≤ 140737488355328 := Nat.le_trans (Nat.le_mul_of_pos_right _ heb') h3
  obtain ⟨g, hg1, hg2⟩ := fresh st.ok st.hs
  have hk2 := newK_ok hk hg2
  have hzr := zero_row zv.cells (by omega) m.toNat
  rw [hzs] at hzr
  let arr : Array Value := (Array.range (m.toNat * esz)).map (fun j => zv.cells[j % esz]!)
  have hp : Pushed c.w (c.w.alloc (.cells arr e)) (.cells arr e (0, 0)) := ⟨rfl, rfl, rfl, rfl⟩
  have hrep : ∀ k, RVs c (List.replicate k ez).flatten (List.replicate k zv.cells.toList).flatten := by
    intro k
    induction k with
    | zero => exact RVs.nil c
    | succ k ih => rw [List.replicate_succ, List.replicate_succ, List.flatten_cons, List.flatten_cons]; exact (RVs.cvs zv.cells.toList hi5).append ih
  have hes : ∀ (i : Nat) (cs : List V), (seqs l.toNat ez)[i]? = some cs → cs.length = esz ∧ cellL cs = true := by
    intro i cs hi
    rw [seqs_eq, List.getElem?_replicate] at hi
    split at hi
    · injection hi with hi; subst hi; exact ⟨hi6, hi7⟩
    · cases hi
  have hel := Elems.of_prefix (c := c) (sz := esz) (arr := arr) hes (xs := (List.replicate l.toNat zv.cells.toList).flatten) (by rw [seqs_eq]; exact hrep _) fun q z hq => by
    have : arr.toList[q]? = some z := by
      show ((Array.range (m.toNat * esz)).map (fun j => zv.cells[j % esz]!)).toList[q]? = some z
      rw [hzr]
      obtain ⟨d, hd⟩ : ∃ d, m.toNat = l.toNat + d := ⟨m.toNat - l.toNat, by omega⟩
      rw [hd, ← List.replicate_append_replicate, List.flatten_append, List.getElem?_append_left (List.getElem?_eq_some_iff.1 hq).1]
      exact hq
    simpa using this
  have hlen : (seqs l.toNat ez).length = l.toNat := by rw [seqs_eq]; simp
  obtain ⟨st', hrv⟩ := st.newRow (h1 := h) hp (fun _ _ hh => hh) hg1 (To.new st.hs rfl hg2 ⟨esz, 0, seqs l.toNat ez, 0⟩) (cap := m.toNat) hpos (by simp [arr]) (by rw [hlen]; omega) (by simp only [maxLen]; omega) hel (Nat.zero_le _)
  rw [hlen] at hrv
  have hrun : (execOp a.eval o).run P c.w = .ok (.value (.slice (some ⟨c.w.heap.size, 0, none⟩) l.toNat m.toNat)) (c.w.alloc (.cells arr e)) := by
    have hw1 : IntKind.i64.wrap l = l := wrap64_id h1 (by omega)
    have hw2 : IntKind.i64.wrap m = m := wrap64_id (by omega) (by omega)
    have h3' : (eb : Int) * m ≤ 140737488355328 := by
      have := Int.ofNat_le.2 h3
      rw [Int.natCast_mul, Int.toNat_of_nonneg (by omega), Int.mul_comm] at this
      exact this
    have hcond : (decide (m < 0) || decide ((eb : Int) * m > 2 ^ 48) || decide (l < 0) || decide (l > m)) = false := by
      have e48 : (2 ^ 48 : Int) = 281474976710656 := by decide
      rw [e48]
      simp only [Bool.or_eq_false_iff, decide_eq_false_iff_not]
      exact ⟨⟨⟨by omega, by omega⟩, by omega⟩, by omega⟩
    simp only [execOp, ho, hx, hy, Instr.makeSlice, Sem.run_bind, run_underlying hu, Result.andThen_ok, asInt, asIntOf, Sem.run_pure, typeInfo, run_program, hi1, hi3, hw1, hw2, sizeOf, hi2]
    rw [if_neg (by rw [hcond]; simp)]
    simp only [Sem.run_bind, run_askRoom, Result.andThen_ok, run_program, hi1, Sem.run_pure, hi2]
    by_cases h0 : m.toNat * esz = 0
    · have hr0 : Array.range 0 = #[] := rfl
      simp [h0, newRow, arr, hr0]
    · simp [h0, zeroValue, typeInfo, hi1, hi4, hzs, newRow, arr]
  obtain ⟨F', hF', hK⟩ := put_ok st'.fs (VOk.of_RV hrv) hk2
  exact wp_value hrun (hn _ _ bb F' _ ⟨st'.keep, st'.ok, st'.hs, hF'⟩ hK)

/-! ### append -/
theorem setCells_wr {w : World} {b o : Nat} {arr : Array Value} {e : TypeId} {xs : List Value} (hb : w.heap[b]? = some (.cells arr e (0, 0))) (hfit : o + xs.length ≤ arr.size) (h1 : ∀ x ∈ xs, x.oneCell' = true) : w.setCells b o xs = w.setRow b (wr arr o xs) := by
  have hc : ∀ j, j < xs.length → (w.cell? ⟨b, o + 0 + j, none⟩).isSome = true := fun j hj => by
    have : o + j < arr.size := by omega
    simp [World.cell?, hb, this]
  have hf : ∀ j, j < xs.length → w.frozen? ⟨b, o + 0 + j, none⟩ = false := fun j _ => by simp [World.frozen?, hb]
  have r1 := run_storeCells_cells (P := default) b o xs 0 w hc hf h1
  have r2 := run_storeCells_at default b o e xs 0 arr w hb (by simpa using hfit) h1
  have r3 := r1.symm.trans r2
  simp only [Nat.add_zero] at r3
  injection r3 with _ r3

/-- What is appended, as cells. -/
theorem src_ok {t' : TypeId} {y : V} {esz : Nat} {K : List (List V) → Prop} {x : Operand} (hy : ev F x = y) (hpos : 0 < esz) (hsl : (∃ e', P.underlying t' = some (.slice e')) ∨ P.underlying t' = some .string) (st : St c0 h0 n c h bb F a) (hk : elems h y esz K) :
    ∃ ys news, Src P esz t' (a.eval x) ys.length news c.w ∧ RVs c ys.flatten news ∧ (∀ (i : Nat) (cs : List V), ys[i]? = some cs → cs.length = esz ∧ cellL cs = true) ∧ K ys := by
  have hx := evo st hy
  generalize hxv : a.eval x = xv at hx
  have cellsL : ∀ l : List V, (∀ (j : Nat) (v : V), l[j]? = some v → cell1 v = true) → cellL l = true := by
    intro l
    induction l with
    | nil => intro _; rfl
    | cons z r ih => intro hz; simp only [cellL]; rw [hz 0 z rfl]; exact ih fun j v hj => hz (j + 1) v (by simpa using hj)
  -- elements in memory
  have mem : ∀ (ys : List (List V)) (b off cap : Nat), (∀ (i : Nat) (cs : List V), ys[i]? = some cs → cs.length = esz ∧ cellL cs = true ∧ CellsAt c b (off + i * esz) cs) →
      ∃ news, Src P esz t' (.slice (some ⟨b, off, none⟩) ys.length cap) ys.length news c.w ∧ RVs c ys.flatten news := by
    intro ys b off cap hys
    have hflat := flat_len (es := ys) (sz := esz) (fun i cs hh => (hys i cs hh).1)
    have hcs : CellsAt c b off ys.flatten := by
      intro q v hq
      have hlt : q < ys.length * esz := by rw [← hflat]; exact (List.getElem?_eq_some_iff.1 hq).1
      have hqe : q = q / esz * esz + q % esz := by rw [Nat.mul_comm]; exact (Nat.div_add_mod q esz).symm
      have hqm : q % esz < esz := Nat.mod_lt _ hpos
      rw [hqe, flat_get (fun i cs hh => (hys i cs hh).1) _ _ hqm] at hq
      cases hyi : ys[q / esz]? with
      | none => rw [hyi] at hq; cases hq
      | some cs =>
        rw [hyi] at hq
        obtain ⟨_, _, hc⟩ := hys _ _ hyi
        have := hc (q % esz) v hq
        rwa [show off + q / esz * esz + q % esz = off + q by omega] at this
    obtain ⟨news, h1, h2⟩ := hcs.list
    have hnl : news.length = ys.length * esz := by rw [← h1.len, hflat]
    have hone : ∀ u ∈ news, u.oneCell' = true := cells_one h1 (cellsL _ fun q v hq => by
      have hlt : q < ys.length * esz := by rw [← hflat]; exact (List.getElem?_eq_some_iff.1 hq).1
      have hqe : q = q / esz * esz + q % esz := by rw [Nat.mul_comm]; exact (Nat.div_add_mod q esz).symm
      have hqm : q % esz < esz := Nat.mod_lt _ hpos
      rw [hqe, flat_get (fun i cs hh => (hys i cs hh).1) _ _ hqm] at hq
      cases hyi : ys[q / esz]? with
      | none => rw [hyi] at hq; cases hq
      | some cs => rw [hyi] at hq; exact cellL_at (hys _ _ hyi).2.1 _ _ hq)
    have hn : ∀ (j : Nat) (u : Value), news[j]? = some u → c.w.cell? ((⟨b, off, none⟩ : Addr).add j) = some u := fun j u hj => by rw [add_lit']; exact h2 j u hj
    exact ⟨news, ⟨hsl, fun _ => rfl, run_firstCells_some c.w esz _ _ _ _ news hnl hn, run_firstCells_some c.w.drew esz _ _ _ _ news hnl (by simpa using hn), hnl, hone⟩, h1⟩
  have none_ : ∀ (ad : Option Addr) (cap : Nat), Src P esz t' (.slice ad 0 cap) 0 [] c.w := fun ad cap => by
    refine ⟨hsl, fun _ => rfl, ?_, ?_, by simp, fun _ hh => by cases hh⟩
    · cases ad <;> simp [Builtin.firstCells, loadCells, loadCellsFrom]
    · cases ad <;> simp [Builtin.firstCells, loadCells, loadCellsFrom]
  cases y <;> simp only [elems] at hk <;> first | exact hk.elim | skip
  case s l =>
    split at hk
    case h_2 => exact hk.elim
    rename_i h1
    have h1' := beq_of h1
    subst h1'
    cases hx
    refine ⟨bytesL l, byteCells ⟨l.toArray⟩, ?_, ?_, fun i cs hi => ?_, hk⟩
    · rw [show (bytesL l).length = (⟨l.toArray⟩ : ByteArray).size by simp [bytesL, ByteArray.size]]
      exact ⟨hsl, fun _ => rfl, firstCells_string _ _, firstCells_string _ _, by rw [byteCells_length, Nat.mul_one], fun u hu => by obtain ⟨_, _, rfl⟩ := List.mem_map.1 hu; rfl⟩
    · simp only [bytesL, byteCells]
      clear hk none_ mem cellsL hxv hy
      induction l with
      | nil => exact RVs.nil c
      | cons b r ih =>
        simp only [List.map_cons, List.flatten_cons, List.singleton_append]
        exact RVs.cons (.i _ _) ih
    · simp only [bytesL, List.getElem?_map] at hi
      cases hl : l[i]? with
      | none => rw [hl] at hi; cases hi
      | some b => rw [hl] at hi; injection hi with hi; subst hi; exact ⟨rfl, rfl⟩
  case nils =>
    cases hx
    exact ⟨[], [], none_ _ _, RVs.nil c, by simp, hk⟩
  case lst sz' es =>
    split at hk
    case h_2 => exact hk.elim
    rename_i h1
    have h1' := beq_of h1
    subst h1'
    have hx : RV c (.lst sz' es) xv := hx
    cases hx with
    | lst0 sz ad cap => exact ⟨[], [], none_ _ _, RVs.nil c, by simp, hk⟩
    | lst sz es b off cap hsz hcap hcl hc hr =>
      have hcell : ∀ (i : Nat) (cs : List V), es[i]? = some cs → cs.length = sz' ∧ cellL cs = true ∧ CellsAt c b (off + i * sz') cs := fun i cs hi => ⟨hsz i cs hi, hcl i cs hi, fun j v hj => by
        obtain ⟨_, y, hy⟩ := hc i cs j v hi hj
        exact ⟨y, hy, hr i cs j v y hi hj hy⟩⟩
      obtain ⟨news, h1, h2⟩ := mem es b off cap hcell
      exact ⟨es, news, h1, h2, fun i cs hi => ⟨hsz i cs hi, hcl i cs hi⟩, hk⟩
  case gsl g sz' off m =>
    split at hk
    case h_2 => exact hk.elim
    rename_i h1
    have h1' := beq_of h1
    subst h1'
    replace hk := getR_ok hk
    obtain ⟨r, hg, hk⟩ := hk
    replace hk := chk_ok hk
    obtain ⟨⟨hrs, hle⟩, hk⟩ := hk
    subst hrs
    have hx : RV c (.gsl g r.sz off m) xv := hx
    cases hx with
    | gsl0 g sz hφ => exact ⟨[], [], none_ _ _, RVs.nil c, by simp, by simpa using hk⟩
    | gsl g sz off m b ad cap t' hφ hb ha hs hl =>
      obtain ⟨hsz, arr, e, cap', hbk, hcap, hlen, hmax, hel, hZ, hfl, hty⟩ := (st.hs.row g r hg).elems hpos hφ
      by_cases hm : m = 0
      · subst hm
        exact ⟨[], [], none_ _ _, RVs.nil c, by simp, by simpa using hk⟩
      have had := ha (.inl (by omega))
      subst had
      have hyl : ((r.es.drop off).take m).length = m := by simp; omega
      obtain ⟨news, h1, h2⟩ := mem ((r.es.drop off).take m) b (off * r.sz) cap (fun i cs hi => by
        rw [List.getElem?_take] at hi
        split at hi
        case isFalse => cases hi
        rw [List.getElem?_drop] at hi
        refine ⟨hel.len _ _ hi, cellsL _ fun j v hj => (hel.at_ _ _ _ _ hi hj).1, fun j v hj => ?_⟩
        obtain ⟨_, y, hy, hv⟩ := hel.at_ _ _ _ _ hi hj
        refine ⟨y, ?_, hv⟩
        rw [show off * r.sz + i * r.sz + j = (off + i) * r.sz + j by rw [Nat.add_mul]]
        simp [World.cell?, hbk, hy])
      rw [hyl] at h1
      refine ⟨_, news, by rw [hyl]; exact h1, h2, fun i cs hi => ?_, hk⟩
      rw [List.getElem?_take] at hi
      split at hi
      case isFalse => cases hi
      rw [List.getElem?_drop] at hi
      exact ⟨hel.len _ _ hi, cellsL _ fun j v hj => (hel.at_ _ _ _ _ hi hj).1⟩

theorem cells_list {l : List V} (hz : ∀ (j : Nat) (v : V), l[j]? = some v → cell1 v = true) : cellL l = true := by
  induction l with
  | nil => rfl
  | cons z r ih => simp only [cellL]; rw [hz 0 z rfl]; exact ih fun j v hj => hz (j + 1) v (by simpa using hj)

/-- append: nothing, or a nil slice's turn. -/
theorem ok_append {t t' : TypeId} {x y : Operand} {esz eb : Nat} {ez : List V} (heb : 0 < eb) (htt : ∀ t, TIok P t (tt t)) (hz : tt t = .sl esz eb ez) (hsl : (∃ e', P.underlying t' = some (.slice e')) ∨ P.underlying t' = some .string)
    {cl : Call} (ho : o.op = .call cl) (hcl : cl.callee = .builtin .append) (hargs : cl.args = #[x, y]) (hats : cl.argTypes = #[t, t']) (st : St c0 h0 n c h bb F a)
    {ty : Nat} (hty0 : ty ≠ 0 → ∀ e, P.underlying t = some (.slice e) → e = ty) (hk : evAppend ty esz eb h (ev F x) (ev F y) fun v h => put n F o.dst v fun F => K F h) (hn : Goes c0 h0 n K next) : o.wp P a c.w next Q := by
  have ht := htt t
  rw [hz] at ht
  obtain ⟨e, hu, _, ie, zv, hi1, hi2, hpos, hi3, hi4, hi5, hi6, hi7, _⟩ := ht
  subst hi2
  have hzs : zv.cells.size = ie.size := by have := congrArg List.length hi5; simp at this; omega
  have run : ∀ {r : Value} {w' : World}, (Builtin.append_ #[t, t'] o.type #[a.eval x, a.eval y]).run P c.w = .ok r w' → (execOp a.eval o).run P c.w = .ok (.value r) w' := fun h1 => by
    simp [execOp, ho, resolve, hcl, hargs, hats, invoke, builtin, h1]
  have fin : ∀ {v : V} {r : Value} {w' : World} {c' : Cfg} {h' : H}, c'.w = w' → St c0 h0 n c' h' bb F a → RV c' v r → (execOp a.eval o).run P c.w = .ok (.value r) w' → (put n F o.dst v fun F => K F h') → o.wp P a c.w next Q := by
    intro v r w' c' h' hw st' hrv hr hk
    obtain ⟨F', hF', hK⟩ := put_ok st'.fs (VOk.of_RV hrv) hk
    subst hw
    exact wp_value hr (hn _ _ bb F' _ ⟨st'.keep, st'.ok, st'.hs, hF'⟩ hK)
  have ebpos : ∀ k : Nat, k * eb ≤ 140737488355328 → k * ie.bytes ≤ 140737488355328 := fun k hk => by rw [hi3]; exact hk
  -- a new row behind a draw
  have grow : ∀ (base : Option Addr) (n0 cap0 : Nat) (olds news : List Value) (es1 ys : List (List V)) (h1 : H) (fz : Nat) (yv : Value) (ty' : Nat), (ty' ≠ 0 → e = ty') → (∀ g r, h1 g = some r → h g = some r) → h1.nx = h.nx → a.eval x = .slice base n0 cap0 → a.eval y = yv →
      (Builtin.firstCells ie.size n0 (.slice base n0 cap0)).run P c.w.drew = .ok olds.toArray c.w.drew → Src P ie.size t' yv ys.length news c.w → RVs c (es1 ++ ys).flatten (olds ++ news) →
      (∀ (i : Nat) (cs : List V), (es1 ++ ys)[i]? = some cs → cs.length = ie.size ∧ cellL cs = true) → es1.length = n0 → cap0 < n0 + ys.length → (n0 + ys.length) * eb ≤ 140737488355328 → n0 + ys.length ≤ maxLen → fz ≤ n0 →
      (∀ g', c.φ g' = none → Free h g' → put n F o.dst (.gsl g' ie.size 0 (n0 + ys.length)) fun F => K F (h1.new g' ⟨ie.size, fz, es1 ++ ys, ty'⟩)) → o.wp P a c.w next Q := by
    intro base n0 cap0 olds news es1 ys h1 fz yv ty' hty' hsub h1n hx hy hold hsrc hrvs hes hn0 hgt hle hml hfz hk
    obtain ⟨g', hg1, hg2⟩ := fresh st.ok st.hs
    have hlenf := flat_len (fun i cs hi => (hes i cs hi).1)
    have hol : (olds ++ news).length = (n0 + ys.length) * ie.size := by rw [← hrvs.len, hlenf, List.length_append, hn0]
    have hfit := growslice_fits hgt (ebpos _ hle)
    have h63 : ((n0 + ys.length : Nat) : Int) ≤ 9223372036854775807 := by simp only [maxLen] at hml; omega
    have hrun := run_append_grow_src (P := P) c.w t t' o.type e ie zv hu hi1 hi4 base n0 cap0 olds hold yv ys.length news hsrc hgt h63 hfit
    have hcg := grownCap_ge c.w (n0 + ys.length) cap0 e
    have hcm := grownCap_le_maxLen c.w (n0 + ys.length) cap0 e hml
    generalize hG : grownCap c.w (n0 + ys.length) cap0 e = G at *
    have hsize : ((olds ++ news).toArray ++ Builtin.zeroCells zv.cells (G - (n0 + ys.length))).size = G * ie.size := by
      rw [Array.size_append, size_zeroCells, hzs, List.size_toArray, hol, ← Nat.add_mul]
      congr 1; omega
    have hp : Pushed c.w (c.w.drew.alloc (.cells ((olds ++ news).toArray ++ Builtin.zeroCells zv.cells (G - (n0 + ys.length))) e)) (.cells ((olds ++ news).toArray ++ Builtin.zeroCells zv.cells (G - (n0 + ys.length))) e (0, 0)) := ⟨rfl, rfl, rfl, rfl⟩
    obtain ⟨st', hrv⟩ := st.newRow (h1 := h1) hp hsub hg1 (To.new st.hs h1n hg2 ⟨ie.size, fz, es1 ++ ys, ty'⟩) (cap := G) hpos hsize (by simp [hn0]; exact hcg) hcm (Elems.of_prefix hes hrvs fun q z hq => by
      have hlt := (List.getElem?_eq_some_iff.1 hq).1
      rw [Array.getElem?_append_left (by simpa using hlt)]
      simpa using hq) (by simp; omega) hty'
    simp only [List.length_append, hn0] at hrv
    exact fin rfl st' hrv (run (by rw [hx, hy]; exact hrun)) (hk g' hg1 hg2)
  -- nothing onto nothing
  have nothing : ∀ (h1 : H) (yv : Value) (ty' : Nat), (∀ g r, h1 g = some r → h g = some r) → h1.nx = h.nx → a.eval x = .slice none 0 0 → a.eval y = yv → Src P ie.size t' yv 0 [] c.w →
      (∀ g', c.φ g' = none → Free h g' → put n F o.dst (.gsl g' ie.size 0 0) fun F => K F (h1.new g' ⟨ie.size, 0, [], ty'⟩)) → o.wp P a c.w next Q := by
    intro h1 yv ty' hsub h1n hx hy hsrc hk
    obtain ⟨g', hg1, hg2⟩ := fresh st.ok st.hs
    obtain ⟨st', hrv⟩ := st.nilRow hsub hg1 (To.new st.hs h1n hg2 ⟨ie.size, 0, [], ty'⟩) hpos rfl rfl
    refine fin rfl st' hrv (run ?_) (hk g' hg1 hg2)
    rw [hx, hy]
    rcases hsrc.kind with ⟨e', hk'⟩ | hk' <;> simp [Builtin.append_, run_underlying hu, run_underlying hk', sizeOf, typeInfo, hi1, hsrc.len, hsrc.cells, Cfg.name]
  have maxl : ∀ k : Nat, k * eb ≤ 140737488355328 → 0 < eb → k ≤ maxLen := fun k hk hp => by
    have := Nat.le_mul_of_pos_right k hp
    simp only [maxLen]; omega
  unfold evAppend at hk
  split at hk
  · rename_i hex
    have hx := evo st hex
    generalize hxv : a.eval x = xv at hx run
    cases hx
    obtain ⟨ys, news, hsrc, hrvs, hys, hk⟩ := src_ok rfl hpos hsl st hk
    obtain ⟨hle, hk⟩ := chk_ok hk
    simp only [forceN_eq] at hk
    by_cases h0 : ys = []
    · subst h0
      have hnews : news = [] := by have := hrvs.len; simp at this; exact List.eq_nil_of_length_eq_zero this.symm
      subst hnews
      exact nothing h _ ty (fun _ _ hh => hh) rfl hxv rfl hsrc (fun g' _ hg2 => newK_ok hk hg2)
    · have hpos' : 0 < ys.length := List.length_pos_iff.2 h0
      have := grow none 0 0 [] news [] ys h 0 _ ty (fun h0 => hty0 h0 e hu) (fun _ _ hh => hh) rfl hxv rfl (by simp [Builtin.firstCells]) hsrc (by simpa using hrvs) (by simpa using hys) rfl (by omega) (by simpa using hle) (maxl _ (by simpa using hle) heb) (Nat.le_refl _)
      simp only [Nat.zero_add, List.nil_append] at this
      exact this (fun g' _ hg2 => newK_ok hk hg2)
  · rename_i g sz off n0 hex
    split at hk
    case h_2 => exact hk.elim
    rename_i hb1
    have hb1' := beq_of hb1
    subst hb1'
    obtain ⟨ys, news, hsrc, hrvs, hys, hk⟩ := src_ok rfl hpos hsl st hk
    obtain ⟨r, hg, hk⟩ := getR_ok hk
    obtain ⟨⟨hrs, hfz, hn0, hle⟩, hk⟩ := chk_ok hk
    simp only [forceN_eq] at hk
    have htyn : tyOf ty r.ty ≠ 0 → e = tyOf ty r.ty := fun h => by
      obtain ⟨k1, k2⟩ := tyOf_eq h
      rw [k1]; exact hty0 (by rw [k1] at h; exact h) e hu
    have hdn : (h.del g).nx = h.nx := H.upd_nx _ _ _
    have hsub : ∀ g1 r1, (h.del g) g1 = some r1 → h g1 = some r1 := fun g1 r1 hh => by
      simp only [H.del, H.upd_get] at hh
      split at hh
      · cases hh
      · exact hh
    have hne : ∀ g', c.φ g' = none → (∃ p, c.φ g = some p) → g' ≠ g := fun g' h1 ⟨p, h2⟩ e => by subst e; rw [h1] at h2; cases h2
    have hx := (evo st hex).rv (by simp)
    generalize hxv : a.eval x = xv at hx run
    cases hx with
    | gsl0 g sz hφ =>
      obtain ⟨_, b, _, _, hφ', _⟩ | ⟨_, ⟨_, hre, hrf⟩ | ⟨b, _, _, _, hφ', _⟩⟩ := st.hs.row g r hg
      case inl => rw [hφ] at hφ'; cases hφ'
      case inr.inr => rw [hφ] at hφ'; cases hφ'
      by_cases h0 : ys = []
      · subst h0
        have hnews : news = [] := by have := hrvs.len; simp at this; exact List.eq_nil_of_length_eq_zero this.symm
        subst hnews
        refine nothing (h.del g) _ (tyOf ty r.ty) hsub hdn hxv rfl hsrc (fun g' hg1 hg2 => ?_)
        have := newD_ok hk (hne g' hg1 ⟨_, hφ⟩) hg2
        simpa [hre, hrf] using this
      · have hpos' : 0 < ys.length := List.length_pos_iff.2 h0
        have := grow none 0 0 [] news [] ys (h.del g) 0 _ (tyOf ty r.ty) htyn hsub hdn hxv rfl (by simp [Builtin.firstCells]) hsrc (by simpa using hrvs) (by simpa using hys) rfl (by omega) (by simpa using hle) (maxl _ (by simpa using hle) heb) (Nat.le_refl _)
        simp only [Nat.zero_add, List.nil_append] at this
        refine this (fun g' hg1 hg2 => ?_)
        have := newD_ok hk (hne g' hg1 ⟨_, hφ⟩) hg2
        simpa [hre, hrf] using this
    | gsl g sz off n0 b ad cap t1 hφ hb ha hs hl =>
      have had := ha (.inr rfl)
      subst had
      obtain ⟨hsz, arr, e1, cap', hbk, hcap, hlen, hmax, hel, hZ, hfl, hty⟩ := (st.hs.row g r hg).elems (by omega) hφ
      rw [hrs] at hcap hel hZ hsz
      have hcc : cap = cap' := by
        have : c.w.shape? b = some (e1, arr.size) := by simp [World.shape?, hbk]
        rw [this] at hs
        injection hs with hs
        injection hs with _ hs
        rw [hcap, Nat.zero_add] at hs
        exact (Nat.mul_right_cancel hsz hs).symm
      subst hcc
      have hes1 : ∀ (i : Nat) (cs : List V), (r.es.take n0 ++ ys)[i]? = some cs → cs.length = ie.size ∧ cellL cs = true := by
        intro i cs hi
        rw [List.getElem?_append] at hi
        split at hi
        · rw [List.getElem?_take] at hi
          split at hi
          case isFalse => cases hi
          exact ⟨hel.len _ _ hi, cells_list fun j v hj => (hel.at_ _ _ _ _ hi hj).1⟩
        · exact hys _ _ hi
      have hl1 : (r.es.take n0).length = n0 := by simp; omega
      have hcapn : n0 * ie.size ≤ arr.size := by rw [hcap]; exact Nat.mul_le_mul_right _ hl
      -- the cells that were there
      have holds : RVs c (r.es.take n0).flatten (arr.toList.take (n0 * ie.size)) := by
        have hfl1 := flat_len (es := r.es.take n0) (sz := ie.size) (fun i cs hi => (hes1 i cs (by rw [List.getElem?_append_left (List.getElem?_eq_some_iff.1 hi).1]; exact hi)).1)
        refine ⟨by rw [hfl1, hl1]; simp; omega, fun q v z h1 h2 => ?_⟩
        have hq : q < n0 * ie.size := by have := (List.getElem?_eq_some_iff.1 h1).1; rw [hfl1, hl1] at this; exact this
        have hqe : q = q / ie.size * ie.size + q % ie.size := by rw [Nat.mul_comm]; exact (Nat.div_add_mod q ie.size).symm
        have hqm : q % ie.size < ie.size := Nat.mod_lt _ hpos
        rw [hqe, flat_get (fun i cs hi => (hes1 i cs (by rw [List.getElem?_append_left (List.getElem?_eq_some_iff.1 hi).1]; exact hi)).1) _ _ hqm] at h1
        cases hri : (r.es.take n0)[q / ie.size]? with
        | none => rw [hri] at h1; cases h1
        | some cs =>
          rw [hri] at h1
          rw [List.getElem?_take] at hri
          split at hri
          case isFalse => cases hri
          obtain ⟨_, y1, hy1, hv1⟩ := hel.at_ _ _ _ _ hri h1
          rw [← hqe] at hy1
          rw [List.getElem?_take, if_pos hq, Array.getElem?_toList, hy1] at h2
          injection h2 with h2
          subst h2
          exact hv1
      by_cases hroom : n0 + ys.length ≤ cap
      · have hnl : news.length = ys.length * ie.size := hsrc.newsLen
        have hfit : n0 * ie.size + news.length ≤ arr.size := by rw [hnl, hcap, ← Nat.add_mul]; exact Nat.mul_le_mul_right _ hroom
        have hrun := run_append_room_src (P := P) c.w t t' o.type e ie hu hi1 b (0 * ie.size) n0 cap _ ys.length news hsrc hroom (fun j hj => by
            have : n0 * ie.size + j < arr.size := by omega
            simp [World.cell?, hbk, this]) (fun j hj => by simp [World.frozen?, hbk])
        rw [Nat.zero_mul, Nat.zero_add, setCells_wr hbk hfit hsrc.one] at hrun
        rw [Nat.zero_mul] at run
        obtain ⟨g', hg1, hg2⟩ := fresh st.ok st.hs
        have hwr : wr arr (n0 * ie.size) news = wr arr (n0 * ie.size) news := rfl
        obtain ⟨st', hrv⟩ := st.writeRow (r' := ⟨ie.size, r.fz, r.es.take n0 ++ ys, tyOf ty r.ty⟩) hg hφ hbk (wr_size hfit) (by rw [hrs]; exact hcap) hmax (fun q hq => by
            rw [wr_get hfit, if_neg]
            rw [hrs] at hq
            have := Nat.mul_le_mul_right ie.size hfz
            omega) (by rw [hrs]) (by rw [hrs]; exact hpos) (by simp; omega) rfl (by simp; omega) (by rw [hrs]; exact hZ) (fun h => by
            obtain ⟨k1, k2⟩ := tyOf_eq h
            rw [k1, ← k2]; exact hty (by rw [k2]; rw [k1] at h; exact h)) (by
            rw [hrs]
            refine Elems.of_prefix hes1 (xs := arr.toList.take (n0 * ie.size) ++ news) ?_ fun q z hq => ?_
            · rw [List.flatten_append]; exact holds.append hrvs
            · rw [wr_get hfit]
              have hol : (arr.toList.take (n0 * ie.size)).length = n0 * ie.size := by simp; omega
              rw [List.getElem?_append, hol] at hq
              by_cases hq1 : q < n0 * ie.size
              · rw [if_pos hq1, List.getElem?_take, if_pos hq1, Array.getElem?_toList] at hq
                rw [if_neg (by omega)]; exact hq
              · rw [if_neg hq1] at hq
                have := (List.getElem?_eq_some_iff.1 hq).1
                rw [if_pos (by omega)]; exact hq) (To.new st.hs hdn hg2 _) (.inr ⟨hg1, rfl⟩)
        simp only [List.length_append, hl1] at hrv
        exact fin rfl st' hrv (run hrun) (newD_ok hk (hne g' hg1 ⟨_, hφ⟩) hg2)
      · refine grow (some ⟨b, 0 * ie.size, none⟩) n0 cap (arr.toList.take (n0 * ie.size)) news (r.es.take n0) ys (h.del g) r.fz _ (tyOf ty r.ty) htyn hsub hdn hxv rfl ?_ hsrc (by rw [List.flatten_append]; exact holds.append hrvs) hes1 hl1 (by omega) hle (maxl _ hle heb) hfz
          (fun g' hg1 hg2 => newD_ok hk (hne g' hg1 ⟨_, hφ⟩) hg2)
        rw [Nat.zero_mul]
        refine run_firstCells_some c.w.drew ie.size n0 ⟨b, 0, none⟩ n0 cap _ (by simp; omega) fun j v hj => ?_
        rw [List.getElem?_take] at hj
        split at hj
        case isFalse => cases hj
        rw [add_lit', Nat.zero_add]
        simp only [World.cell?_drew]
        rw [Array.getElem?_toList] at hj
        simp [World.cell?, hbk, hj]
  · rename_i sz hex
    split at hk
    case h_2 => exact hk.elim
    rename_i hb1
    have hb1' := beq_of hb1
    subst hb1'
    have hx := (evo st hex).rv (by simp)
    obtain ⟨ys, news, hsrc, hrvs, hys, hk⟩ := src_ok rfl hpos hsl st hk
    replace hk := withB_ok hk
    generalize hxv : a.eval x = xv at hx run
    have hx' := hx
    cases hx with
    | emp _ ad =>
      by_cases h0 : ys = []
      · subst h0
        simp only [List.isEmpty_nil] at hk
        have hnews : news = [] := by have := hrvs.len; simp at this; exact List.eq_nil_of_length_eq_zero this.symm
        subst hnews
        have hsrc : Src P ie.size t' (a.eval y) 0 [] c.w := hsrc
        refine fin rfl st hx' (run ?_) hk
        rcases hsrc.kind with ⟨e', hk'⟩ | hk' <;> cases ad <;> simp [Builtin.append_, run_underlying hu, run_underlying hk', sizeOf, typeInfo, hi1, hsrc.len, hsrc.cells, storeCells]
      · have hne : ys.isEmpty = false := by cases ys with
          | nil => exact absurd rfl h0
          | cons y r => rfl
        rw [hne] at hk
        obtain ⟨hle, hk⟩ := chk_ok hk
        simp only [forceN_eq] at hk
        have hpos' : 0 < ys.length := List.length_pos_iff.2 h0
        have := grow ad 0 0 [] news [] ys h 0 _ ty (fun h0 => hty0 h0 e hu) (fun _ _ hh => hh) rfl hxv rfl (by cases ad <;> simp [Builtin.firstCells, loadCells, loadCellsFrom]) hsrc (by simpa using hrvs) (by simpa using hys) rfl (by omega) (by simpa using hle) (maxl _ (by simpa using hle) heb) (Nat.le_refl _)
        simp only [Nat.zero_add, List.nil_append] at this
        exact this (fun g' _ hg2 => newK_ok hk hg2)
  · exact hk.elim

end
end Go.AM
/- Soundness, 12: struct literals, builtins, function literals, calls; every operation. -/
set_option linter.unusedVariables false
set_option linter.unusedSimpArgs false
namespace Go.AM
open Go

section
variable {P : Program} {M : Mach} {tt : TT} {c0 : Cfg} {h0 : H} {n : Nat} {c : Cfg} {h : H} {bb : Nat → Nat} {F : Fr} {a : Act} {o : Oper} {next : Act → World → Prop} {Q : Exit → Act → World → Prop} {K : Fr → H → Prop}

theorem RVs.write {z vs : List V} {arr : Array Value} {xs : List Value} {off : Nat} (hz : RVs c z arr.toList) (hv : RVs c vs xs) (hfit : off + xs.length ≤ arr.size) : RVs c (splice z off vs) (wr arr off xs).toList := by
  refine ⟨by rw [splice_length, Array.length_toList (xs := wr arr off xs), wr_size hfit, hz.len, Array.length_toList], fun q v y h1 h2 => ?_⟩
  rw [Array.getElem?_toList, wr_get hfit] at h2
  rw [splice_get] at h1
  have hl := hv.len
  have hzl := hz.len
  simp only [Array.length_toList] at hzl
  by_cases hr : off ≤ q ∧ q < off + vs.length ∧ q < z.length
  · rw [if_pos hr] at h1
    rw [if_pos (by omega)] at h2
    exact hv.at_ _ _ _ h1 h2
  · rw [if_neg hr] at h1
    rw [if_neg (by omega)] at h2
    exact hz.at_ _ _ _ h1 (by rw [Array.getElem?_toList]; exact h2)

theorem fillS_ok {offs : List (Nat × Nat)} (parts : List (Nat × Operand)) (st : St c0 h0 n c h bb F a) : ∀ (z : List V) (arr : Array Value) {K : List V → Prop}, RVs c z arr.toList → (∀ (f off sz : Nat), offs[f]? = some (off, sz) → off + sz ≤ arr.size) →
    mkCells z offs F parts K → ∃ z' arr', Instr.fill (fun i => offs[i]?) arr (parts.map fun p => (p.1, a.eval p.2)) = some arr' ∧ RVs c z' arr'.toList ∧ K z' := by
  induction parts with
  | nil => intro z arr K hr hof hk; exact ⟨z, arr, rfl, hr, by simpa [mkCells, forceL_eq] using hk⟩
  | cons p r ih =>
    obtain ⟨i, x⟩ := p
    intro z arr K hr hof hk
    simp only [mkCells] at hk
    split at hk
    case h_2 => exact hk.elim
    rename_i off sz hoff
    split at hk
    case h_2 => exact hk.elim
    rename_i hlen
    split at hk
    case h_2 => exact hk.elim
    rename_i hc
    have hlen' : (cellsOf (ev F x)).length = sz := by have := beq_of hlen; rwa [len_eq] at this
    have hx : RV c (ev F x) (a.eval x) := (ev_ok st.fs x).rv (fun k off e => by rw [e] at hc; simp [cellsOf, cellL, cell1] at hc)
    have hcy := cellsOf_ok hx hc
    have hsz : (a.eval x).cells.size = sz := by have := hcy.len; simp at this; omega
    have hfit : off + (a.eval x).cells.toList.length ≤ arr.size := by have := hof i off sz hoff; simp only [Array.length_toList]; omega
    obtain ⟨z', arr', h1, h2, h3⟩ := ih _ _ (hr.write hcy hfit) (by rw [wr_size hfit]; exact hof) hk
    refine ⟨z', arr', ?_, h2, h3⟩
    simp only [List.map_cons, Instr.fill, hoff]
    rw [if_neg (by
      simp only [hsz, ne_eq, not_true_eq_false, Bool.false_or, decide_eq_true_eq, Bool.or_eq_true, decide_false, Bool.false_eq_true, false_or]
      simp only [Array.length_toList] at hfit
      omega)]
    have := fold_set (a.eval x).cells.toList arr off 0 (by simpa using hfit)
    simp only [Nat.add_zero] at this
    rw [← h1, ← this]
    congr 1
    rw [← Array.foldl_toList]
    simp [Array.toList_zipIdx]

theorem run_mapM {α β : Type} {f : α → Sem β} {g : α → β} (w : World) : ∀ (l : List α), (∀ x, x ∈ l → (f x).run P w = .ok (g x) w) → (l.mapM f).run P w = .ok (l.map g) w := by
  intro l
  induction l with
  | nil => intro _; simp
  | cons x r ih =>
    intro hl
    rw [List.mapM_cons]
    simp only [Sem.run_bind, hl x (by simp), Result.andThen_ok, ih fun y hy => hl y (by simp [hy]), Sem.run_pure, List.map_cons]

theorem pw_build {t : TypeId} {parts : Array (Nat × Operand)} (htt : ∀ t, TIok P t (tt t)) (ho : o.op = .build t parts) (st : St c0 h0 n c h bb F a) (hk : evOp0 M tt n o F h K) : PW P o a (fun _ => True) c0 h0 n c h bb K := by
  simp only [evOp0, ho, opPick, opBuild, opLoad, opNilCheck, opBinOp, opConvert, opSlice, opFieldAddr, opIndexAddr, opIndex, opExtract, opAlloc, opBox, opStore, opBuildSlice, opMakeFunc] at hk
  have ht := htt t
  split at hk
  case h_2 => exact hk.elim
  rename_i offs z hz
  rw [hz] at ht
  obtain ⟨fs, hu, hoff, i, xs, h1, h2, h3, h4, h5, h6, h7⟩ := ht
  have hxl : xs.size = z.length := by have := congrArg List.length h4; simpa using this
  obtain ⟨z', arr', k1, k2, k3⟩ := fillS_ok (offs := offs) parts.toList st z xs (RVs.cvs xs.toList h4) (fun f off sz hf => by rw [hxl]; exact h7.1 f off sz hf) hk
  have hplaces : ∀ w : World, ((fs.mapM fun f => do pure (f.offset, ← sizeOf f.type) : Sem (Array (Nat × Nat)))).run P w = .ok offs.toArray w := by
    intro w
    rw [Array.mapM_eq_mapM_toList]
    simp only [Sem.run_map]
    have hg : ∀ x, x ∈ fs.toList → ((do pure (x.offset, ← sizeOf x.type) : Sem (Nat × Nat))).run P w = .ok (x.offset, P.cellsOf x.type) w := by
      intro x hx
      obtain ⟨q, hq, rfl⟩ := List.getElem_of_mem hx
      have hql : q < offs.length := by rw [h6]; simpa using hq
      obtain ⟨fld, ti, u1, u2, u3, u4⟩ := hoff q _ _ (List.getElem?_eq_getElem hql)
      have : fs.toList[q] = fld := by
        have := u1
        rw [Array.getElem?_eq_getElem (by simpa using hq)] at this
        injection this
      rw [this]
      simp [sizeOf, typeInfo, u3, Program.cellsOf]
    rw [run_mapM w fs.toList hg]
    simp only [Result.andThen_ok]
    congr 2
    apply List.ext_getElem?
    intro q
    simp only [List.getElem?_map, Array.getElem?_toList]
    cases hq : offs[q]? with
    | none =>
      have : fs.size ≤ q := by rw [← h6]; exact List.getElem?_eq_none_iff.1 hq
      rw [Array.getElem?_eq_none this]; rfl
    | some p =>
      obtain ⟨fld, ti, u1, u2, u3, u4⟩ := hoff q p.1 p.2 hq
      rw [u1]
      simp [Program.cellsOf, u2, u3, u4]
  have hrun : ∀ w : World, (execOp a.eval o).run P w = .ok (.value (.agg arr')) w := by
    intro w
    have hparts : (parts.map fun p => (p.1, a.eval p.2)).toList = parts.toList.map fun p => (p.1, a.eval p.2) := by simp
    simp only [execOp, ho, Instr.build, Sem.run_bind, zeroValue, typeInfo, run_program, Result.andThen_ok, h1, Sem.run_pure, h3, Value.cells, run_underlying hu, hplaces]
    rw [show (Array.map (fun x => match x with | (i, x) => (i, a.eval x)) parts) = parts.map fun p => (p.1, a.eval p.2) from rfl, hparts]
    rw [show (fun x => (offs.toArray)[x]?) = fun i => offs[i]? from by funext q; simp]
    rw [k1]
    simp
  refine pw_done st hrun (VOk.of_RV ?_) k3
  have := RV.agg' k2
  simpa using this

theorem port_RV {v : V} {x : Value} (hp : port v = true) (hv : VOk c F bb v x) : RV c v x := hv.rv fun k off e => by subst e; cases hp
theorem portL_RVs {l : List Operand} (st : St c0 h0 n c h bb F a) (hp : portL (l.map (ev F)) = true) : RVs c (l.map (ev F)) (l.map a.eval) := by
  induction l with
  | nil => exact RVs.nil c
  | cons x r ih =>
    simp only [List.map_cons, portL] at hp
    split at hp
    · rename_i h1; exact RVs.cons (port_RV h1 (ev_ok st.fs x)) (ih hp)
    · cases hp

theorem one_len {l : List Operand} {v : V} (hl : l.map (ev F) = [v]) : ∃ x, l = [x] ∧ ev F x = v := by
  cases l with
  | nil => cases hl
  | cons x r => cases r with
    | nil => simp at hl; exact ⟨x, rfl, hl⟩
    | cons y r => simp at hl
theorem two_len {l : List Operand} {v u : V} (hl : l.map (ev F) = [v, u]) : ∃ x y, l = [x, y] ∧ ev F x = v ∧ ev F y = u := by
  cases l with
  | nil => cases hl
  | cons x r => cases r with
    | nil => simp at hl
    | cons y r => cases r with
      | nil => simp at hl; exact ⟨x, y, rfl, hl.1, hl.2⟩
      | cons z r => simp at hl

theorem pw_builtin {b : Builtin} (hb : b ≠ .append) {cl : Call} (htt : ∀ t, TIok P t (tt t)) (ho : o.op = .call cl) (hcl : cl.callee = .builtin b) (st : St c0 h0 n c h bb F a)
    (hk : mapEv F cl.args.toList fun vs => evBuiltin tt b cl.argTypes.toList vs h fun v h => put n F o.dst v fun F => K F h) : PW P o a (fun w => w = c.w) c0 h0 n c h bb K := by
  obtain ⟨vs, hvs, hk⟩ := mapEv_ok st _ hk
  have run : ∀ {r : Value} {w' : World}, (builtin b cl.argTypes o.type (cl.args.map fun | .const _ => true | _ => false) (cl.args.map a.eval)).run P c.w = .ok (.value r) w' → (execOp a.eval o).run P c.w = .ok (.value r) w' := fun h1 => by
    simp only [execOp, ho, resolve, hcl, Sem.run_bind, Sem.run_pure, Result.andThen_ok, invoke]
    exact h1
  cases b <;> simp only [evBuiltin] at hk <;> first | exact hk.elim | skip
  case append => exact absurd rfl hb
  case len =>
    split at hk
    case h_2 => exact hk.elim
    rename_i vs0 t v hat
    obtain ⟨x, hargs, hx⟩ := one_len hvs.symm
    have hargs' : cl.args = #[x] := by apply Array.ext'; simpa using hargs
    have hats' : cl.argTypes = #[t] := by apply Array.ext'; simpa using hat
    have ht := htt t
    split at hk
    · rename_i s hs
      rw [hs] at ht
      obtain ⟨⟨d, hu, _, _, _, hd, _⟩, _⟩ := ht
      have := hd s rfl
      subst this
      split at hk
      case h_2 => exact hk.elim
      rename_i l
      rw [mkI_eq] at hk
      have hxe := (evo st hx).str
      have hsz : (⟨l.toArray⟩ : ByteArray).size = l.length := by simp [ByteArray.size]
      exact pr_done st (run (by simp [builtin, hats', hargs', hxe, Builtin.len_, run_underlying hu, goInt, hsz])) (VOk.of_RV (.i _ _)) hk
    · rename_i hs
      rw [hs] at ht
      obtain ⟨e, hu, _⟩ := ht
      have hxo := evo st hx
      split at hk
      · generalize hxv : a.eval x = xv at hxo
        replace hk := imp_ok hk hxo.lst_max
        rw [mkI_eq] at hk
        obtain ⟨ad, cap, rfl, _⟩ := RV.lst_inv hxo
        exact pr_done st (run (by simp [builtin, hats', hargs', hxv, Builtin.len_, run_underlying hu, goInt])) (VOk.of_RV (.i _ _)) hk
      · generalize hxv : a.eval x = xv at hxo
        cases hxo
        exact pr_done st (run (by simp [builtin, hats', hargs', hxv, Builtin.len_, run_underlying hu, goInt])) (VOk.of_RV (.i _ _)) hk
      · generalize hxv : a.eval x = xv at hxo
        replace hk := imp_ok hk fun r hr => (st.hs.row _ r hr).max
        rw [mkI_eq] at hk
        cases hxo
        · exact pr_done st (run (by simp [builtin, hats', hargs', hxv, Builtin.len_, run_underlying hu, goInt])) (VOk.of_RV (.i _ _)) hk
        · exact pr_done st (run (by simp [builtin, hats', hargs', hxv, Builtin.len_, run_underlying hu, goInt])) (VOk.of_RV (.i _ _)) hk
      · exact hk.elim
    · exact hk.elim
  case max =>
    split at hk
    case h_2 => exact hk.elim
    rename_i k x k' y hxy
    split at hk
    case h_2 => exact hk.elim
    rename_i hkk
    have := kq_eq hkk
    subst this
    rw [mkI_eq] at hk
    obtain ⟨xo, yo, hargs, hx, hy⟩ := two_len hvs.symm
    have hargs' : cl.args = #[xo, yo] := by apply Array.ext'; simpa using hargs
    have hx' := (evo st hx).int
    have hy' := (evo st hy).int
    exact pr_done st (run (by simp [builtin, hargs', hx', hy', Builtin.max_, Builtin.max2])) (VOk.of_RV (.i _ _)) hk
  case min =>
    split at hk
    case h_2 => exact hk.elim
    rename_i k x k' y hxy
    split at hk
    case h_2 => exact hk.elim
    rename_i hkk
    have := kq_eq hkk
    subst this
    rw [mkI_eq] at hk
    obtain ⟨xo, yo, hargs, hx, hy⟩ := two_len hvs.symm
    have hargs' : cl.args = #[xo, yo] := by apply Array.ext'; simpa using hargs
    have hx' := (evo st hx).int
    have hy' := (evo st hy).int
    exact pr_done st (run (by simp [builtin, hargs', hx', hy', Builtin.min_, Builtin.min2])) (VOk.of_RV (.i _ _)) hk

theorem ok_builtin {b : Builtin} {cl : Call} (htt : ∀ t, TIok P t (tt t)) (ho : o.op = .call cl) (hcl : cl.callee = .builtin b) (st : St c0 h0 n c h bb F a)
    (hk : mapEv F cl.args.toList fun vs => evBuiltin tt b cl.argTypes.toList vs h fun v h => put n F o.dst v fun F => K F h) (hn : Goes c0 h0 n K next) : o.wp P a c.w next Q := by
  by_cases hb : b = .append
  case neg => exact (pw_builtin hb htt ho hcl st hk).wp hn
  subst hb
  obtain ⟨vs, hvs, hk⟩ := mapEv_ok st _ hk
  simp only [evBuiltin] at hk
  split at hk
  case h_2 => exact hk.elim
  rename_i vs0 t t' x y hat
  split at hk
  case h_2 => exact hk.elim
  rename_i esz eb ez hz
  split at hk
  case h_2 => exact hk.elim
  rename_i heb
  have heb' : 0 < eb := Nat.le_of_ble_eq_true heb
  obtain ⟨xo, yo, hargs, hx, hy⟩ := two_len hvs.symm
  have hargs' : cl.args = #[xo, yo] := by apply Array.ext'; simpa using hargs
  have hats' : cl.argTypes = #[t, t'] := by apply Array.ext'; simpa using hat
  subst hx
  subst hy
  split at hk
  · rename_i s hs
    have ht := htt t'
    rw [hs] at ht
    obtain ⟨⟨d, hu, _, _, _, hd, _⟩, _⟩ := ht
    exact ok_append heb' htt hz (.inr (hd s rfl ▸ hu)) ho hcl hargs' hats' st (fun h => absurd rfl h) hk hn
  · rename_i hs
    have ht := htt t'
    rw [hs] at ht
    obtain ⟨e, hu, _⟩ := ht
    exact ok_append heb' htt hz (.inl ⟨e, hu⟩) ho hcl hargs' hats' st (fun h => absurd rfl h) hk hn
  · exact hk.elim


end
end Go.AM
/- Soundness, 13: boxes that freeze, boxes that are handed out, calls. -/
set_option linter.unusedVariables false
set_option linter.unusedSimpArgs false
namespace Go.AM
open Go

section
variable {P : Program} {M : Mach} {tt : TT} {c0 : Cfg} {h0 : H} {n : Nat} {c : Cfg} {h : H} {bb : Nat → Nat} {F : Fr} {a : Act} {o : Oper} {next : Act → World → Prop} {Q : Exit → Act → World → Prop} {K : Fr → H → Prop}

/-- A box freezes. -/
theorem St.freeze (st : St c0 h0 n c h bb F a) {k : Nat} {fr : Bool} {cs : List V} (hl : look F k = .box fr cs) :
    ∃ c', c'.w = c.w ∧ Evo c c' ∧ St c0 h0 n c' h bb (setF F k (.box true cs)) a ∧ RV c' (.ip cs) (.pointer (some ⟨bb k, 0, none⟩)) := by
  have hk : k < n := (box_cells st hl).2
  have hs := st.fs.slot k hk
  rw [hl] at hs
  obtain ⟨s1, s2, s3, arr, e, s4, s5, s6, s7, s8⟩ := hs
  have hblt : bb k < c.w.heap.size := (Array.getElem?_eq_some_iff.1 s4).1
  let c' : Cfg := ⟨c.w, fun b o => c.Z b o ∨ (b = bb k ∧ o < cs.length), c.φ⟩
  have hev : Evo c c' := ⟨fun _ _ _ => rfl, fun _ _ hz => .inl hz, fun _ _ hh => hh, fun _ _ hh => hh, Nat.le_refl _, rfl, rfl, rfl⟩
  have hok : CfgOk c' := ⟨st.ok.fin, st.ok.φlt, fun b o hz => by
    rcases hz with hz | ⟨rfl, _⟩
    · exact st.ok.zlt b o hz
    · exact hblt⟩
  have hhs : HSim c' h := ⟨fun g r hg => (st.hs.row g r hg).mono hev fun b hb => ⟨rfl, fun o hz => by
    rcases hz with hz | ⟨rfl, _⟩
    · exact hz
    · exact absurd ⟨g, r, hg, hb⟩ s3⟩, st.hs.inj, st.hs.nxt⟩
  have hkeep : Keep c0 h0 c' h := ⟨st.keep.evo.trans hev, st.keep.blk, fun b o hb hn hz => by
    rcases hz with hz | ⟨rfl, _⟩
    · exact st.keep.z b o hb hn hz
    · omega, st.keep.dom⟩
  refine ⟨c', rfl, hev, ⟨hkeep, hok, hhs, ?_⟩, ?_⟩
  · refine ⟨st.fs.size, st.fs.defers, fun k2 hk2 => ?_, fun k2 hk2 => ?_, fun k1 k2 fr1 cs1 fr2 cs2 h1 h2 => ?_⟩
    · rw [look_setF]
      by_cases e2 : k2 = k
      · subst e2
        rw [if_pos rfl]
        exact ⟨s1, s2, s3, arr, e, s4, s5, s6, fun j v hj => (s7 j v hj).imp fun y hy => ⟨hy.1, hy.2.mono hev⟩, by simp only [if_true]; exact fun j v hj => .inr ⟨rfl, (List.getElem?_eq_some_iff.1 hj).1⟩⟩
      · rw [if_neg e2]
        have hs2 := st.fs.slot k2 hk2
        cases hl2 : look F k2 with
        | box fr2 cs2 =>
          rw [hl2] at hs2
          obtain ⟨u1, u2, u3, arr2, t2, u4, u5, u6, u7, u8⟩ := hs2
          have hne : bb k2 ≠ bb k := fun e => e2 (st.fs.inj _ _ _ _ _ _ hl2 hl e)
          refine ⟨u1, u2, u3, arr2, t2, u4, u5, u6, fun j v hj => (u7 j v hj).imp fun z hz => ⟨hz.1, hz.2.mono hev⟩, ?_⟩
          cases fr2 with
          | true => exact fun j v hj => .inl (u8 j v hj)
          | false =>
            simp only [Bool.false_eq_true, if_false] at u8 ⊢
            intro o' hz
            rcases hz with hz | ⟨hz, _⟩
            · exact u8 o' hz
            · exact hne hz
        | lptr k' off' =>
          rw [hl2] at hs2
          intro fr3 cs3 hl3
          rw [look_setF] at hl3
          split at hl3
          · rename_i e3; subst e3; exact hs2 _ _ hl
          · exact hs2 _ _ hl3
        | _ => rw [hl2] at hs2; exact RV.mono hs2 hev
    · rw [look_setF, if_neg (by omega)]
      exact st.fs.high k2 hk2
    · rw [look_setF] at h1 h2
      have b1 : ∃ fr cs, look F k1 = .box fr cs := by
        split at h1
        · rename_i e; subst e; exact ⟨_, _, hl⟩
        · exact ⟨_, _, h1⟩
      have b2 : ∃ fr cs, look F k2 = .box fr cs := by
        split at h2
        · rename_i e; subst e; exact ⟨_, _, hl⟩
        · exact ⟨_, _, h2⟩
      obtain ⟨_, _, b1⟩ := b1
      obtain ⟨_, _, b2⟩ := b2
      exact st.fs.inj _ _ _ _ _ _ b1 b2
  · refine .ip cs (bb k) 0 (fun j v hj => ?_) fun j v x hj hx => ?_
    · obtain ⟨y, hy, _⟩ := s7 j v hj
      exact ⟨.inr ⟨rfl, by rw [Nat.zero_add]; exact (List.getElem?_eq_some_iff.1 hj).1⟩, y, by simp [c', World.cell?, s4, hy]⟩
    · obtain ⟨y, hy, hv⟩ := s7 j v hj
      have : some y = some x := by rw [← hx]; simp [c', World.cell?, s4, hy]
      injection this with this
      subst this
      exact hv.mono hev

theorem capts_ok (vs : List V) : ∀ {c : Cfg} {F : Fr} {xs : List Value} {K : List V → Fr → Prop}, St c0 h0 n c h bb F a → vs.length = xs.length → (∀ (i : Nat) (v : V) (x : Value), vs[i]? = some v → xs[i]? = some x → VOk c F bb v x) → capts n vs F K →
    ∃ c' F' us, c'.w = c.w ∧ Evo c c' ∧ St c0 h0 n c' h bb F' a ∧ RVs c' us xs ∧ K us F' := by
  induction vs with
  | nil =>
    intro c F xs K st hl hv hk
    have : xs = [] := List.eq_nil_of_length_eq_zero (by simpa using hl.symm)
    subst this
    exact ⟨c, F, [], rfl, Evo.refl c, st, RVs.nil c, hk⟩
  | cons v r ih =>
    intro c F xs K st hl hv hk
    cases xs with
    | nil => simp at hl
    | cons x xs =>
      have hx := hv 0 v x rfl rfl
      have hr : ∀ (i : Nat) (u : V) (y : Value), r[i]? = some u → xs[i]? = some y → VOk c F bb u y := fun i u y h1 h2 => hv (i + 1) u y (by simpa using h1) (by simpa using h2)
      have plain : port v = true → (capts n r F fun vs F => K (v :: vs) F) → ∃ c' F' us, c'.w = c.w ∧ Evo c c' ∧ St c0 h0 n c' h bb F' a ∧ RVs c' us (x :: xs) ∧ K us F' := by
        intro hp hk
        obtain ⟨c', F', us, h1, h2, h3, h4, h5⟩ := ih st (by simpa using hl) hr hk
        exact ⟨c', F', _, h1, h2, h3, RVs.cons ((port_RV hp hx).mono h2) h4, h5⟩
      unfold capts at hk
      split at hk
      · rename_i k
        split at hk
        case h_2 => exact hk.elim
        rename_i fr cs hlk
        rw [setK_eq] at hk
        obtain ⟨c1, e1, e2, e3, e4⟩ := st.freeze hlk
        have hr1 : ∀ (i : Nat) (u : V) (y : Value), r[i]? = some u → xs[i]? = some y → VOk c1 (setF F k (.box true cs)) bb u y := by
          intro i u y h1 h2
          have := hr i u y h1 h2
          cases u with
          | lptr k' off =>
            intro fr3 cs3 hl3
            rw [look_setF] at hl3
            split at hl3
            · rename_i e3; subst e3; exact this _ _ hlk
            · exact this _ _ hl3
          | _ => exact RV.mono this e2
        obtain ⟨c', F', us, h1, h2, h3, h4, h5⟩ := ih e3 (by simpa using hl) hr1 hk
        have hxe := hx _ _ hlk
        subst hxe
        exact ⟨c', F', _, h1.trans e1, e2.trans h2, h3, RVs.cons (e4.mono h2) h4, h5⟩
      · split at hk
        · rename_i hp; exact plain hp hk
        · exact hk.elim

theorem ok_makeFunc {f : Fn} {first caps : Array Operand} (ho : o.op = .makeFunc f first caps) (st : St c0 h0 n c h bb F a) (hk : evOp0 M tt n o F h K) (hn : Goes c0 h0 n K next) : o.wp P a c.w next Q := by
  simp only [evOp0, ho, opPick, opBuild, opLoad, opNilCheck, opBinOp, opConvert, opSlice, opFieldAddr, opIndexAddr, opIndex, opExtract, opAlloc, opBox, opStore, opBuildSlice, opMakeFunc] at hk
  split at hk
  case h_2 => exact hk.elim
  rename_i f' hf
  have hfirst : first = #[] := by apply Array.ext'; simpa using hf
  obtain ⟨vs, hvs, hk⟩ := mapEv_ok st _ hk
  obtain ⟨c', F', us, h1, h2, h3, h4, h5⟩ := capts_ok vs (xs := caps.toList.map a.eval) st (by rw [hvs]; simp) (fun i v x k1 k2 => by
    rw [hvs, List.getElem?_map] at k1
    rw [List.getElem?_map] at k2
    cases hc : caps.toList[i]? with
    | none => rw [hc] at k1; cases k1
    | some y =>
      rw [hc] at k1 k2
      injection k1 with k1; injection k2 with k2
      subst k1; subst k2
      exact ev_ok st.fs y) hk
  obtain ⟨F2, hF2, hK⟩ := put_ok h3.fs (VOk.of_RV (RV.fn' (f := f') h4)) h5
  rw [← h1]
  refine wp_value (x := .func (.func f') #[] (caps.toList.map a.eval).toArray) ?_ (hn c' h bb F2 _ ⟨h3.keep, h3.ok, h3.hs, hF2⟩ hK)
  rw [h1]
  simp only [execOp, ho, hfirst, Instr.makeFunc, Sem.run_bind, Sem.run_pure, Result.andThen_ok]
  have : Array.map a.eval caps = (List.map a.eval caps.toList).toArray := by apply Array.ext'; simp
  rw [this]
  simp

/-! ### Boxes that are handed out -/
theorem look_subF (k g sz : Nat) (F : Fr) (k' : Nat) : look (subF k g sz F) k' = if k' = k then (match look F k with | .dead => look (subF k g sz F) k | _ => .gptr g sz 0 0) else subV k g sz (look F k') := by
  induction F with
  | nil => simp [subF, look, subV]
  | cons x r ih =>
    obtain ⟨q, v⟩ := x
    by_cases hq : q = k
    · subst hq
      have hb : Nat.beq q q = true := by simp
      simp only [subF, hb, look]
      by_cases hk : k' = q
      · subst hk
        simp only [hb, if_true]
        split <;> rfl
      · simp only [beq_ne (fun e => hk e.symm), if_neg hk]
        rw [ih, if_neg hk]
    · simp only [subF, beq_ne hq, look]
      by_cases hk : k' = k
      · subst hk
        simp only [beq_ne hq, if_true]
        rw [ih, if_pos rfl]
        split <;> rfl
      · by_cases hk2 : q = k'
        · subst hk2
          have hb : Nat.beq q q = true := by simp
          simp only [hb, if_neg hk]
        · simp only [beq_ne hk2, if_neg hk]
          rw [ih, if_neg hk]

theorem St.publish (st : St c0 h0 n c h bb F a) {k g : Nat} {cs : List V} (hl : look F k = .box false cs) (hg : c.φ g = none) (hfree : Free h g) (hpos : 0 < cs.length) :
    ∃ c', c'.w = c.w ∧ Evo c c' ∧ St c0 h0 n c' (h.new g ⟨cs.length, 0, [cs], 0⟩) bb (subF k g cs.length F) a := by
  have hk : k < n := (box_cells st hl).2
  have to := To.new st.hs (h1 := h) rfl hfree (⟨cs.length, 0, [cs], 0⟩ : GRow)
  have hs := st.fs.slot k hk
  rw [hl] at hs
  obtain ⟨s1, s2, s3, arr, e, s4, s5, s6, s7, s8⟩ := hs
  have s8 : ∀ o, ¬ c.Z (bb k) o := by simpa using s8
  have hblt : bb k < c.w.heap.size := (Array.getElem?_eq_some_iff.1 s4).1
  have hev : Evo c (c.name g (some (bb k)) c.w) := evo_name st.ok hg _ (Evo.refl c)
  have hφg : (c.name g (some (bb k)) c.w).φ g = some (some (bb k)) := by simp [Cfg.name]
  have hφn : ∀ x, x ≠ g → (c.name g (some (bb k)) c.w).φ x = c.φ x := fun x hx => by simp [Cfg.name, hx]
  have hblk : ∀ b, Blk (c.name g (some (bb k)) c.w) (h.new g ⟨cs.length, 0, [cs], 0⟩) b → b = bb k ∨ Blk c h b := by
    rintro b ⟨g', r', hg', hφ'⟩
    by_cases he : g' = g
    · subst he; rw [hφg] at hφ'; injection hφ' with hφ'; injection hφ' with hφ'; exact .inl hφ'.symm
    · rw [hφn _ he] at hφ'; rw [to.ne _ he] at hg'
      exact .inr ⟨g', r', hg', hφ'⟩
  refine ⟨c.name g (some (bb k)) c.w, rfl, hev, ⟨⟨st.keep.evo.trans hev, st.keep.blk, st.keep.z, fun b hb hd => ?_⟩, st.ok.name (Nat.le_refl _) fun b hb => by injection hb with hb; subst hb; exact hblt, ⟨fun g' r' hg' => ?_, fun g1 g2 r1 r2 b k1 k2 k3 k4 => ?_, fun N hN x hx => by rw [hφn x (by have := (to.nx N hN).1; omega)]; exact (to.nx N hN).2 x hx⟩, ?_⟩⟩
  · rcases hblk b hd with rfl | hd
    · omega
    · exact st.keep.dom b hb hd
  · by_cases he : g' = g
    · subst he
      rw [to.self] at hg'
      injection hg' with hg'
      subst hg'
      refine .inr ⟨hpos, .inr ⟨bb k, arr, e, 1, hφg, s4, by rw [Nat.one_mul]; exact s5, by simp, by simp [maxLen], fun i cs' hi => ?_, fun i cs' j v hi hj => ?_, fun o hz => absurd hz (s8 o), by simp, fun h => absurd rfl h⟩⟩
      · cases i with
        | zero => simp at hi; subst hi; rfl
        | succ i => simp at hi
      · cases i with
        | zero =>
          simp at hi; subst hi
          obtain ⟨y, hy, hv⟩ := s7 j v hj
          exact ⟨cellL_at s6 j v hj, y, by simpa using hy, hv.mono hev⟩
        | succ i => simp at hi
    · rw [to.ne _ he] at hg'
      exact (st.hs.row g' r' hg').mono hev fun b hb => ⟨rfl, fun _ hz => hz⟩
  · have hnb : ∀ x r, x ≠ g → (h.new g ⟨cs.length, 0, [cs], 0⟩) x = some r → (c.name g (some (bb k)) c.w).φ x = some (some b) → h x = some r ∧ c.φ x = some (some b) ∧ b ≠ bb k := by
      intro x r hx k1 k3
      rw [hφn _ hx] at k3
      rw [to.ne _ hx] at k1
      exact ⟨k1, k3, fun e => s3 ⟨x, r, k1, e ▸ k3⟩⟩
    by_cases e1 : g1 = g <;> by_cases e2 : g2 = g
    · rw [e1, e2]
    · obtain ⟨_, _, hne⟩ := hnb g2 r2 e2 k2 k4
      subst e1; rw [hφg] at k3
      injection k3 with k3; injection k3 with k3
      exact absurd k3.symm hne
    · obtain ⟨_, _, hne⟩ := hnb g1 r1 e1 k1 k3
      subst e2; rw [hφg] at k4
      injection k4 with k4; injection k4 with k4
      exact absurd k4.symm hne
    · obtain ⟨a1, a2, _⟩ := hnb g1 r1 e1 k1 k3
      obtain ⟨b1, b2, _⟩ := hnb g2 r2 e2 k2 k4
      exact st.hs.inj _ _ _ _ _ a1 b1 a2 b2
  · have hlook : ∀ k', look (subF k g cs.length F) k' = if k' = k then .gptr g cs.length 0 0 else subV k g cs.length (look F k') := fun k' => by
      rw [look_subF, hl]
    have hbox : ∀ k' fr1 cs1, look (subF k g cs.length F) k' = .box fr1 cs1 → k' ≠ k ∧ look F k' = .box fr1 cs1 := by
      intro k' fr1 cs1 h1
      rw [hlook] at h1
      split at h1
      · cases h1
      · rename_i hne
        refine ⟨hne, ?_⟩
        cases hl2 : look F k' with
        | lptr k2 off => rw [hl2] at h1; simp only [subV] at h1; split at h1 <;> cases h1
        | _ => rw [hl2] at h1; exact h1
    refine ⟨st.fs.size, st.fs.defers, fun k2 hk2 => ?_, fun k2 hk2 => ?_, fun k1 k2 fr1 cs1 fr2 cs2 h1 h2 => ?_⟩
    · rw [hlook]
      by_cases e2 : k2 = k
      · subst e2
        rw [if_pos rfl]
        have := RV.gptr (c := c.name g (some (bb k2)) c.w) g cs.length 0 0 (bb k2) hφg
        rw [s1]
        simpa [SlotOk] using this
      · rw [if_neg e2]
        have hs2 := st.fs.slot k2 hk2
        cases hl2 : look F k2 with
        | box fr2 cs2 =>
          rw [hl2] at hs2
          obtain ⟨u1, u2, u3, arr2, t2, u4, u5, u6, u7, u8⟩ := hs2
          have hne : bb k2 ≠ bb k := fun e => e2 (st.fs.inj _ _ _ _ _ _ hl2 hl e)
          exact ⟨u1, u2, fun hd => (hblk _ hd).elim hne u3, arr2, t2, u4, u5, u6, fun j v hj => (u7 j v hj).imp fun z hz => ⟨hz.1, hz.2.mono hev⟩, u8⟩
        | lptr k' off' =>
          rw [hl2] at hs2
          by_cases e3 : k' = k
          · subst e3
            simp only [subV, show Nat.beq k' k' = true by simp]
            have hx := hs2 _ _ hl
            rw [hx]
            have := RV.gptr (c := c.name g (some (bb k')) c.w) g cs.length 0 off' (bb k') hφg
            simpa [SlotOk] using this
          · simp only [subV, beq_ne e3]
            intro fr3 cs3 hl3
            exact hs2 _ _ (hbox _ _ _ hl3).2
        | _ => rw [hl2] at hs2; exact RV.mono hs2 hev
    · rw [hlook, if_neg (by omega), st.fs.high k2 hk2]; rfl
    · exact st.fs.inj _ _ _ _ _ _ (hbox _ _ _ h1).2 (hbox _ _ _ h2).2

theorem pub_ok (m : Nat) : ∀ {c : Cfg} {h : H} {F : Fr} {vs : List V} {K : Fr → H → Prop}, St c0 h0 n c h bb F a → pub m vs F h K → ∃ c' h' F', c'.w = c.w ∧ Evo c c' ∧ St c0 h0 n c' h' bb F' a ∧ K F' h' := by
  induction m with
  | zero =>
    intro c h F vs K st hk
    simp only [pub] at hk
    split at hk
    · exact ⟨c, h, F, rfl, Evo.refl c, st, hk⟩
    · exact hk.elim
  | succ m ih =>
    intro c h F vs K st hk
    simp only [pub] at hk
    split at hk
    · exact ⟨c, h, F, rfl, Evo.refl c, st, hk⟩
    · split at hk
      case h_2 => exact hk.elim
      rename_i k _ cs hl
      split at hk
      · exact hk.elim
      rename_i sz hsz
      rw [len_eq] at hsz
      obtain ⟨g, hg1, hg2⟩ := fresh st.ok st.hs
      have hk := newK_ok hk hg2
      rw [forceF_eq, forceL_eq] at hk
      obtain ⟨c1, e1, e2, e3⟩ := st.publish hl hg1 hg2 (by omega)
      have hsz' : cs.length = sz + 1 := hsz
      rw [hsz'] at e3
      obtain ⟨c', h', F', h1, h2, h3, h4⟩ := ih e3 hk
      exact ⟨c', h', F', h1.trans e1, e2.trans h2, h3, h4⟩

theorem run_callFunc {f : Nat} {xs : Array Value} (w : World) (he : Ent P f) : (callFunc f xs).run P w = .ok (.enter f xs) w := by
  obtain ⟨fn, h1, h2, h3⟩ := he
  simp only [callFunc, Sem.run_bind, run_program, Result.andThen_ok, h1, h3]
  rw [if_neg (by simp), if_neg (by cases hb : fn.body <;> simp_all)]
  rfl

/-- A machine that does no more than the model. -/
structure Snd (P : Program) (M : Mach) : Prop where
  call : ∀ f vs h Q, M.call f vs h Q → ACalls P f vs h Q
  loop : ∀ n body F h Q, M.loop n body F h Q → LoopP P n body F h Q
  draw : ∀ n id ops F h Q, M.draw n id ops F h Q → DrawP P n id ops F h Q
  own : ∀ {c0 : Cfg} {h0 : H} {n : Nat} {c : Cfg} {h : H} {bb : Nat → Nat} {F : Fr} {a : Act} {o : Oper} {K : Fr → H → Prop} {next : Act → World → Prop} {Q : Exit → Act → World → Prop},
    M.own o.op = true → St c0 h0 n c h bb F a → M.op n o F h K → (∀ c' h' bb' F' a', St c0 h0 n c' h' bb' F' a' → K F' h' → next a' c'.w) → o.wp P a c.w next Q
  pure : ∀ {c0 : Cfg} {h0 : H} {n : Nat} {c : Cfg} {h : H} {bb : Nat → Nat} {F : Fr} {a : Act} {o : Oper} {K : Fr → H → Prop},
    M.own o.op = true → pureB o.op = true → St c0 h0 n c h bb F a → M.op n o F h K → PW P o a (fun _ => True) c0 h0 n c h bb K
  quiet : ∀ {c0 : Cfg} {h0 : H} {n : Nat} {c : Cfg} {h : H} {bb : Nat → Nat} {F : Fr} {a : Act} {o : Oper} {K : Fr → H → Prop},
    M.own o.op = true → quietB o.op = true → St c0 h0 n c h bb F a → M.op n o F h K → PW P o a (fun w => w = c.w) c0 h0 n c h bb K

theorem ok_call (hM : Snd P M) {cl : Call} {f : Operand} (ho : o.op = .call cl) (hcl : cl.callee = .value f) (st : St c0 h0 n c h bb F a)
    (hk : evOp0 M tt n o F h K) (hn : Goes c0 h0 n K next) : o.wp P a c.w next Q := by
  simp only [evOp0, ho, opCall, opCallV, hcl] at hk
  obtain ⟨vs, hvs, hk⟩ := mapEv_ok st _ hk
  obtain ⟨c1, h1, F1, e1, e2, st1, hk⟩ := pub_ok 4 st hk
  obtain ⟨c1', h1', F1', e1', e2', st1, hk⟩ := gh_ok st1 hk
  replace e1 := e1'.trans e1
  obtain ⟨us, hus, hk⟩ := mapEv_ok st1 _ hk
  split at hk
  case h_2 => exact hk.elim
  rename_i hp
  split at hk
  case h_2 => exact hk.elim
  rename_i g caps he
  rw [hus] at hp hk
  have hargs := portL_RVs st1 hp
  have hf := evo st1 he
  generalize hfv : a.eval f = fv at hf
  cases hf with
  | fn g caps ys hl hr =>
    have hall := hargs.append (⟨hl, hr⟩ : RVs _ caps ys)
    have hout := (hM.call _ _ _ _ hk).out _ _ st1.ok st1.hs hall
    have hexec : (execOp a.eval o).run P c1'.w = (callFunc g (cl.args.toList.map a.eval ++ ys).toArray).run P c1'.w := by
      simp only [execOp, ho, resolve, hcl, Sem.run_bind, hfv, Deferred.ofValue, Sem.run_pure, Result.andThen_ok, invoke]
      congr 1
      congr 1
      apply Array.ext'
      simp
    rw [← (show c1'.w = c.w from e1)]
    rcases hout with ⟨hent, hcalls⟩ | ⟨c', v, x, h', hrun, k1, k2, k3, k4, k5⟩
    · simp only [Oper.wp, hexec, run_callFunc c1'.w hent, Oper.upon_enter]
      refine hcalls.mono fun e w' ⟨c', v, x, h', hw, hev, k1, k2, k3, k4, k5⟩ => ?_
      subst hw
      subst hev
      have st2 := st1.step k4 k1 k2
      obtain ⟨F2, hF2, hK⟩ := put_ok st2.fs (VOk.of_RV k3) k5
      exact hn c' h' bb F2 _ ⟨st2.keep, st2.ok, st2.hs, hF2⟩ hK
    · have st2 := st1.step k4 k1 k2
      obtain ⟨F2, hF2, hK⟩ := put_ok st2.fs (VOk.of_RV k3) k5
      exact wp_value (hexec.trans hrun) (hn c' h' bb F2 _ ⟨st2.keep, st2.ok, st2.hs, hF2⟩ hK)

end
end Go.AM
/- Soundness, 14: every operation; regions; code; functions; loops. -/
set_option linter.unusedVariables false
set_option linter.unusedSimpArgs false
namespace Go.AM
open Go

section
variable {P : Program} {M : Mach} {tt : TT} {c0 : Cfg} {h0 : H} {n : Nat} {c : Cfg} {h : H} {bb : Nat → Nat} {F : Fr} {a : Act} {o : Oper} {next : Act → World → Prop} {Q : Exit → Act → World → Prop} {K : Fr → H → Prop}

theorem TIok.size1 {t : TypeId} {ti : TI} (h : TIok P t ti) (hti : (∃ z, ti = .one z) ∨ ti = .pt ∨ (∃ a b z, ti = .sl a b z) ∨ ti = .up ∨ ∃ a b, ti = .mp a b) : ∃ i, P.info? t = some i ∧ i.size = 1 := by
  obtain ⟨d, i, _, _, _, h1, h2⟩ := h.one_desc hti
  exact ⟨i, h1, h2⟩

theorem ok_store {t : TypeId} {x y : Operand} (htt : ∀ t, TIok P t (tt t)) (ho : o.op = .store t x y) (st : St c0 h0 n c h bb F a) (hk : evOp0 M tt n o F h K) (hn : Goes c0 h0 n K next) : o.wp P a c.w next Q := by
  simp only [evOp0, ho, opPick, opBuild, opLoad, opNilCheck, opBinOp, opConvert, opSlice, opFieldAddr, opIndexAddr, opIndex, opExtract, opAlloc, opBox, opStore, opBuildSlice, opMakeFunc] at hk
  have ht := htt t
  split at hk
  · exact hk.elim
  rename_i hdst
  split at hk
  · rename_i k off he
    split at hk
    case h_2 => exact hk.elim
    rename_i cs hl
    simp only [forceL_eq] at hk
    split at hk
    case h_2 => exact hk.elim
    rename_i hc
    split at hk
    case h_2 => exact hk.elim
    rename_i hle
    have hle' : off + (cellsOf (ev F y)).length ≤ cs.length := by have := Nat.le_of_ble_eq_true hle; rwa [len_eq, len_eq] at this
    have agg : ∀ {z : List V} {i : TypeInfo}, P.info? t = some i → i.size = z.length → (match Nat.beq (len z) (len (cellsOf (ev F y))) with | true => setK F k (.box false (splice cs off (cellsOf (ev F y)))) fun F => K F h | false => False) → o.wp P a c.w next Q := by
      intro z i hi hs hk
      split at hk
      case h_2 => exact hk.elim
      rename_i hb
      have hb' := beq_of hb
      rw [len_eq, len_eq] at hb'
      rw [setK_eq] at hk
      exact ok_store_box ho st he hl hc hle' hi (by omega) hdst hk hn
    have one : (∃ i, P.info? t = some i ∧ i.size = 1) → (match Nat.beq (len (cellsOf (ev F y))) 1 with | true => setK F k (.box false (splice cs off (cellsOf (ev F y)))) fun F => K F h | false => False) → o.wp P a c.w next Q := by
      rintro ⟨i, hi, hs⟩ hk
      split at hk
      case h_2 => exact hk.elim
      rename_i hb
      have hb' := beq_of hb
      rw [len_eq] at hb'
      rw [setK_eq] at hk
      exact ok_store_box ho st he hl hc hle' hi (by omega) hdst hk hn
    split at hk
    · exact hk.elim
    · rename_i z hz
      rw [hz] at ht
      obtain ⟨fs, hu, _, i, xs, h1, h2, _⟩ := ht
      exact agg h1 h2 hk
    · rename_i z hz
      rw [hz] at ht
      obtain ⟨fs, hu, _, i, xs, h1, h2, _⟩ := ht
      exact agg h1 h2 hk
    · rename_i hn1 hn2 hn3
      refine one (ht.size1 ?_) hk
      cases htt' : tt t with
      | no => exact absurd htt' hn1
      | one z => exact .inl ⟨z, rfl⟩
      | st p z => exact absurd htt' (hn2 p z)
      | ar p q z => exact absurd htt' (hn3 p q z)
      | sl p q z => exact .inr (.inr (.inl ⟨p, q, z, rfl⟩))
      | pt => exact .inr (.inl rfl)
      | up => exact .inr (.inr (.inr (.inl rfl)))
      | mp p q => exact .inr (.inr (.inr (.inr ⟨p, q, rfl⟩)))
  · rename_i g sz i off he
    simp only [forceL_eq] at hk
    split at hk
    case h_2 => exact hk.elim
    rename_i hc
    have agg : ∀ {z : List V} {ti : TypeInfo}, P.info? t = some ti → ti.size = z.length → (match Nat.beq (len z) (len (cellsOf (ev F y))) with | true => watH h g sz i fun cs => chk h.md (off + (cellsOf (ev F y)).length ≤ cs.length) (putH h g i (splice cs off (cellsOf (ev F y))) fun h => K F h) | false => False) → o.wp P a c.w next Q := by
      intro z ti hi hs hk
      split at hk
      case h_2 => exact hk.elim
      rename_i hb
      have hb' := beq_of hb
      rw [len_eq, len_eq] at hb'
      obtain ⟨cs, hw, hk⟩ := watH_ok hk
      obtain ⟨hle, hk⟩ := chk_ok hk
      obtain ⟨r, hr, _⟩ := wat_inv hw
      replace hk := putH_ok hr hk
      exact ok_store_row ho st he hc hw hle hi (by omega) hdst hk hn
    have one : (∃ i, P.info? t = some i ∧ i.size = 1) → (match Nat.beq (len (cellsOf (ev F y))) 1 with | true => watH h g sz i fun cs => chk h.md (off + (cellsOf (ev F y)).length ≤ cs.length) (putH h g i (splice cs off (cellsOf (ev F y))) fun h => K F h) | false => False) → o.wp P a c.w next Q := by
      rintro ⟨ti, hi, hs⟩ hk
      split at hk
      case h_2 => exact hk.elim
      rename_i hb
      have hb' := beq_of hb
      rw [len_eq] at hb'
      obtain ⟨cs, hw, hk⟩ := watH_ok hk
      obtain ⟨hle, hk⟩ := chk_ok hk
      obtain ⟨r, hr, _⟩ := wat_inv hw
      replace hk := putH_ok hr hk
      exact ok_store_row ho st he hc hw hle hi (by omega) hdst hk hn
    split at hk
    · exact hk.elim
    · rename_i z hz
      rw [hz] at ht
      obtain ⟨fs, hu, _, i, xs, h1, h2, _⟩ := ht
      exact agg h1 h2 hk
    · rename_i z hz
      rw [hz] at ht
      obtain ⟨fs, hu, _, i, xs, h1, h2, _⟩ := ht
      exact agg h1 h2 hk
    · rename_i hn1 hn2 hn3
      refine one (ht.size1 ?_) hk
      cases htt' : tt t with
      | no => exact absurd htt' hn1
      | one z => exact .inl ⟨z, rfl⟩
      | st p z => exact absurd htt' (hn2 p z)
      | ar p q z => exact absurd htt' (hn3 p q z)
      | sl p q z => exact .inr (.inr (.inl ⟨p, q, z, rfl⟩))
      | pt => exact .inr (.inl rfl)
      | up => exact .inr (.inr (.inr (.inl rfl)))
      | mp p q => exact .inr (.inr (.inr (.inr ⟨p, q, rfl⟩)))
  · exact hk.elim

theorem evOp0_ok (hM : Snd P M) (htt : ∀ t, TIok P t (tt t)) (st : St c0 h0 n c h bb F a) (hk : evOp0 M tt n o F h K) (hn : Goes c0 h0 n K next) : o.wp P a c.w next Q := by
  cases ho : o.op with
  | move x => exact (pw_move (.inl ho) st (by simpa only [evOp0, ho] using hk)).here.wp hn
  | assign x => exact (pw_move (.inr ho) st (by simpa only [evOp0, ho] using hk)).here.wp hn
  | pick x y z => exact (pw_pick ho st hk).here.wp hn
  | alloc e => exact ok_alloc htt ho st hk hn
  | box e x => exact ok_box htt ho st hk hn
  | build t ps => exact (pw_build htt ho st hk).here.wp hn
  | buildSlice t m ps => exact ok_buildSlice htt ho st hk hn
  | makeSlice t x y => exact ok_makeSlice htt ho st hk hn
  | load t x => exact (pw_load htt ho st hk).wp hn
  | store t x y => exact ok_store htt ho st hk hn
  | nilCheck x => exact (pw_nil ho st hk).here.wp hn
  | binOp op t x y t' => exact (pw_bin htt ho st hk).here.wp hn
  | unOp op t x => exact (pw_un ho st hk).here.wp hn
  | convert t t' x => exact (pw_convert htt ho st hk).wp hn
  | makeFunc f p q => exact ok_makeFunc ho st hk hn
  | slice t x p q r => exact (pw_slice htt ho st hk).here.wp hn
  | fieldAddr t x f => exact (pw_fieldAddr htt ho st hk).here.wp hn
  | indexAddr t x y => exact (pw_indexAddr htt ho st hk).here.wp hn
  | index t x y => exact (pw_index htt ho st hk).here.wp hn
  | extract x i => exact (pw_extract ho st hk).here.wp hn
  | call cl =>
    cases hcl : cl.callee with
    | value f => exact ok_call hM ho hcl st hk hn
    | invoke r m => simp only [evOp0, ho, opCall, opCallV, hcl] at hk
    | builtin b => simp only [evOp0, ho, opCall, opCallV, hcl] at hk; exact ok_builtin htt ho hcl st hk hn
  | _ => simp only [evOp0, ho, opPick, opBuild, opLoad, opNilCheck, opBinOp, opConvert, opSlice, opFieldAddr, opIndexAddr, opIndex, opExtract, opAlloc, opBox, opStore, opBuildSlice, opMakeFunc] at hk

theorem evOp_ok (hM : Snd P M) (htt : ∀ t, TIok P t (tt t)) (st : St c0 h0 n c h bb F a) (hk : evOp M tt n o F h K) (hn : Goes c0 h0 n K next) : o.wp P a c.w next Q := by
  unfold evOp at hk
  split at hk
  · rename_i ho; exact hM.own ho st hk hn
  · exact evOp0_ok hM htt st hk hn

/-! ### Regions -/
theorem slot_bv {base k : Nat} {v : V} {x : Value} {p : Bool} (hs : SlotOk c h F bb base k v x) (hv : bv v = some p) : x = .bool p := by
  cases v <;> simp [bv] at hv <;> subst hv <;> cases hs <;> rfl

theorem yielded_ok {all : List Oper} {j d : Nat} {p : Bool} (st : St c0 h0 n c h bb F a) (hd : dstOf all j = some d) (hv : bv (look F d) = some p) : yielded all.toArray a.tmps j = some p := by
  have hx : a.tmps.getD d undef = .bool p ∧ d < n := by
    have hdn : d < n := by
      rcases Nat.lt_or_ge d n with h | h
      · exact h
      · rw [st.fs.high d h] at hv; cases hv
    exact ⟨slot_bv (st.fs.slot d hdn) hv, hdn⟩
  unfold yielded
  have h1 : (all.toArray[j]?).bind (·.dst) = some d := by simpa [dstOf] using hd
  rw [h1]
  simp only [Option.bind_some]
  have hsz : d < a.tmps.size := by rw [st.fs.size]; exact hx.2
  have h2 : a.tmps[d]? = some (.bool p) := by
    have := hx.1
    simp only [Array.getD, hsz, dif_pos] at this
    rw [Array.getElem?_eq_getElem hsz]
    exact congrArg some this
  rw [h2]

theorem St.setV (st : St c0 h0 n c h bb F a) {d : Nat} {p : Bool} (hv : bv (look F d) = some p) : St c0 h0 n c h bb (setF F d (tf p)) a := by
  have hdn : d < n := by
    rcases Nat.lt_or_ge d n with h | h
    · exact h
    · rw [st.fs.high d h] at hv; cases hv
  have hx : a.tmps.getD d undef = .bool p := slot_bv (st.fs.slot d hdn) hv
  have := st.fs.set hdn (v := tf p) (x := .bool p) (VOk.of_RV (by cases p <;> constructor))
  have he : a.tmps.setIfInBounds d (.bool p) = a.tmps := by
    apply Array.ext_getElem?
    intro j
    rw [Array.getElem?_setIfInBounds]
    split
    · rename_i e
      subst e
      have hsz : d < a.tmps.size := by rw [st.fs.size]; exact hdn
      rw [if_pos hsz]
      simp only [Array.getD, hsz, dif_pos] at hx
      rw [Array.getElem?_eq_getElem hsz]
      exact congrArg some hx.symm
    · rfl
  rw [he] at this
  exact ⟨st.keep, st.ok, st.hs, this⟩

/-- The cases of a guard. -/
theorem evG_cases {R : Prop} (all : List Oper) (st : St c0 h0 n c h bb F a) (hk : evG M tt n all o F h K)
    (go : ∀ {F : Fr}, Region.wanted o (yielded all.toArray a.tmps) = true → St c0 h0 n c h bb F a → evOp M tt n o F h K → R)
    (skip : ∀ {F : Fr}, Region.wanted o (yielded all.toArray a.tmps) = false → St c0 h0 n c h bb F a → (put n F o.dst .un fun F => K F h) → R) : R := by
  unfold evG at hk
  split at hk
  · rename_i hg
    exact go (by simp [Region.wanted, hg]) st hk
  · rename_i j want hg
    split at hk
    · exact hk.elim
    rename_i d hd
    have fin : ∀ {F' : Fr} {p : Bool}, bv (look F d) = some p → St c0 h0 n c h bb F' a → evG1 M tt n d p want o F' h K → R := fun {F' p} hv st' hk => by
      have yes : p = want → Region.wanted o (yielded all.toArray a.tmps) = true := fun hp => by
        simp [Region.wanted, hg, yielded_ok st hd hv, hp]
      have no : p ≠ want → Region.wanted o (yielded all.toArray a.tmps) = false := fun hp => by
        simp [Region.wanted, hg, yielded_ok st hd hv, hp]
      cases p <;> cases want
      · exact go (yes rfl) st' hk
      · exact skip (no (by simp)) st' hk
      · exact skip (no (by simp)) st' hk
      · exact go (yes rfl) st' hk
    split at hk
    · rename_i hl; exact fin (by rw [hl]; rfl) st hk
    · rename_i hl; exact fin (by rw [hl]; rfl) st hk
    · rename_i x hl
      have hv : bv (look F d) = some x := by rw [hl]; rfl
      have hk := withB_ok hk
      rw [setK_eq] at hk
      exact fin hv (st.setV hv) hk
    · rename_i hl
      refine skip ?_ st hk
      have hdn : d < n := by
        rcases Nat.lt_or_ge d n with h | h
        · exact h
        · rw [st.fs.high d h] at hl; cases hl
      have hs := st.fs.slot d hdn
      rw [hl] at hs
      have hu : a.tmps[d]? = some undef := by
        have hsz : d < a.tmps.size := by rw [st.fs.size]; exact hdn
        have hx : a.tmps.getD d undef = undef := by
          generalize a.tmps.getD d undef = x at hs
          cases (show RV c .un x from hs)
          rfl
        rw [Array.getD_eq_getD_getElem?, Array.getElem?_eq_getElem hsz] at hx
        rw [Array.getElem?_eq_getElem hsz]
        simpa using hx
      have hy : yielded all.toArray a.tmps j = none := by
        have hd' : (all.toArray[j]?).bind (·.dst) = some d := by simpa [dstOf] using hd
        simp only [yielded, hd', Option.bind_some, hu]
        rfl
      simp [Region.wanted, hg, hy]
    · exact hk.elim

theorem evG_ok (hM : Snd P M) (htt : ∀ t, TIok P t (tt t)) (all : List Oper) (st : St c0 h0 n c h bb F a) (hk : evG M tt n all o F h K) (hn : Goes c0 h0 n K next) :
    if Region.wanted o (yielded all.toArray a.tmps) then o.wp P a c.w next Q else next (a.put o.dst undef) c.w :=
  evG_cases all st hk (fun hw st hk => by rw [if_pos hw]; exact evOp_ok hM htt st hk hn) fun hw st hk => by
    rw [if_neg (by simp [hw])]
    obtain ⟨F', hF', hK⟩ := put_ok st.fs (VOk.of_RV RV.un) hk
    exact hn c h bb F' _ ⟨st.keep, st.ok, st.hs, hF'⟩ hK

theorem evOps_ok (hM : Snd P M) (htt : ∀ t, TIok P t (tt t)) (all : List Oper) (Q : Exit → Act → World → Prop) (os : List Oper) : ∀ {c : Cfg} {h : H} {bb : Nat → Nat} {F : Fr} {a : Act} {K : Fr → H → Prop}, St c0 h0 n c h bb F a → evOps M tt n all os F h K →
    (Goes c0 h0 n K (Q .normal)) → wpList P all.toArray Q os a c.w := by
  induction os with
  | nil => intro c h bb F a K st hk hn; exact hn c h bb F a st hk
  | cons o os ih =>
    intro c h bb F a K st hk hn
    have := evG_ok (Q := Q) hM htt all st hk (next := wpList P all.toArray Q os) fun c' h' bb' F' a' st' hk' => ih st' hk' hn
    unfold wpList
    split
    · rename_i hw; rw [if_pos hw] at this; exact .inl this
    · rename_i hw; rw [if_neg hw] at this; exact this

end

/-! ### Code -/
section
variable {P : Program} {M : Mach} {tt : TT} {n : Nat}

theorem AW.mono {code : Code} {F : Fr} {h : H} {Q Q' : Ex → Fr → H → Prop} (k : AW P n code F h Q) (hq : ∀ e F h, Q e F h → Q' e F h) : AW P n code F h Q' :=
  ⟨fun c0 h0 a w hg => wp_mono (k.out c0 h0 a w hg) fun e a' w' ⟨ex, F', h', h1, h2, h3⟩ => ⟨ex, F', h', h1, h2, hq _ _ _ h3⟩⟩

theorem AW.region (hM : Snd P M) {id : Nat} {ops : Array Oper} (htt : ∀ t, TIok P t (tt t)) {F : Fr} {h : H} {Q : Ex → Fr → H → Prop} (hk : evOps M tt n ops.toList ops.toList F h fun F h => Q .normal F h) : AW P n (.region id ops false) F h Q := by
  refine ⟨fun c0 h0 a w hg => ?_⟩
  obtain ⟨c, bb, rfl, k1, k2, k3, k4⟩ := hg
  refine wp_region_list ?_
  have := evOps_ok hM htt ops.toList (fun e a' w' => ∃ ex F' h', exOf ex = e ∧ Good c0 h0 n F' h' a' w' ∧ Q ex F' h') ops.toList (⟨k1, k2, k3, k4⟩ : St c0 h0 n c h bb F a) hk (fun c' h' bb' F' a' st' hk' => ⟨.normal, F', h', rfl, ⟨c', bb', rfl, st'.keep, st'.ok, st'.hs, st'.fs⟩, hk'⟩)
  simpa using this

theorem AW.seq {x y : Code} {F : Fr} {h : H} {Q : Ex → Fr → H → Prop} (hk : AW P n x F h fun e F h => match e with | .normal => AW P n y F h Q | .exit id => Q (.exit id) F h | .ret => Q .ret F h) : AW P n (.seq x y) F h Q := by
  refine ⟨fun c0 h0 a w hg => wp_seq (wp_mono (hk.out c0 h0 a w hg) fun e a' w' ⟨ex, F', h', h1, h2, h3⟩ => ?_)⟩
  subst h1
  cases ex with
  | normal => exact h3.out c0 h0 a' w' h2
  | exit id => exact ⟨_, F', h', rfl, h2, h3⟩
  | ret => exact ⟨_, F', h', rfl, h2, h3⟩

theorem AW.block {id : Nat} {x : Code} {F : Fr} {h : H} {Q : Ex → Fr → H → Prop} (hk : AW P n x F h fun e F h => match e with | .normal => Q .normal F h | .exit j => (match Nat.beq j id with | true => Q .normal F h | false => Q (.exit j) F h) | .ret => Q .ret F h) : AW P n (.block id x) F h Q := by
  refine ⟨fun c0 h0 a w hg => wp_block (wp_mono (hk.out c0 h0 a w hg) fun e a' w' ⟨ex, F', h', h1, h2, h3⟩ => ?_)⟩
  subst h1
  cases ex with
  | normal => exact ⟨.normal, F', h', rfl, h2, h3⟩
  | ret => exact ⟨.ret, F', h', rfl, h2, h3⟩
  | exit j =>
    simp only [exOf, Exit.inBlock]
    by_cases hj : j = id
    · subst hj
      rw [if_pos rfl]
      have hb : Nat.beq j j = true := by simp
      simp only [hb] at h3
      exact ⟨.normal, F', h', rfl, h2, h3⟩
    · rw [if_neg hj]
      simp only [beq_ne hj] at h3
      exact ⟨.exit j, F', h', rfl, h2, h3⟩

theorem AW.of_eq {code : Code} {F : Fr} {h : H} {Q : Ex → Fr → H → Prop} (hk : Q .normal F h) : AW P n .skip F h Q :=
  ⟨fun c0 h0 a w hg => wp_skip ⟨.normal, F, h, rfl, hg, hk⟩⟩

theorem Good.cond {c0 : Cfg} {h0 : H} {F : Fr} {h : H} {a : Act} {w : World} (hg : Good c0 h0 n F h a w) {x : Operand} {p : Bool} (hv : bv (ev F x) = some p) : a.eval x = .bool p := by
  obtain ⟨c, bb, rfl, k1, k2, k3, k4⟩ := hg
  exact (ev_ok k4 x).bv hv

theorem awp_ok (hM : Snd P M) (htt : ∀ t, TIok P t (tt t)) (code : Code) : ∀ {F : Fr} {h : H} {Q : Ex → Fr → H → Prop}, awp M tt n code F h Q → AW P n code F h Q := by
  induction code with
  | skip => intro F h Q hk; exact ⟨fun c0 h0 a w hg => wp_skip ⟨.normal, F, h, rfl, hg, hk⟩⟩
  | region id ops draw =>
    intro F h Q hk
    cases draw with
    | false => exact AW.region hM htt hk
    | true => exact (hM.draw _ _ _ _ _ _ hk).out.mono fun e F h hq => by cases e <;> first | exact hq | exact hq.elim
  | seq x y ihx ihy =>
    intro F h Q hk
    refine AW.seq ((ihx hk).mono fun e F h hq => ?_)
    cases e with
    | normal => exact ihy hq
    | exit id => exact hq
    | ret => exact hq
  | cond c x y ihx ihy =>
    intro F h Q hk
    simp only [awp] at hk
    refine ⟨fun c0 h0 a w hg => ?_⟩
    split at hk
    · rename_i he
      exact wp_cond_true (hg.cond (by rw [he]; rfl)) ((ihx hk).out c0 h0 a w hg)
    · rename_i he
      exact wp_cond_false (hg.cond (by rw [he]; rfl)) ((ihy hk).out c0 h0 a w hg)
    · rename_i p he
      refine wp_cond_split (hg.cond (p := p) (by rw [he]; rfl)) (fun e => ?_) (fun e => ?_)
      · subst e; exact (ihx (withB_ok hk)).out c0 h0 a w hg
      · subst e; exact (ihy (withB_ok hk)).out c0 h0 a w hg
    · exact hk.elim
  | block id x ih => intro F h Q hk; exact AW.block (ih hk)
  | loop x ih =>
    intro F h Q hk
    refine ⟨fun c0 h0 a w hg b k cs => ?_⟩
    obtain ⟨e, a', w', hq, harr⟩ := (hM.loop _ _ _ _ _ hk).out c0 h0 a w hg b k cs
    exact ⟨e, a', w', hq, .of_steps (.one step_loop) harr⟩
  | exit id => intro F h Q hk; exact ⟨fun c0 h0 a w hg => wp_exit ⟨.exit id, F, h, rfl, hg, hk⟩⟩
  | ret => intro F h Q hk; exact ⟨fun c0 h0 a w hg => wp_ret ⟨.ret, F, h, rfl, hg, hk⟩⟩
  | rangeFunc f p x y => intro F h Q hk; exact hk.elim
  | scope x ih => intro F h Q hk; exact hk.elim
  | label l => intro F h Q hk; exact hk.elim
  | goto l => intro F h Q hk; exact hk.elim
  | refuse w => intro F h Q hk; exact hk.elim

end
end Go.AM
/- Loops by their rules; functions by their texts. -/
set_option linter.unusedVariables false
set_option linter.unusedSimpArgs false
namespace Go.AM
open Go

section
variable {P : Program} {M : Mach} {tt : TT} {n : Nat}

theorem Good.st {c0 : Cfg} {h0 : H} {F : Fr} {h : H} {a : Act} {w : World} (hg : Good c0 h0 n F h a w) : ∃ c bb, c.w = w ∧ St c0 h0 n c h bb F a := by
  obtain ⟨c, bb, h1, k1, k2, k3, k4⟩ := hg
  exact ⟨c, bb, h1, k1, k2, k3, k4⟩
theorem St.good {c0 : Cfg} {h0 : H} {c : Cfg} {h : H} {bb : Nat → Nat} {F : Fr} {a : Act} (st : St c0 h0 n c h bb F a) : Good c0 h0 n F h a c.w :=
  ⟨c, bb, rfl, st.keep, st.ok, st.hs, st.fs⟩

theorem Gh.good {K : Fr → H → Prop} {F : Fr} {h : H} (hk : Gh K F h) {c0 : Cfg} {h0 : H} {a : Act} {w : World} (hg : Good c0 h0 n F h a w) : ∃ F' h', Good c0 h0 n F' h' a w ∧ K F' h' := by
  obtain ⟨c, bb, rfl, st⟩ := hg.st
  obtain ⟨c', h', F', h1, _, h3, h4⟩ := Gh_ok hk st
  exact ⟨F', h', h1 ▸ h3.good, h4⟩

/-- Ghost steps at a loop's head. -/
theorem LoopP.gh {body : Code} {F : Fr} {h : H} {Q : Ex → Fr → H → Prop} (hk : Gh (fun F h => LoopP P n body F h Q) F h) : LoopP P n body F h Q :=
  ⟨fun c0 h0 a w hg => by
    obtain ⟨F', h', h1, h2⟩ := hk.good hg
    exact h2.out c0 h0 a w h1⟩

theorem WL.unfold {c : Code} {Q : Exit → Act → World → Prop} {a : Act} {w : World} (h : c.wp P (fun e a' w' => match e with | .normal => WL P c Q a' w' | e => Q e a' w') a w) : WL P c Q a w := by
  intro b k cs
  obtain ⟨e, a₁, w₁, hq, harr⟩ := h b (.inLoop c :: k) cs
  cases e with
  | normal =>
    obtain ⟨e₂, a₂, w₂, hq₂, harr₂⟩ := hq b k cs
    exact ⟨e₂, a₂, w₂, hq₂, .of_steps (Steps.trans harr (.one step_inLoop)) harr₂⟩
  | exit id => exact ⟨_, a₁, w₁, hq, .pass (x := .inLoop c) rfl (fun _ _ => .inl (by simp)) harr⟩
  | goto l => exact ⟨_, a₁, w₁, hq, .pass (x := .inLoop c) rfl (fun _ _ => .inl (by simp)) harr⟩
  | ret => exact ⟨_, a₁, w₁, hq, .pass (x := .inLoop c) rfl (fun _ _ => .inl (by simp)) harr⟩
  | panic ch => exact ⟨_, a₁, w₁, hq, .pass (x := .inLoop c) rfl (fun _ _ => .inl (by simp)) harr⟩
  | outgrown => exact ⟨_, a₁, w₁, hq, .pass (x := .inLoop c) rfl (fun _ _ => .inl (by simp)) harr⟩

theorem Gh.mono {K K' : Fr → H → Prop} {F : Fr} {h : H} (hk : Gh K F h) (hq : ∀ F h, K F h → K' F h) : Gh K' F h := by
  induction hk with
  | done k => exact .done (hq _ _ k)
  | view s g r v hg hz hv _ ih => exact .view s g r v hg hz hv ih
  | nilrow s sz v hsz hv _ ih => exact .nilrow s sz v hsz hv ih
  | soft s v hv _ ih => exact .soft s v hv ih
  | keep ks _ ih => exact .keep ks ih
  | sub hs _ ih => exact .sub hs ih

theorem LoopP.unfoldW {body : Code} {F : Fr} {h : H} {Q : Ex → Fr → H → Prop}
    (hk : AW P n body F h fun e F h => match e with | .normal => LoopP P n body F h Q | .exit i => Q (.exit i) F h | .ret => Q .ret F h) : LoopP P n body F h Q :=
  ⟨fun c0 h0 a w hg => WL.unfold (wp_mono (hk.out c0 h0 a w hg) fun e a' w' ⟨ex, F', h', h1, h2, h3⟩ => by
    subst h1
    cases ex with
    | normal => exact h3.out c0 h0 a' w' h2
    | exit i => exact ⟨_, F', h', rfl, h2, h3⟩
    | ret => exact ⟨_, F', h', rfl, h2, h3⟩)⟩

/-- One round. -/
theorem LoopP.unfold (hM : Snd P M) (htt : ∀ t, TIok P t (tt t)) {body : Code} {F : Fr} {h : H} {Q : Ex → Fr → H → Prop}
    (hk : awp M tt n body F h fun e F h => match e with | .normal => LoopP P n body F h Q | .exit i => Q (.exit i) F h | .ret => Q .ret F h) : LoopP P n body F h Q :=
  LoopP.unfoldW (awp_ok hM htt body hk)

/-- A loop by a relation: every round ends at a smaller one. -/
theorem LoopP.ind (hM : Snd P M) (htt : ∀ t, TIok P t (tt t)) {α : Type} {body : Code} {Q : Ex → Fr → H → Prop} (fr : α → Fr) (hp : α → H) (pre : α → Prop) (μ : α → Nat)
    (round : ∀ x, pre x → awp M tt n body (fr x) (hp x) fun e F h => match e with
      | .normal => Gh (fun F h => ∃ y, (pre y ∧ μ y < μ x) ∧ F = fr y ∧ h = hp y) F h
      | .exit i => Q (.exit i) F h
      | .ret => Q .ret F h) (x : α) (hx : pre x) : LoopP P n body (fr x) (hp x) Q := by
  generalize hm : μ x = m
  induction m using Nat.strongRecOn generalizing x with
  | _ m ih =>
    refine LoopP.unfoldW ((awp_ok hM htt body (round x hx)).mono fun e F h hq => ?_)
    cases e with
    | normal => exact LoopP.gh (hq.mono fun F h ⟨y, ⟨h1, h2⟩, h3, h4⟩ => by subst h3; subst h4; exact ih _ (hm ▸ h2) y h1 rfl)
    | exit i => exact hq
    | ret => exact hq

/-! ### Functions -/
theorem look_entry (vs : List V) : ∀ (k d : Nat), look (entry k vs) d = if k ≤ d then (vs[d - k]?).getD .dead else .dead := by
  induction vs with
  | nil => intro k d; simp [entry, look]
  | cons v r ih =>
    intro k d
    simp only [entry, look]
    by_cases hk : k = d
    · subst hk
      simp
    · simp only [beq_ne hk, ih]
      by_cases hd : k ≤ d
      · rw [if_pos hd, if_pos (by omega)]
        rw [show d - k = (d - (k + 1)) + 1 by omega]
        simp
      · rw [if_neg hd, if_neg (by omega)]

noncomputable def rsem (tmps : Array Value) : ResultVar → Sem Value
  | .tmp t => pure (tmps.getD t undef)
  | .cell a t => do loadVar t (← asAddr (tmps.getD a undef))
theorem results_eq (fn : Func) (tmps : Array Value) : results fn tmps = (do let vs ← fn.results.mapM (rsem tmps); pure (if h : vs.size = 1 then vs[0] else .tuple vs)) := by
  unfold results rsem
  rfl

theorem resV_ok {fn : Func} (htt : ∀ t, TIok P t (tt t)) {c0 : Cfg} {h0 : H} {c : Cfg} {h : H} {bb : Nat → Nat} {F : Fr} {a : Act} (st : St c0 h0 n c h bb F a) (rs : List ResultVar) : ∀ {K : List V → Prop}, resV tt F rs K →
    ∃ (vs : List V) (xs : List Value), vs.length = xs.length ∧ (∀ (i : Nat) (v : V) (x : Value), vs[i]? = some v → xs[i]? = some x → VOk c F bb v x) ∧ K vs ∧
      (rs.mapM (rsem a.tmps)).run P c.w = .ok xs c.w := by
  induction rs with
  | nil => intro K hk; exact ⟨[], [], rfl, by simp, hk, by simp⟩
  | cons r rs ih =>
    intro K hk
    cases r with
    | tmp t =>
      simp only [resV, force_eq] at hk
      obtain ⟨vs, xs, h1, h2, h3, h4⟩ := ih hk
      refine ⟨_, a.tmps.getD t undef :: xs, by simp [h1], fun i v x hv hx => ?_, h3, ?_⟩
      · cases i with
        | zero =>
          simp at hv hx; subst hv; subst hx
          have := ev_ok st.fs (.tmp t)
          simpa [Act.eval, Array.getD_eq_getD_getElem?] using this
        | succ i => exact h2 i v x (by simpa using hv) (by simpa using hx)
      · simp only [List.mapM_cons, Sem.run_bind, Sem.run_pure, Result.andThen_ok, h4, rsem]
    | cell p t =>
      simp only [resV] at hk
      split at hk
      case h_2 => exact hk.elim
      rename_i fr cs hl
      obtain ⟨hcs, hp⟩ := box_cells st hl
      obtain ⟨v, y, k1, k2, k3⟩ := loadC_ok (htt t) hcs hk
      obtain ⟨vs, xs, h1, h2, h3, h4⟩ := ih k3
      have hslot := st.fs.slot p hp
      rw [hl] at hslot
      refine ⟨_, y :: xs, by simp [h1], fun i v' x hv hx => ?_, h3, ?_⟩
      · cases i with
        | zero => simp at hv hx; subst hv; subst hx; exact VOk.of_RV k2
        | succ i => exact h2 i v' x (by simpa using hv) (by simpa using hx)
      · simp only [List.mapM_cons, Sem.run_bind, Sem.run_pure, Result.andThen_ok, rsem, hslot.1, asAddr]
        rw [show (⟨bb p, 0 + 0, none⟩ : Addr) = ⟨bb p, 0, none⟩ from rfl] at k1
        simp only [k1, Result.andThen_ok, h4]

theorem portL_get {l : List V} (h : portL l = true) : ∀ (i : Nat) (v : V), l[i]? = some v → port v = true := by
  induction l with
  | nil => intro i v hi; simp at hi
  | cons x r ih =>
    intro i v hi
    simp only [portL] at h
    split at h
    · rename_i h1
      cases i with
      | zero => simp at hi; subst hi; exact h1
      | succ i => exact ih h i v (by simpa using hi)
    · cases h

theorem mapM_arr {α : Type} {f : α → Sem Value} {xs : List Value} (w : World) (l : Array α) (h : (l.toList.mapM f).run P w = .ok xs w) : (l.mapM f).run P w = .ok xs.toArray w := by
  rw [Array.mapM_eq_mapM_toList]
  simp [h]

theorem fin_ok {fn : Func} (htt : ∀ t, TIok P t (tt t)) {c0 : Cfg} {h0 : H} {ex : Ex} {F : Fr} {h : H} {a : Act} {w : World} {Q : V → H → Prop} (hg : Good c0 h0 n F h a w) (hk : fin tt fn Q ex F h) :
    bodyPost P fn (fun e w' => ∃ c' v x h', c'.w = w' ∧ e = .returned x ∧ CfgOk c' ∧ HSim c' h' ∧ RV c' v x ∧ Keep c0 h0 c' h' ∧ Q v h') (exOf ex) a w := by
  have key : (resV tt F fn.results.toList fun vs => pub 4 vs F h fun F h => gh1 F h fun F h => resV tt F fn.results.toList fun vs => match portL vs with
    | true => Q (tupV vs) h
    | false => False) → a.defers = [] ∧ ∃ v, (results fn a.tmps).run P w = .ok v w ∧ ∃ c' v' x h', c'.w = w ∧ Ending.returned v = .returned x ∧ CfgOk c' ∧ HSim c' h' ∧ RV c' v' x ∧ Keep c0 h0 c' h' ∧ Q v' h' := by
    intro hk
    obtain ⟨c, bb, rfl, st⟩ := hg.st
    obtain ⟨vs, xs, _, _, hk, _⟩ := resV_ok (fn := fn) htt st _ hk
    obtain ⟨c1, h1, F1, e1, _, st1, hk⟩ := pub_ok 4 st hk
    obtain ⟨c2, h2, F2, e2, _, st2, hk⟩ := gh1_ok st1 hk
    obtain ⟨us, ys, k1, k2, k3, k4⟩ := resV_ok (fn := fn) htt st2 _ hk
    have hw : c2.w = c.w := e2.trans e1
    split at k3
    case h_2 => exact k3.elim
    rename_i hp
    have hrv : RVs c2 us ys := ⟨k1, fun i v x hv hx => port_RV (portL_get hp i v hv) (k2 i v x hv hx)⟩
    refine ⟨st.fs.defers, (if h : ys.toArray.size = 1 then ys.toArray[0] else .tuple ys.toArray), ?_, c2, tupV us, _, h2, hw, rfl, st2.ok, st2.hs, ?_, st2.keep, k3⟩
    · have := mapM_arr c2.w fn.results k4
      rw [hw] at this
      rw [results_eq]
      simp only [Sem.run_bind]
      rw [this]
      simp only [Result.andThen_ok, Sem.run_pure]
    · match us, hrv with
      | [], hrv => rw [hrv.nil_inv]; exact RV.tup' (RVs.nil _)
      | [u], hrv =>
        obtain ⟨x, r, rfl, r1, r2⟩ := hrv.cons_inv
        rw [r2.nil_inv]
        simpa [tupV] using r1
      | u :: u' :: us, hrv =>
        obtain ⟨x, r, rfl, r1, r2⟩ := hrv.cons_inv
        obtain ⟨x', r', rfl, r3, r4⟩ := r2.cons_inv
        simp only [List.size_toArray, List.length_cons]
        rw [dif_neg (by omega)]
        exact RV.tup' hrv
  cases ex with
  | normal => exact key hk
  | ret => exact key hk
  | exit i => exact hk.elim

/-- A function does what its text does. -/
theorem ACalls.of (hM : Snd P M) (htt : ∀ t, TIok P t (tt t)) {f : Nat} {fn : Func} {body : Code} {vs : List V} {h : H} {Q : V → H → Prop} (hf : P.funcs[f]? = some fn) (hb : fn.body = some body) (hn : (fn.name == "runtime.NumGoroutine") = false)
    (hl : Nat.ble vs.length fn.ntmps = true) (hk : awp M tt fn.ntmps body (entry 0 vs) h (fin tt fn Q)) : ACalls P f vs h Q := by
  refine ⟨fun c xs ok hs hr => .inl ⟨⟨fn, hf, by simp [hb], hn⟩, calls_of_wp hf hb (wp_mono ((awp_ok hM htt body hk).out c h _ c.w ?_) fun e a' w' ⟨ex, F', h', h1, h2, h3⟩ => h1 ▸ fin_ok htt h2 h3)⟩⟩
  have hl' : vs.length ≤ fn.ntmps := Nat.le_of_ble_eq_true hl
  have hxl := hr.len
  refine ⟨c, fun _ => 0, rfl, Keep.refl c h, ok, hs, ?_, rfl, fun k hk => ?_, fun k hk => ?_, fun k k' fr cs fr' cs' h1 h2 => ?_⟩
  · simp; omega
  · rw [look_entry, if_pos (Nat.zero_le _), Nat.sub_zero]
    cases hv : vs[k]? with
    | none => exact SlotOk.of_RV1 (.dead _)
    | some v =>
      have hkl : k < xs.length := by rw [← hxl]; exact (List.getElem?_eq_some_iff.1 hv).1
      have := hr.at_ k v _ hv (List.getElem?_eq_getElem hkl)
      have he : (xs.toArray ++ Array.replicate (fn.ntmps - xs.toArray.size) undef).getD k undef = xs[k] := by
        rw [Array.getD_eq_getD_getElem?, Array.getElem?_append_left (by simpa using hkl)]
        simp [hkl]
      rw [he]
      exact SlotOk.of_RV1 this
  · rw [look_entry, if_pos (Nat.zero_le _), Nat.sub_zero]
    rw [List.getElem?_eq_none (by omega)]
    rfl
  · exfalso
    rw [look_entry, if_pos (Nat.zero_le _), Nat.sub_zero] at h1
    cases hv : vs[k]? with
    | none => rw [hv] at h1; cases h1
    | some v =>
      rw [hv] at h1
      have h1 : v = .box fr cs := h1
      have hkl : k < xs.length := by rw [← hxl]; exact (List.getElem?_eq_some_iff.1 hv).1
      have := hr.at_ k v _ hv (List.getElem?_eq_getElem hkl)
      rw [h1] at this
      cases this

theorem symM_ok : Snd P (symM P) := ⟨fun _ _ _ _ h => h, fun _ _ _ _ _ h => h, fun _ _ _ _ _ _ h => h, fun h => (nomatch h), fun h => (nomatch h), fun h => (nomatch h)⟩

end
end Go.AM
/- Regions whose order is drawn: where nothing is changed, any order does what the written one does. -/
set_option linter.unusedVariables false
set_option linter.unusedSimpArgs false
namespace Go.AM
open Go

section
variable {P : Program} {M : Mach} {tt : TT} {c0 : Cfg} {h0 : H} {n : Nat} {c : Cfg} {h : H} {bb : Nat → Nat} {F : Fr} {a : Act} {o : Oper} {next : Act → World → Prop} {Q : Exit → Act → World → Prop} {K : Fr → H → Prop}

theorem evOps_cons (all : List Oper) (o : Oper) (os : List Oper) (F : Fr) (h : H) (K : Fr → H → Prop) :
    evOps M tt n all (o :: os) F h K = evG M tt n all o F h fun F h => evOps M tt n all os F h K := rfl

theorem evOp0_pure (htt : ∀ t, TIok P t (tt t)) (hp : pureB o.op = true) (st : St c0 h0 n c h bb F a) (hk : evOp0 M tt n o F h K) : PW P o a (fun _ => True) c0 h0 n c h bb K := by
  cases ho : o.op with
  | move x => exact pw_move (.inl ho) st (by simpa only [evOp0, ho] using hk)
  | assign x => exact pw_move (.inr ho) st (by simpa only [evOp0, ho] using hk)
  | pick x y z => exact pw_pick ho st hk
  | build t ps => exact pw_build htt ho st hk
  | nilCheck x => exact pw_nil ho st hk
  | binOp op t x y t' => exact pw_bin htt ho st hk
  | unOp op t x => exact pw_un ho st hk
  | slice t x p q r => exact pw_slice htt ho st hk
  | fieldAddr t x f => exact pw_fieldAddr htt ho st hk
  | indexAddr t x y => exact pw_indexAddr htt ho st hk
  | index t x y => exact pw_index htt ho st hk
  | extract x i => exact pw_extract ho st hk
  | field t x f => simp only [evOp0, ho] at hk
  | typeAssert x t t' b => simp only [evOp0, ho] at hk
  | makeInterface t x => simp only [evOp0, ho] at hk
  | _ => rw [ho] at hp; cases hp

theorem evOp0_quiet (htt : ∀ t, TIok P t (tt t)) (hp : quietB o.op = true) (st : St c0 h0 n c h bb F a) (hk : evOp0 M tt n o F h K) : PW P o a (fun w => w = c.w) c0 h0 n c h bb K := by
  cases ho : o.op with
  | move x => exact (pw_move (.inl ho) st (by simpa only [evOp0, ho] using hk)).here
  | assign x => exact (pw_move (.inr ho) st (by simpa only [evOp0, ho] using hk)).here
  | pick x y z => exact (pw_pick ho st hk).here
  | build t ps => exact (pw_build htt ho st hk).here
  | nilCheck x => exact (pw_nil ho st hk).here
  | binOp op t x y t' => exact (pw_bin htt ho st hk).here
  | unOp op t x => exact (pw_un ho st hk).here
  | slice t x p q r => exact (pw_slice htt ho st hk).here
  | fieldAddr t x f => exact (pw_fieldAddr htt ho st hk).here
  | indexAddr t x y => exact (pw_indexAddr htt ho st hk).here
  | index t x y => exact (pw_index htt ho st hk).here
  | extract x i => exact (pw_extract ho st hk).here
  | load t x => exact pw_load htt ho st hk
  | convert t t' x => exact pw_convert htt ho st hk
  | field t x f => simp only [evOp0, ho] at hk
  | typeAssert x t t' b => simp only [evOp0, ho] at hk
  | makeInterface t x => simp only [evOp0, ho] at hk
  | lookup t x k b => simp only [evOp0, ho] at hk
  | call cl =>
    cases hcl : cl.callee with
    | builtin b =>
      simp only [evOp0, ho, opCall, hcl] at hk
      refine pw_builtin (fun e => ?_) htt ho hcl st hk
      subst e
      simp only [ho, quietB, hcl] at hp
      cases hp
    | _ => simp only [ho, quietB, hcl] at hp; cases hp
  | _ => rw [ho] at hp; cases hp

theorem evOp_pure (hM : Snd P M) (htt : ∀ t, TIok P t (tt t)) (hp : pureB o.op = true) (st : St c0 h0 n c h bb F a) (hk : evOp M tt n o F h K) : PW P o a (fun _ => True) c0 h0 n c h bb K := by
  unfold evOp at hk
  split at hk
  · rename_i ho; exact hM.pure ho hp st hk
  · exact evOp0_pure htt hp st hk
theorem evOp_quiet (hM : Snd P M) (htt : ∀ t, TIok P t (tt t)) (hp : quietB o.op = true) (st : St c0 h0 n c h bb F a) (hk : evOp M tt n o F h K) : PW P o a (fun w => w = c.w) c0 h0 n c h bb K := by
  unfold evOp at hk
  split at hk
  · rename_i ho; exact hM.quiet ho hp st hk
  · exact evOp0_quiet htt hp st hk

/-- An operation of a region hands on a value, in all worlds of W. -/
noncomputable def YW (P : Program) (W : World → Prop) (ops : Array Oper) (o : Oper) (v : Value) (a : Act) : Prop :=
  (Region.wanted o (yielded ops a.tmps) = true ∧ ∀ w, W w → (execOp a.eval o).run P w = .ok (.value v) w) ∨
  (Region.wanted o (yielded ops a.tmps) = false ∧ v = undef)

theorem evG_W {W : World → Prop} (all : List Oper) (H : ∀ {F : Fr}, St c0 h0 n c h bb F a → evOp M tt n o F h K → PW P o a W c0 h0 n c h bb K) (st : St c0 h0 n c h bb F a) (hk : evG M tt n all o F h K) :
    ∃ v F', YW P W all.toArray o v a ∧ St c0 h0 n c h bb F' (a.put o.dst v) ∧ K F' h :=
  evG_cases all st hk (fun hw st hk => by
    obtain ⟨x, F', h1, h2, h3⟩ := H st hk
    exact ⟨x, F', .inl ⟨hw, h1⟩, h2, h3⟩) fun hw st hk => by
    obtain ⟨F', hF', hK⟩ := put_ok st.fs (VOk.of_RV RV.un) hk
    exact ⟨undef, F', .inr ⟨hw, rfl⟩, ⟨st.keep, st.ok, st.hs, hF'⟩, hK⟩

/-! ### The written order, as a run -/
noncomputable def YRun (P : Program) (w : World) (ops : Array Oper) : List Nat → Act → Act → Prop
  | [], a, z => a = z
  | i :: L, a, z => ∃ o v, ops[i]? = some o ∧ YW P (fun w' => w' = w) ops o v a ∧ YRun P w ops L (a.put o.dst v) z

theorem YW.of_same {W : World → Prop} {ops : Array Oper} {v : Value} {a a' : Act} (hy : YW P W ops o v a) (he : execOp a'.eval o = execOp a.eval o)
    (hw : Region.wanted o (yielded ops a'.tmps) = Region.wanted o (yielded ops a.tmps)) : YW P W ops o v a' := by
  unfold YW at *
  rw [he, hw]
  exact hy

theorem YRun.front {w : World} {ops : Array Oper} (hs : Region.noSelect ops = true) {i : Nat} {M : List Nat} : ∀ {L : List Nat} {a z : Act}, YRun P w ops (L ++ i :: M) a z →
    (∀ x ∈ L, ∀ ox oi, ops[x]? = some ox → ops[i]? = some oi → ox.apart ops oi = true) → YRun P w ops (i :: (L ++ M)) a z := by
  intro L
  induction L with
  | nil => intro a z hr _; exact hr
  | cons x L ih =>
    intro a z hr hap
    obtain ⟨ox, v, hx, hy, hr⟩ := hr
    obtain ⟨oi, u, hi, hyi, hr⟩ := ih hr fun y hy => hap y (List.mem_cons_of_mem _ hy)
    obtain ⟨h1, h2, h3⟩ := Oper.apart_spec (hap x (by simp) ox oi hx hi)
    have sx := fun cs b => Region.noSelect_spec hs x ox cs b hx
    have si := fun cs b => Region.noSelect_spec hs i oi cs b hi
    refine ⟨oi, u, hi, hyi.of_same (execOp_put oi si a ox.dst v h1).symm (wanted_put oi a ox.dst v h1).symm, ox, v, hx, hy.of_same (execOp_put ox sx a oi.dst u h3) (wanted_put ox a oi.dst u h3), ?_⟩
    rw [← Act.put_comm a v u h2]
    exact hr

theorem evOps_run (hM : Snd P M) (htt : ∀ t, TIok P t (tt t)) {all : List Oper} (os : List Oper) : ∀ {F : Fr} {a : Act} {K : Fr → H → Prop} (pre : List Oper), all = pre ++ os → (∀ o ∈ os, quietB o.op = true) → St c0 h0 n c h bb F a → evOps M tt n all os F h K →
    ∃ z F', YRun P c.w all.toArray (List.range' pre.length os.length) a z ∧ St c0 h0 n c h bb F' z ∧ K F' h := by
  induction os with
  | nil => intro F a K pre _ _ st hk; exact ⟨a, F, rfl, st, hk⟩
  | cons o os ih =>
    intro F a K pre he hq st hk
    rw [evOps_cons] at hk
    obtain ⟨v, F', hy, st', hk'⟩ := evG_W all (fun st hk => evOp_quiet hM htt (hq o (by simp)) st hk) st hk
    obtain ⟨z, F'', hr, st'', hk''⟩ := ih (pre ++ [o]) (by simp [he]) (fun o' ho' => hq o' (by simp [ho'])) st' hk'
    refine ⟨z, F'', ?_, st'', hk''⟩
    simp only [List.length_cons, List.range'_succ]
    refine ⟨o, v, by simp [he], hy, ?_⟩
    simpa using hr

/-- May a region's operations go in any order? -/
noncomputable def qreg (l : List Oper) : Bool :=
  Region.noSelect l.toArray && (l.all fun o => quietB o.op) &&
  (List.range l.length).all fun j => match l[j]? with
    | none => true
    | some oj => (oj.after.all fun e => !Region.binds .any e || Nat.blt e.on j) && (List.range j).all fun i => match l[i]? with
      | none => true
      | some oi => (oj.after.any fun e => Region.binds .any e && Nat.beq e.on i) || oi.apart l.toArray oj

noncomputable def rem (m : Nat) (listed : Array Bool) : List Nat := (List.range m).filter fun i => !listed.getD i true

theorem mem_rem {m : Nat} {listed : Array Bool} {i : Nat} : i ∈ rem m listed ↔ i < m ∧ listed.getD i true = false := by
  simp [rem]
theorem rem_sorted (m : Nat) (listed : Array Bool) : (rem m listed).Pairwise (· < ·) := List.Pairwise.filter _ List.pairwise_lt_range

theorem rem_set {m : Nat} {listed : Array Bool} {i : Nat} {L M : List Nat} (hr : rem m listed = L ++ i :: M) (hi : i < listed.size) : rem m (listed.setIfInBounds i true) = L ++ M := by
  have hnd := rem_sorted m listed
  rw [hr] at hnd
  rw [List.pairwise_append] at hnd
  obtain ⟨h1, h2, h3⟩ := hnd
  rw [List.pairwise_cons] at h2
  have he : rem m (listed.setIfInBounds i true) = (rem m listed).filter fun j => j != i := by
    unfold rem
    rw [List.filter_filter]
    apply List.filter_congr
    intro j _
    by_cases hj : i = j
    · subst hj; simp [hi]
    · rw [getD_set_ne true hj]
      simp [bne_iff_ne, Ne.symm hj]
  rw [he, hr, List.filter_append, List.filter_cons]
  have e1 : L.filter (fun j => j != i) = L := List.filter_eq_self.2 fun x hx => by
    have := h3 x hx i (by simp)
    simp; omega
  have e2 : M.filter (fun j => j != i) = M := List.filter_eq_self.2 fun x hx => by
    have := h2.1 x hx
    simp; omega
  rw [e1, e2]
  simp

theorem quiet_any {w : World} {ops : Array Oper} (hs : Region.noSelect ops = true)
    (hdep : ∀ (j : Nat) (oj : Oper), ops[j]? = some oj → ∀ e ∈ oj.after, Region.binds .any e = true → e.on < j)
    (hap : ∀ (i j : Nat) (oi oj : Oper), i < j → ops[i]? = some oi → ops[j]? = some oj → (∀ e ∈ oj.after, Region.binds .any e = true → e.on ≠ i) → oi.apart ops oj = true) {z : Act} (hQ : Q .normal z w) :
    ∀ (fuel : Nat) (listed : Array Bool) (a : Act), listed.size = ops.size → (rem ops.size listed).length ≤ fuel → YRun P w ops (rem ops.size listed) a z → wpAny P .any ops Q fuel listed a w := by
  have hne : ∀ (listed : Array Bool), listed.size = ops.size → rem ops.size listed ≠ [] → Region.ready .any ops listed ≠ [] := by
    intro listed hls hr he
    cases hrem : rem ops.size listed with
    | nil => exact hr hrem
    | cons i M =>
      have hi : i ∈ rem ops.size listed := by rw [hrem]; simp
      rw [mem_rem] at hi
      have hsort := rem_sorted ops.size listed
      rw [hrem, List.pairwise_cons] at hsort
      have : i ∈ Region.ready .any ops listed := by
        rw [mem_ready]
        refine ⟨hi.2, ops[i], Array.getElem?_eq_getElem hi.1, fun e he hb => ?_⟩
        have hlt := hdep i _ (Array.getElem?_eq_getElem hi.1) e he hb
        cases hl : listed.getD e.on true with
        | true =>
          have hes : e.on < listed.size := by omega
          simp [Array.getD, hes] at hl ⊢
          exact hl
        | false =>
          have hm : e.on ∈ rem ops.size listed := mem_rem.2 ⟨by omega, hl⟩
          rw [hrem] at hm
          rcases List.mem_cons.1 hm with hm | hm
          · omega
          · have := hsort.1 _ hm; omega
      rw [he] at this
      cases this
  intro fuel
  induction fuel with
  | zero =>
    intro listed a hls hlen hr
    have hnil : rem ops.size listed = [] := List.eq_nil_of_length_eq_zero (by omega)
    rw [hnil] at hr
    refine ⟨?_, hr ▸ hQ⟩
    cases hrd : Region.ready .any ops listed with
    | nil => rfl
    | cons i r =>
      have hi : i ∈ Region.ready .any ops listed := by rw [hrd]; simp
      rw [mem_ready] at hi
      obtain ⟨h1, o, ho, _⟩ := hi
      have : i ∈ rem ops.size listed := mem_rem.2 ⟨(Array.getElem?_eq_some_iff.1 ho).1, h1⟩
      rw [hnil] at this
      cases this
  | succ fuel ih =>
    intro listed a hls hlen hr
    refine ⟨fun he => ?_, fun i hi => ?_⟩
    · have hnil : rem ops.size listed = [] := by
        by_cases h : rem ops.size listed = []
        · exact h
        · exact absurd he (hne listed hls h)
      rw [hnil] at hr
      exact hr ▸ hQ
    · rw [mem_ready] at hi
      obtain ⟨hun, o, ho, hall⟩ := hi
      have hilt := (Array.getElem?_eq_some_iff.1 ho).1
      have hmem : i ∈ rem ops.size listed := mem_rem.2 ⟨hilt, hun⟩
      obtain ⟨L, M, hLM⟩ := List.append_of_mem hmem
      have hsort := rem_sorted ops.size listed
      rw [hLM] at hr hsort
      rw [List.pairwise_append] at hsort
      have hfront := YRun.front hs hr fun x hx ox oi hox hoi => by
        have hxi : x < i := hsort.2.2 x hx i (by simp)
        refine hap x i ox oi hxi hox hoi fun e he hb heq => ?_
        have h1 := hall e (by rw [ho] at hoi; injection hoi with hoi; exact hoi ▸ he) hb
        have h2 : x ∈ rem ops.size listed := by rw [hLM]; simp [hx]
        rw [mem_rem] at h2
        rw [heq] at h1
        have hxs : x < listed.size := by omega
        simp [Array.getD, hxs] at h1 h2
        rw [h1] at h2
        cases h2.2
      obtain ⟨o', v, ho', hy, hr'⟩ := hfront
      rw [ho] at ho'
      injection ho' with ho'
      subst ho'
      have hset := rem_set hLM (by omega)
      have hrec := ih (listed.setIfInBounds i true) (a.put o.dst v) (by simpa using hls) (by
        rw [hset]
        rw [hLM] at hlen
        simp at hlen ⊢
        omega) (by rw [hset]; exact hr')
      unfold wpOp
      simp only [ho]
      rcases hy with ⟨hw, hv⟩ | ⟨hw, rfl⟩
      · rw [if_pos hw]
        refine .inl ?_
        simp only [Oper.wp, hv w rfl, Oper.upon]
        exact hrec
      · rw [if_neg (by simp [hw])]
        exact hrec

/-- The world behind a draw. -/
theorem St.drew (st : St c0 h0 n c h bb F a) : St c0 h0 n (c.at { c.w with drawn := c.w.drawn + 1 }) h bb F a := by
  have e : Evo c (c.at { c.w with drawn := c.w.drawn + 1 }) := ⟨fun _ _ _ => rfl, fun _ _ hz => hz, fun _ _ hh => hh, fun _ _ hh => hh, Nat.le_refl _, rfl, rfl, rfl⟩
  exact ⟨⟨st.keep.evo.trans e, st.keep.blk, st.keep.z, st.keep.dom⟩, ⟨st.ok.fin, st.ok.φlt, st.ok.zlt⟩, ⟨fun g r hg => (st.hs.row g r hg).mono e fun b hb => ⟨rfl, fun _ hz => hz⟩, st.hs.inj, st.hs.nxt⟩,
    st.fs.mono e fun b _ _ hn => ⟨rfl, hn, fun _ hz => hz⟩⟩

end

section
variable {P : Program} {M : Mach} {tt : TT} {n : Nat}

theorem rem_start (m : Nat) : rem m (Array.replicate m false) = List.range m := by
  unfold rem
  apply List.filter_eq_self.2
  intro i hi
  have := List.mem_range.1 hi
  simp [this]

/-- A region that changes nothing. -/
theorem DrawP.quiet (hM : Snd P M) (htt : ∀ t, TIok P t (tt t)) (hm : P.follows .mixedOrders = true) {id : Nat} {ops : Array Oper} {F : Fr} {h : H} {Q : Fr → H → Prop} (hq : qreg ops.toList = true) (hk : evOps M tt n ops.toList ops.toList F h Q) : DrawP P n id ops F h Q := by
  simp only [qreg, Bool.and_eq_true, List.all_eq_true, List.mem_range] at hq
  obtain ⟨⟨q1, q2⟩, q3⟩ := hq
  refine ⟨⟨fun c0 h0 a w hg => wp_region_any hm ?_⟩⟩
  obtain ⟨c, bb, rfl, st⟩ := hg.st
  have st := st.drew
  obtain ⟨z, F', hr, st', hk'⟩ := evOps_run (c := c.at { c.w with drawn := c.w.drawn + 1 }) hM htt ops.toList [] rfl q2 st hk
  refine quiet_any (z := z) (by simpa using q1) (fun j oj hj e he hb => ?_) (fun i j oi oj hij hi hj hno => ?_) ⟨.normal, F', h, rfl, st'.good, hk'⟩ _ _ _ (by simp) (by rw [rem_start]; simp) ?_
  · have hjl := (Array.getElem?_eq_some_iff.1 hj).1
    have := q3 j (by simpa using hjl)
    rw [show ops.toList[j]? = some oj by simpa using hj] at this
    simp only [Bool.and_eq_true, Array.all_eq_true_iff_forall_mem] at this
    have := this.1 e he
    simp only [hb, Bool.not_true, Bool.false_or] at this
    exact Nat.le_of_ble_eq_true this
  · have hjl := (Array.getElem?_eq_some_iff.1 hj).1
    have := q3 j (by simpa using hjl)
    rw [show ops.toList[j]? = some oj by simpa using hj] at this
    simp only [Bool.and_eq_true, List.all_eq_true, List.mem_range] at this
    have := this.2 i hij
    rw [show ops.toList[i]? = some oi by simpa using hi] at this
    simp only [Bool.or_eq_true, Array.toArray_toList] at this
    rcases this with this | this
    · obtain ⟨e, he, hb⟩ := Array.any_eq_true'.1 this
      simp only [Bool.and_eq_true] at hb
      exact absurd (beq_of hb.2) (hno e he hb.1)
    · exact this
  · rw [rem_start, List.range_eq_range']
    simpa [Cfg.at] using hr

/-! ### Any order, by walking all of them; what only reckons goes first -/
noncomputable def mem (i : Nat) : List Nat → Bool
  | [] => false
  | j :: r => match Nat.beq j i with
    | true => true
    | false => mem i r
noncomputable def dropN (i : Nat) : List Nat → List Nat
  | [] => []
  | j :: r => match Nat.beq j i with
    | true => r
    | false => j :: dropN i r
noncomputable def readyB (rem : List Nat) (o : Oper) : Bool := o.after.toList.all fun e => !Region.binds .any e || !mem e.on rem
/-- May operation i go ahead of all that are left? -/
noncomputable def freeB (l : List Oper) (rem : List Nat) (i : Nat) (oi : Oper) : Bool :=
  pureB oi.op && rem.all fun j => Nat.beq j i || match l[j]? with
    | none => false
    | some oj => (oj.after.toList.any fun e => Region.binds .any e && Nat.beq e.on i) || oi.apart l.toArray oj
noncomputable def findFree (l : List Oper) (rem : List Nat) : List Nat → Option Nat
  | [] => none
  | i :: r => match l[i]? with
    | none => none
    | some o => match readyB rem o && freeB l rem i o with
      | true => some i
      | false => findFree l rem r
noncomputable def allReady (l : List Oper) (rem : List Nat) (G : Nat → Oper → Prop) : List Nat → Prop
  | [] => True
  | i :: r => match l[i]? with
    | none => False
    | some o => match readyB rem o with
      | true => G i o ∧ allReady l rem G r
      | false => allReady l rem G r
noncomputable def someReady (l : List Oper) (rem : List Nat) : List Nat → Bool
  | [] => false
  | i :: r => match l[i]? with
    | none => false
    | some o => match readyB rem o with
      | true => true
      | false => someReady l rem r
noncomputable def anyE (M : Mach) (tt : TT) (n : Nat) (l : List Oper) : Nat → List Nat → Fr → H → (Fr → H → Prop) → Prop
  | 0, rem, F, h, Q => match rem with
    | [] => Q F h
    | _ => False
  | fuel + 1, rem, F, h, Q => match rem with
    | [] => Q F h
    | _ => match findFree l rem rem with
      | some i => match l[i]? with
        | some o => evG M tt n l o F h fun F h => anyE M tt n l fuel (dropN i rem) F h Q
        | none => False
      | none => match someReady l rem rem with
        | false => False
        | true => allReady l rem (fun i o => evG M tt n l o F h fun F h => anyE M tt n l fuel (dropN i rem) F h Q) rem

theorem mem_iff {i : Nat} {l : List Nat} : mem i l = true ↔ i ∈ l := by
  induction l with
  | nil => simp [mem]
  | cons j r ih =>
    simp only [mem, List.mem_cons]
    split
    · rename_i h; simp [(beq_of h).symm]
    · rename_i h; rw [ih]; simp [(beq_not h).symm]
theorem dropN_split {i : Nat} {L M : List Nat} (h : i ∉ L) : dropN i (L ++ i :: M) = L ++ M := by
  induction L with
  | nil => simp [dropN]
  | cons j L ih =>
    simp at h
    simp only [List.cons_append, dropN, beq_ne (Ne.symm h.1), ih h.2]

theorem readyB_iff {l : List Oper} {listed : Array Bool} {i : Nat} {o : Oper} (hls : listed.size = l.length) (hi : i ∈ rem l.length listed) (ho : l[i]? = some o) (hdep : ∀ e ∈ o.after, Region.binds .any e = true → e.on < l.length) :
    readyB (rem l.length listed) o = true ↔ i ∈ Region.ready .any l.toArray listed := by
  rw [mem_ready]
  simp only [readyB, List.all_eq_true, Bool.or_eq_true, Bool.not_eq_true']
  constructor
  · intro h
    refine ⟨(mem_rem.1 hi).2, o, by simpa using ho, fun e he hb => ?_⟩
    rcases h e (by simpa using he) with h1 | h1
    · rw [hb] at h1; cases h1
    · have hlt := hdep e he hb
      cases hl : listed.getD e.on true with
      | true => have hes : e.on < listed.size := by omega
                simp [Array.getD, hes] at hl ⊢; exact hl
      | false =>
        have := mem_iff.2 (mem_rem.2 ⟨hlt, hl⟩)
        rw [h1] at this; cases this
  · rintro ⟨_, o', ho', hall⟩ e he
    have : o' = o := by
      have : l[i]? = some o' := by simpa using ho'
      rw [ho] at this; injection this with this; exact this.symm
    subst this
    cases hb : Region.binds .any e with
    | false => exact .inl rfl
    | true =>
      right
      cases hm : mem e.on (rem l.length listed) with
      | false => rfl
      | true =>
        have h1 := (mem_rem.1 (mem_iff.1 hm))
        have h2 := hall e (by simpa using he) hb
        have hes : e.on < listed.size := by omega
        simp [Array.getD, hes] at h1 h2
        rw [h2] at h1; cases h1.2

theorem findFree_spec {l : List Oper} {rm : List Nat} : ∀ {r : List Nat} {i : Nat}, findFree l rm r = some i → i ∈ r ∧ ∃ o, l[i]? = some o ∧ readyB rm o = true ∧ freeB l rm i o = true := by
  intro r
  induction r with
  | nil => intro i h; cases h
  | cons j r ih =>
    intro i h
    simp only [findFree] at h
    split at h
    · cases h
    · rename_i o ho
      split at h
      · rename_i hb
        injection h with h
        subst h
        simp only [Bool.and_eq_true] at hb
        exact ⟨by simp, o, ho, hb.1, hb.2⟩
      · obtain ⟨h1, h2⟩ := ih h
        exact ⟨List.mem_cons_of_mem _ h1, h2⟩
theorem allReady_spec {l : List Oper} {rm : List Nat} {G : Nat → Oper → Prop} : ∀ {r : List Nat}, allReady l rm G r → ∀ i ∈ r, ∀ o, l[i]? = some o → readyB rm o = true → G i o := by
  intro r
  induction r with
  | nil => intro _ i hi; cases hi
  | cons j r ih =>
    intro h i hi o ho hb
    simp only [allReady] at h
    split at h
    · exact h.elim
    · rename_i oj hoj
      rcases List.mem_cons.1 hi with e | hi
      · subst e
        rw [ho] at hoj
        injection hoj with hoj
        subst hoj
        rw [hb] at h
        exact h.1
      · split at h
        · exact ih h.2 i hi o ho hb
        · exact ih h i hi o ho hb
theorem someReady_spec {l : List Oper} {rm : List Nat} : ∀ {r : List Nat}, someReady l rm r = true → ∃ i ∈ r, ∃ o, l[i]? = some o ∧ readyB rm o = true := by
  intro r
  induction r with
  | nil => intro h; cases h
  | cons j r ih =>
    intro h
    simp only [someReady] at h
    split at h
    · cases h
    · rename_i o ho
      split at h
      · rename_i hb; exact ⟨j, by simp, o, ho, hb⟩
      · obtain ⟨i, h1, h2⟩ := ih h
        exact ⟨i, List.mem_cons_of_mem _ h1, h2⟩

/-- All edges lead to operations of the region; none is a select. -/
noncomputable def soundReg (l : List Oper) : Bool := Region.noSelect l.toArray && l.all fun o => o.after.toList.all fun e => !Region.binds .any e || Nat.blt e.on l.length

theorem anyE_ok (hM : Snd P M) (htt : ∀ t, TIok P t (tt t)) {l : List Oper} (hsr : soundReg l = true) {c0 : Cfg} {h0 : H} {Q : Fr → H → Prop} : ∀ (fuel : Nat) (listed : Array Bool) {c : Cfg} {h : H} {bb : Nat → Nat} {F : Fr} {a : Act}, listed.size = l.length →
    St c0 h0 n c h bb F a → anyE M tt n l fuel (rem l.length listed) F h Q →
    wpAny P .any l.toArray (fun e a' w' => ∃ ex F' h', exOf ex = e ∧ Good c0 h0 n F' h' a' w' ∧ (match ex with | .normal => Q F' h' | _ => False)) fuel listed a c.w := by
  simp only [soundReg, Bool.and_eq_true, List.all_eq_true] at hsr
  obtain ⟨hsel, hdep⟩ := hsr
  have hdep : ∀ (i : Nat) (o : Oper), l[i]? = some o → ∀ e ∈ o.after, Region.binds .any e = true → e.on < l.length := fun i o ho e he hb => by
    have := hdep o (List.mem_of_getElem? ho) e (by simpa using he)
    simp only [hb, Bool.not_true, Bool.false_or] at this
    exact Nat.le_of_ble_eq_true this
  have hsub : ∀ (listed : Array Bool) (i : Nat), i ∈ Region.ready .any l.toArray listed → i ∈ rem l.length listed ∧ ∃ o, l[i]? = some o := fun listed i hi => by
    rw [mem_ready] at hi
    obtain ⟨h1, o, ho, _⟩ := hi
    have ho' : l[i]? = some o := by simpa using ho
    exact ⟨mem_rem.2 ⟨(List.getElem?_eq_some_iff.1 ho').1, h1⟩, o, ho'⟩
  have hnil : ∀ (listed : Array Bool), rem l.length listed = [] → Region.ready .any l.toArray listed = [] := fun listed he => by
    cases hrd : Region.ready .any l.toArray listed with
    | nil => rfl
    | cons i r =>
      have := (hsub listed i (by rw [hrd]; simp)).1
      rw [he] at this; cases this
  have hdrop : ∀ (listed : Array Bool) (i : Nat), listed.size = l.length → i ∈ rem l.length listed → dropN i (rem l.length listed) = rem l.length (listed.setIfInBounds i true) := fun listed i hls hi => by
    obtain ⟨L, M, hLM⟩ := List.append_of_mem hi
    have hsort := rem_sorted l.length listed
    rw [hLM, List.pairwise_append] at hsort
    rw [rem_set hLM (by have := (mem_rem.1 hi).1; omega), hLM, dropN_split]
    intro hL
    have := hsort.2.2 i hL i (by simp)
    omega
  intro fuel
  induction fuel with
  | zero =>
    intro listed c h bb F a hls st hk
    simp only [anyE] at hk
    split at hk
    · rename_i he
      exact ⟨hnil listed he, .normal, F, h, rfl, st.good, hk⟩
    · exact hk.elim
  | succ fuel ih =>
    intro listed c h bb F a hls st hk
    simp only [anyE] at hk
    split at hk
    · rename_i he
      exact ⟨fun _ => ⟨.normal, F, h, rfl, st.good, hk⟩, fun i hi => by rw [hnil listed he] at hi; cases hi⟩
    · split at hk
      · rename_i i hf
        obtain ⟨hi, o, ho, hrb, hfb⟩ := findFree_spec hf
        rw [ho] at hk
        simp only [freeB, Bool.and_eq_true, List.all_eq_true, Bool.or_eq_true] at hfb
        obtain ⟨hpure, hfree⟩ := hfb
        obtain ⟨v, F', hy, st', hk'⟩ := evG_W l (fun st hk => evOp_pure hM htt hpure st hk) st hk
        rw [hdrop listed i hls hi] at hk'
        have hrec := ih (listed.setIfInBounds i true) (by simpa using hls) st' hk'
        have hready := (readyB_iff hls hi ho (hdep i o ho)).1 hrb
        refine wpAny_first (by simpa using ho) (fun j oj cs b hj => Region.noSelect_spec hsel j oj cs b hj) (fun c' a' w' hq => ?_) fuel listed a c.w (fun j oj hj hji hun hno => ?_) hready ?_ hrec
        · obtain ⟨ex, F', h', h1, _, h3⟩ := hq
          cases ex <;> first | cases h1 | exact h3.elim
        · have hj' : l[j]? = some oj := by simpa using hj
          have hjm : j ∈ rem l.length listed := mem_rem.2 ⟨(List.getElem?_eq_some_iff.1 hj').1, hun⟩
          rcases hfree j hjm with h1 | h1
          · exact absurd (beq_of h1) hji
          · rw [hj'] at h1
            simp only [Bool.or_eq_true] at h1
            rcases h1 with h1 | h1
            · obtain ⟨e, he, hb⟩ := List.any_eq_true.1 h1
              simp only [Bool.and_eq_true] at hb
              exact absurd (beq_of hb.2) (hno e (by simpa using he) hb.1)
            · exact h1
        · rcases hy with ⟨h1, h2⟩ | h1
          · exact .inl ⟨h1, fun w => h2 w trivial⟩
          · exact .inr h1
      · split at hk
        · exact hk.elim
        · rename_i hsome
          obtain ⟨i0, hi0, o0, ho0, hr0⟩ := someReady_spec hsome
          refine ⟨fun he => ?_, fun i hi => ?_⟩
          · have := (readyB_iff hls hi0 ho0 (hdep i0 o0 ho0)).1 hr0
            rw [he] at this; cases this
          · obtain ⟨him, o, ho⟩ := hsub listed i hi
            have hg := allReady_spec hk i him o ho ((readyB_iff hls him ho (hdep i o ho)).2 hi)
            have := evG_ok (Q := fun e a' w' => ∃ ex F' h', exOf ex = e ∧ Good c0 h0 n F' h' a' w' ∧ (match ex with | .normal => Q F' h' | _ => False)) hM htt l st hg (next := fun a' w' => wpAny P .any l.toArray _ fuel (listed.setIfInBounds i true) a' w') fun c' h' bb' F' a' st' hk' => by
              rw [hdrop listed i hls him] at hk'
              exact ih (listed.setIfInBounds i true) (by simpa using hls) st' hk'
            unfold wpOp
            rw [show l.toArray[i]? = some o by simpa using ho]
            simp only
            split
            · rename_i hw; rw [if_pos hw] at this; exact .inl this
            · rename_i hw; rw [if_neg hw] at this; exact this

theorem DrawP.any (hM : Snd P M) (htt : ∀ t, TIok P t (tt t)) (hm : P.follows .mixedOrders = true) {id : Nat} {ops : Array Oper} {F : Fr} {h : H} {Q : Fr → H → Prop} (hq : soundReg ops.toList = true) (hk : anyE M tt n ops.toList ops.toList.length (List.range ops.toList.length) F h Q) : DrawP P n id ops F h Q := by
  refine ⟨⟨fun c0 h0 a w hg => wp_region_any hm ?_⟩⟩
  obtain ⟨c, bb, rfl, st⟩ := hg.st
  have st := st.drew
  rw [← rem_start] at hk
  have := anyE_ok hM htt hq (c := c.at { c.w with drawn := c.w.drawn + 1 }) ops.toList.length (Array.replicate ops.toList.length false) (by simp) st hk
  simp only [Array.toArray_toList, Array.length_toList] at this
  exact this

end
end Go.AM
