/- Soundness, 7: boxes. -/
import Derived.Test.YtjneljpbkjhlmaaGreatDoorAmB
import Derived.Laws.CopyRow
import Derived.Deep.AppendSrc
set_option linter.unusedVariables false
set_option linter.unusedSimpArgs false
set_option linter.unnecessarySimpa false
set_option linter.unusedSectionVars false
set_option linter.unusedVariables false
set_option linter.unusedSimpArgs false
namespace Go.AM
open Go

section
variable {P : Program} {M : Mach} {tt : TT} {c0 : Cfg} {h0 : H} {n : Nat} {c : Cfg} {h : H} {bb : Nat → Nat} {F : Fr} {a : Act} {o : Oper} {next : Act → World → Prop} {Q : Exit → Act → World → Prop} {K : Fr → H → Prop}

/-- The configuration with another world. -/
def Cfg.at (c : Cfg) (w : World) : Cfg := { c with w := w }

theorem cell_lt {w : World} {b o : Nat} {x : Value} (hx : w.cell? ⟨b, o, none⟩ = some x) : b < w.heap.size := by
  unfold World.cell? at hx
  split at hx
  · rename_i h; exact (Array.getElem?_eq_some_iff.1 h).1
  · cases hx

theorem heap_alloc (w : World) (o : Obj) (b : Nat) (hb : b < w.heap.size) : (w.alloc o).heap[b]? = w.heap[b]? := heap_alloc_old w o b hb

theorem evo_alloc (ok : CfgOk c) (ob : Obj) : Evo c (c.at (c.w.alloc ob)) := by
  refine ⟨fun b o hz => ?_, fun _ _ h => h, fun _ _ h => h, fun b s hs => ?_, ?_, rfl, rfl, rfl⟩
  · exact World.cell?_of_block (w := c.w) (w' := c.w.alloc ob) (a := ⟨b, o, none⟩) (heap_alloc _ _ _ (ok.zlt b o hz))
  · have hb : b < c.w.heap.size := by
      unfold World.shape? at hs
      split at hs
      · rename_i h; exact (Array.getElem?_eq_some_iff.1 h).1
      · cases hs
    show (c.w.alloc ob).shape? b = some s
    unfold World.shape? at hs ⊢
    rw [heap_alloc _ _ _ hb]; exact hs
  · show c.w.heap.size ≤ (c.w.alloc ob).heap.size
    simp

theorem RowOk.mono {c c' : Cfg} {g : Nat} {r : GRow} (hr : RowOk c g r) (e : Evo c c') (hb : ∀ b, c.φ g = some (some b) → c'.w.heap[b]? = c.w.heap[b]? ∧ ∀ o, c'.Z b o → c.Z b o) : RowOk c' g r := by
  obtain ⟨h0, b, ents, clk, h1, h2, h3, h3m, h4, h5⟩ | ⟨h0, ⟨h1, h2⟩ | ⟨b, arr, t, cap, h1, h2, h3, h4, h5, h6, h7, h8, h9⟩⟩ := hr
  · obtain ⟨k1, k2⟩ := hb b h1
    exact .inl ⟨h0, b, ents, clk, e.φ _ _ h1, k1.trans h2, h3, h3m, fun o hz => h4 o (k2 o hz), fun i cs hi => by
      obtain ⟨k, v, en, q1, q2, q3, q4⟩ := h5 i cs hi
      exact ⟨k, v, en, q1, q2, q3.mono e, q4.mono e⟩⟩
  · exact .inr ⟨h0, .inl ⟨e.φ _ _ h1, h2⟩⟩
  · obtain ⟨k1, k2⟩ := hb b h1
    exact .inr ⟨h0, .inr ⟨b, arr, t, cap, e.φ _ _ h1, k1.trans h2, h3, h4, h5, h6, fun i cs j v hi hj => (h7 i cs j v hi hj).imp_right fun ⟨x, hx, hv⟩ => ⟨x, hx, hv.mono e⟩, fun o hz => h8 o (k2 o hz), h9⟩⟩

theorem HSim.alloc (hs : HSim c h) (ok : CfgOk c) (ob : Obj) : HSim (c.at (c.w.alloc ob)) h :=
  ⟨fun g r hg => (hs.row g r hg).mono (evo_alloc ok ob) fun b hb => ⟨heap_alloc _ _ _ (ok.φlt g b hb), fun _ hz => hz⟩, fun g g' r r' b h1 h2 h3 h4 => hs.inj g g' r r' b h1 h2 h3 h4, hs.nxt⟩

theorem CfgOk.alloc (ok : CfgOk c) (ob : Obj) : CfgOk (c.at (c.w.alloc ob)) :=
  ⟨ok.fin, fun g b hb => Nat.lt_of_lt_of_le (ok.φlt g b hb) (evo_alloc ok ob).size, fun b o hz => Nat.lt_of_lt_of_le (ok.zlt b o hz) (evo_alloc ok ob).size⟩

theorem Keep.alloc (ok : CfgOk c) (ob : Obj) : Keep c h (c.at (c.w.alloc ob)) h :=
  ⟨evo_alloc ok ob, fun b hb _ => heap_alloc _ _ _ hb, fun _ _ _ _ hz => hz, fun _ _ h => h⟩

theorem St.alloc (st : St c0 h0 n c h bb F a) (ob : Obj) : St c0 h0 n (c.at (c.w.alloc ob)) h bb F a :=
  ⟨st.keep.trans (Keep.alloc st.ok ob), st.ok.alloc ob, st.hs.alloc st.ok ob, st.fs.keep (Keep.alloc st.ok ob)⟩

theorem noRef_at {d : Nat} {F : Fr} (h : noRef d F = true) : ∀ (k off : Nat), look F k ≠ .lptr d off := by
  induction F with
  | nil => intro k off; simp [look]
  | cons x r ih =>
    obtain ⟨k', v⟩ := x
    intro k off
    have hr : noRef d r = true := by
      simp only [noRef] at h
      split at h
      · split at h
        · cases h
        · exact h
      · exact h
    simp only [look]
    split
    · intro he
      subst he
      simp [noRef] at h
    · exact ih hr k off

/-- A slot becomes a box. -/
theorem FSim.setBox {base : Nat} (hF : FSim base n c h bb F a) {d : Nat} (hd : d < n) (hr : noRef d F = true) {cs : List V} {xs : List Value} (hc : cellL cs = true) (hx : RVs c cs xs)
    {b : Nat} {t : TypeId} (hb : c.w.heap[b]? = some (.cells xs.toArray t (0, 0))) (hbase : base ≤ b) (hn : ¬ Blk c h b) (hz : ∀ o, ¬ c.Z b o) (hnew : ∀ k fr cs, look F k = .box fr cs → bb k ≠ b) :
    FSim base n c h (fun k => if k = d then b else bb k) (setF F d (.box false cs)) { a with tmps := a.tmps.setIfInBounds d (.pointer (some ⟨b, 0, none⟩)) } := by
  refine ⟨by simp [hF.size], hF.defers, fun k hk => ?_, fun k hk => ?_, fun k k' fr cs1 fr' cs1' h1 h2 => ?_⟩
  · by_cases hkd : k = d
    · subst hkd
      rw [look_setF_same]
      have : (a.tmps.setIfInBounds k (.pointer (some ⟨b, 0, none⟩))).getD k undef = .pointer (some ⟨b, 0, none⟩) := by simp [Array.getD, hF.size, hk]
      rw [this]
      simp only [SlotOk, if_true]
      refine ⟨trivial, hbase, hn, xs.toArray, t, hb, by simpa using hx.len.symm, hc, fun j v hj => ?_, hz⟩
      have hlt : j < xs.length := by
        have := (List.getElem?_eq_some_iff.1 hj).1
        have := hx.len
        omega
      exact ⟨xs[j], by simp [hlt], hx.at_ j v _ hj (List.getElem?_eq_getElem hlt)⟩
    · rw [look_setF_ne _ _ _ _ hkd]
      have : (a.tmps.setIfInBounds d (.pointer (some ⟨b, 0, none⟩))).getD k undef = a.tmps.getD k undef := by
        simp only [Array.getD_eq_getD_getElem?, Array.getElem?_setIfInBounds]
        rw [if_neg (fun e => hkd e.symm)]
      rw [this]
      have hs := hF.slot k hk
      have hnr := noRef_at hr k
      cases hl : look F k with
      | box fr cs2 =>
        rw [hl] at hs
        simp only [SlotOk, hkd, if_false] at hs ⊢
        exact hs
      | lptr k' off =>
        rw [hl] at hs
        intro fr cs2 hl2
        have hne : k' ≠ d := fun e => hnr off (e ▸ hl)
        rw [look_setF_ne _ _ _ _ hne] at hl2
        simp only [hne, if_false]
        exact hs fr cs2 hl2
      | _ => rw [hl] at hs; exact hs
  · rw [look_setF_ne _ _ _ _ (by omega)]
    exact hF.high k hk
  · by_cases hk : k = d <;> by_cases hk' : k' = d
    · omega
    · rw [look_setF_ne _ _ _ _ hk'] at h2
      intro he
      simp only [hk, hk', if_true, if_false] at he
      exact absurd he.symm (hnew k' _ _ h2)
    · rw [look_setF_ne _ _ _ _ hk] at h1
      intro he
      simp only [hk, hk', if_true, if_false] at he
      exact absurd he (hnew k _ _ h1)
    · rw [look_setF_ne _ _ _ _ hk] at h1
      rw [look_setF_ne _ _ _ _ hk'] at h2
      intro he
      simp only [hk, hk', if_false] at he
      exact hF.inj k k' _ _ _ _ h1 h2 he

theorem box_lt (hF : FSim c0.w.heap.size n c h bb F a) {k : Nat} {fr : Bool} {cs : List V} (hl : look F k = .box fr cs) : bb k < c.w.heap.size ∧ ¬ Blk c h (bb k) ∧ c0.w.heap.size ≤ bb k := by
  have hk : k < n := by
    rcases Nat.lt_or_ge k n with h | h
    · exact h
    · rw [hF.high k h] at hl; cases hl
  have hs := hF.slot k hk
  rw [hl] at hs
  obtain ⟨_, h2, h3, arr, e, h4, _⟩ := hs
  exact ⟨(Array.getElem?_eq_some_iff.1 h4).1, h3, h2⟩

/-- A new box at slot dst, its cells xs. -/
theorem putBox_done {cs : List V} {xs : List Value} {t : TypeId} (st : St c0 h0 n c h bb F a) (hx : RVs c cs xs)
    (hr : (execOp a.eval o).run P c.w = .ok (.value (.pointer (some ⟨c.w.heap.size, 0, none⟩))) (c.w.alloc (.cells xs.toArray t))) (hk : putBox n F o.dst cs fun F => K F h) (hn : Goes c0 h0 n K next) : o.wp P a c.w next Q := by
  unfold putBox at hk
  split at hk
  · exact hk.elim
  · rename_i d hd
    split at hk
    case h_2 => exact hk.elim
    rename_i hle
    have hdn : d < n := Nat.le_of_ble_eq_true hle
    split at hk
    case h_2 => exact hk.elim
    rename_i hnr
    split at hk
    case h_2 => exact hk.elim
    rename_i hcl
    rw [forceL_eq, setK_eq] at hk
    have st' := st.alloc (.cells xs.toArray t)
    refine wp_value hr ?_
    rw [hd]
    refine hn (c.at (c.w.alloc (.cells xs.toArray t))) h (fun k => if k = d then c.w.heap.size else bb k) _ _ ⟨st'.keep, st'.ok, st'.hs, ?_⟩ hk
    refine st'.fs.setBox hdn hnr hcl (hx.mono (evo_alloc st.ok _)) (b := c.w.heap.size) (t := t) (heap_alloc_new _ _) st.keep.evo.size ?_ ?_ ?_
    · rintro ⟨g, r, hg, hφ⟩
      exact absurd (st.ok.φlt g _ hφ) (Nat.lt_irrefl _)
    · intro o' hz
      exact absurd (st.ok.zlt _ _ hz) (Nat.lt_irrefl _)
    · intro k fr cs2 hl he
      have := (box_lt st.fs hl).1
      omega

theorem RVs.cvs {c : Cfg} (xs : List Value) {z : List V} (hz : xs.map cv = z) : RVs c z xs := by
  subst hz
  refine ⟨by simp, fun i v x h1 h2 => ?_⟩
  simp [h2] at h1
  subst h1
  exact cv_RV c x

theorem ok_alloc {e : TypeId} (htt : ∀ t, TIok P t (tt t)) (ho : o.op = .alloc e) (st : St c0 h0 n c h bb F a) (hk : evOp0 M tt n o F h K) (hn : Goes c0 h0 n K next) : o.wp P a c.w next Q := by
  simp only [evOp0, ho, opPick, opBuild, opLoad, opNilCheck, opBinOp, opConvert, opSlice, opFieldAddr, opIndexAddr, opIndex, opExtract, opAlloc, opBox, opStore, opBuildSlice, opMakeFunc] at hk
  have ht := htt e
  have run : ∀ {zv : Value} {i : TypeInfo}, P.info? e = some i → i.zero = some zv → (execOp a.eval o).run P c.w = .ok (.value (.pointer (some ⟨c.w.heap.size, 0, none⟩))) (c.w.alloc (.cells zv.cells.toList.toArray e)) := fun h1 h2 => by
    simp [execOp, ho, Instr.alloc, zeroValue, typeInfo, h1, h2, newVar, newRow]
  split at hk
  · rename_i z hz
    rw [hz] at ht
    obtain ⟨_, i, zv, h1, h2, h3, h4, h5⟩ := ht
    have hc : zv.cells = #[zv] := cell1_cells (c := c) h5 (h4 ▸ cv_RV c zv)
    have hr := run h1 h3
    rw [hc] at hr
    exact putBox_done st (RVs.cvs [zv] (by simp [h4])) hr hk hn
  · rename_i z hz
    rw [hz] at ht
    obtain ⟨fs, hu, hoff, i, xs, h1, h2, h3, h4, h5⟩ := ht
    exact putBox_done st (RVs.cvs xs.toList h4) (run h1 h3) hk hn
  · rename_i z hz
    rw [hz] at ht
    obtain ⟨fs, hu, hoff, i, xs, h1, h2, h3, h4, h5⟩ := ht
    exact putBox_done st (RVs.cvs xs.toList h4) (run h1 h3) hk hn
  · rename_i hz
    rw [hz] at ht
    obtain ⟨fs, hu, ⟨i, h1, h2, h3⟩, _⟩ := ht
    exact putBox_done st (RVs.cons .nils (RVs.nil c)) (run h1 h3) hk hn
  · rename_i hz
    rw [hz] at ht
    obtain ⟨_, i, h1, h2, h3⟩ := ht
    exact putBox_done st (RVs.cons .nilp (RVs.nil c)) (run h1 h3) hk hn
  · rename_i hz
    rw [hz] at ht
    obtain ⟨_, _, _, ⟨i, h1, h2, h3⟩, _⟩ := ht
    exact putBox_done st (RVs.cons .nilm (RVs.nil c)) (run h1 h3) hk hn
  · exact hk.elim
  · exact hk.elim

theorem ok_box {e : TypeId} {x : Operand} (htt : ∀ t, TIok P t (tt t)) (ho : o.op = .box e x) (st : St c0 h0 n c h bb F a) (hk : evOp0 M tt n o F h K) (hn : Goes c0 h0 n K next) : o.wp P a c.w next Q := by
  simp only [evOp0, ho, opPick, opBuild, opLoad, opNilCheck, opBinOp, opConvert, opSlice, opFieldAddr, opIndexAddr, opIndex, opExtract, opAlloc, opBox, opStore, opBuildSlice, opMakeFunc] at hk
  have run : (execOp a.eval o).run P c.w = .ok (.value (.pointer (some ⟨c.w.heap.size, 0, none⟩))) (c.w.alloc (.cells (a.eval x).cells.toList.toArray e)) := by
    simp [execOp, ho, Instr.box, newVar, newRow]
  have agg : ∀ {cs : List V}, ev F x = .agg cs → putBox n F o.dst cs (fun F => K F h) → o.wp P a c.w next Q := fun he hk => by
    have hx := (evo st he).rv (by simp)
    generalize hxv : a.eval x = xv at hx run
    cases hx with
    | agg cs xs hl hr => exact putBox_done st ⟨hl, hr⟩ (by simpa [Value.cells] using run) hk hn
  have one : (force (ev F x) fun v => putBox n F o.dst [v] fun F => K F h) → o.wp P a c.w next Q := fun hk => by
    rw [force_eq] at hk
    have hk2 := hk
    unfold putBox at hk2
    split at hk2
    · exact hk2.elim
    split at hk2
    case h_2 => exact hk2.elim
    split at hk2
    case h_2 => exact hk2.elim
    split at hk2
    case h_2 => exact hk2.elim
    rename_i hcl
    have h1 : cell1 (ev F x) = true := cellL_at hcl 0 _ rfl
    have hx := (ev_ok st.fs x).rv (fun k off he => by rw [he] at h1; cases h1)
    rw [cell1_cells h1 hx] at run
    exact putBox_done st (RVs.cons hx (RVs.nil c)) run hk hn
  split at hk
  · split at hk
    case h_2 => exact hk.elim
    rename_i cs he
    split at hk
    · exact agg he hk
    · exact hk.elim
  · split at hk
    case h_2 => exact hk.elim
    rename_i cs he
    split at hk
    · exact agg he hk
    · exact hk.elim
  · exact hk.elim
  · exact one hk

end
end Go.AM
/- Soundness, 8: stores. -/
set_option linter.unusedVariables false
set_option linter.unusedSimpArgs false
namespace Go.AM
open Go

section
variable {P : Program} {M : Mach} {tt : TT} {c0 : Cfg} {h0 : H} {n : Nat} {c : Cfg} {h : H} {bb : Nat → Nat} {F : Fr} {a : Act} {o : Oper} {next : Act → World → Prop} {Q : Exit → Act → World → Prop} {K : Fr → H → Prop}

theorem setRow_at (w : World) (b : Nat) (arr arr' : Array Value) (t : TypeId) (fr : Nat × Nat) (hb : w.heap[b]? = some (.cells arr t fr)) : (w.setRow b arr').heap[b]? = some (.cells arr' t fr) := by
  simp [World.setRow, Array.getElem?_modify, hb]
theorem setRow_ne (w : World) (b b' : Nat) (arr' : Array Value) (h : b' ≠ b) : (w.setRow b arr').heap[b']? = w.heap[b']? := by
  simp [World.setRow, Array.getElem?_modify, h.symm]
theorem setRow_size (w : World) (b : Nat) (arr' : Array Value) : (w.setRow b arr').heap.size = w.heap.size := by simp [World.setRow]

theorem evo_setRow {b : Nat} {arr arr' : Array Value} {t : TypeId} (hb : c.w.heap[b]? = some (.cells arr t (0, 0))) (hs : arr'.size = arr.size) (hz : ∀ o, c.Z b o → arr'[o]? = arr[o]?) : Evo c (c.at (c.w.setRow b arr')) := by
  refine ⟨fun b' o hz' => ?_, fun _ _ h => h, fun _ _ h => h, fun b' s hs' => ?_, ?_, rfl, rfl, rfl⟩
  · by_cases he : b' = b
    · subst he
      show (c.w.setRow b' arr').cell? _ = _
      simp [World.cell?, setRow_at _ _ _ arr' _ _ hb, hb, hz o hz']
    · exact World.cell?_of_block (w := c.w) (w' := c.w.setRow b arr') (a := ⟨b', o, none⟩) (setRow_ne _ _ _ _ he)
  · by_cases he : b' = b
    · subst he
      show (c.w.setRow b' arr').shape? b' = some s
      simp only [World.shape?, hb] at hs'
      simp only [World.shape?, setRow_at _ _ _ arr' _ _ hb, hs]
      exact hs'
    · show (c.w.setRow b arr').shape? b' = some s
      simp only [World.shape?] at hs' ⊢
      rw [setRow_ne _ _ _ _ he]; exact hs'
  · show c.w.heap.size ≤ (c.w.setRow b arr').heap.size
    rw [setRow_size]; exact Nat.le_refl _

theorem CfgOk.setRow (ok : CfgOk c) (b : Nat) (arr' : Array Value) : CfgOk (c.at (c.w.setRow b arr')) :=
  ⟨ok.fin, fun g b' hb => by show b' < (c.w.setRow b arr').heap.size; rw [setRow_size]; exact ok.φlt g b' hb, fun b' o hz => by show b' < (c.w.setRow b arr').heap.size; rw [setRow_size]; exact ok.zlt b' o hz⟩

/-- A piece of memory is written: what the machine's 'splice' says. -/
theorem splice_get (l : List V) : ∀ (off : Nat) (cs : List V) (j : Nat), (splice l off cs)[j]? = if off ≤ j ∧ j < off + cs.length ∧ j < l.length then cs[j - off]? else l[j]? := by
  induction l with
  | nil => intro off cs j; cases cs <;> simp [splice]
  | cons x r ih =>
    intro off cs j
    cases cs with
    | nil => simp [splice]; intro h1 h2; omega
    | cons c cs =>
      cases off with
      | zero =>
        cases j with
        | zero => simp [splice]
        | succ j =>
          simp only [splice, List.getElem?_cons_succ, ih]
          simp
      | succ off =>
        cases j with
        | zero => simp [splice]
        | succ j =>
          simp only [splice, List.getElem?_cons_succ, ih]
          simp
          by_cases h1 : off ≤ j ∧ j < off + (cs.length + 1) ∧ j < r.length
          · rw [if_pos h1, if_pos (by omega)]
          · rw [if_neg h1, if_neg (by omega)]

/-- The written array. -/
def wr (arr : Array Value) (o : Nat) (xs : List Value) : Array Value := (arr.toList.take o ++ xs ++ arr.toList.drop (o + xs.length)).toArray
theorem wr_size {arr : Array Value} {o : Nat} {xs : List Value} (h : o + xs.length ≤ arr.size) : (wr arr o xs).size = arr.size := by simp [wr]; omega
theorem wr_get {arr : Array Value} {o : Nat} {xs : List Value} (h : o + xs.length ≤ arr.size) (j : Nat) : (wr arr o xs)[j]? = if o ≤ j ∧ j < o + xs.length then xs[j - o]? else arr[j]? := by
  simp only [wr, List.getElem?_toArray]
  rw [List.append_assoc, List.getElem?_append]
  have hl : (arr.toList.take o).length = o := by simp; omega
  rw [hl]
  by_cases h1 : j < o
  · rw [if_pos h1, if_neg (by omega), List.getElem?_take, if_pos h1, Array.getElem?_toList]
  · rw [if_neg h1, List.getElem?_append]
    by_cases h2 : j - o < xs.length
    · rw [if_pos h2, if_pos (by omega)]
    · rw [if_neg h2, if_neg (by omega), List.getElem?_drop, Array.getElem?_toList]
      congr 1; omega

theorem run_storeVar' {t : TypeId} {i : TypeInfo} {b off : Nat} {xv : Value} {arr : Array Value} {e : TypeId} (w : World) (hi : P.info? t = some i) (hs : i.size = xv.cells.size) (hb : w.heap[b]? = some (.cells arr e (0, 0)))
    (hl : off + xv.cells.size ≤ arr.size) (h1 : ∀ x ∈ xv.cells.toList, x.oneCell' = true) : (storeVar t ⟨b, off, none⟩ xv).run P w = .ok () (w.setRow b (wr arr off xv.cells.toList)) := by
  have h2 := run_storeCells_at P b off e xv.cells.toList 0 arr w hb (by simpa using hl) h1
  simp [storeVar, sizeOf, typeInfo, hi, hs, h2, wr]

theorem ok_store_box {t : TypeId} {x y : Operand} {k off : Nat} {cs : List V} {i : TypeInfo} (ho : o.op = .store t x y) (st : St c0 h0 n c h bb F a) (he : ev F x = .lptr k off) (hl : look F k = .box false cs)
    (hc : cellL (cellsOf (ev F y)) = true) (hle : off + (cellsOf (ev F y)).length ≤ cs.length) (hi : P.info? t = some i) (hs : i.size = (cellsOf (ev F y)).length)
    (hdst : o.dst = none) (hk : K (setF F k (.box false (splice cs off (cellsOf (ev F y))))) h) (hn : Goes c0 h0 n K next) : o.wp P a c.w next Q := by
  have hx := (evo st he) _ _ hl
  have hy0 := ev_ok st.fs y
  have hy : RV c (ev F y) (a.eval y) := hy0.rv (fun k off e => by rw [e] at hc; simp [cellsOf, cellL, cell1] at hc)
  have hcy := cellsOf_ok hy hc
  have hk' : k < n := (box_cells st hl).2
  have hsl := st.fs.slot k hk'
  rw [hl] at hsl
  obtain ⟨s1, s2, s3, arr, e, s4, s5, s6, s7, s8⟩ := hsl
  have s8 : ∀ o, ¬ c.Z (bb k) o := by simpa using s8
  have hxs : (a.eval y).cells.size = (cellsOf (ev F y)).length := by rw [hcy.len]; simp
  have hfit : off + (a.eval y).cells.toList.length ≤ arr.size := by simp only [Array.length_toList]; omega
  have hrun := run_storeVar' (P := P) c.w hi (by omega) s4 (by omega) (cells_one hcy hc)
  refine wp_skip' (w' := c.w.setRow (bb k) (wr arr off (a.eval y).cells.toList)) (by simp [execOp, ho, hx, Instr.storeAt, Instr.sureAddr, hrun]) ?_
  have ev := evo_setRow (c := c) s4 (wr_size hfit) (fun o hz => absurd hz (s8 o))
  have hkeep : Keep c0 h0 (c.at (c.w.setRow (bb k) (wr arr off (a.eval y).cells.toList))) h := by
    refine ⟨st.keep.evo.trans ev, fun b hb hnb => ?_, fun b o hb hnb hz => st.keep.z b o hb hnb hz, fun b hb hd => st.keep.dom b hb hd⟩
    have hne : b ≠ bb k := by omega
    exact (setRow_ne _ _ _ _ hne).trans (st.keep.blk b hb hnb)
  have hhs : HSim (c.at (c.w.setRow (bb k) (wr arr off (a.eval y).cells.toList))) h :=
    ⟨fun g r hg => (st.hs.row g r hg).mono ev fun b hb => ⟨setRow_ne _ _ _ _ (fun e => s3 ⟨g, r, hg, e ▸ hb⟩), fun _ hz => hz⟩, st.hs.inj, st.hs.nxt⟩
  rw [hdst]
  refine hn (c.at (c.w.setRow (bb k) (wr arr off (a.eval y).cells.toList))) h bb _ _ ⟨hkeep, st.ok.setRow _ _, hhs, ?_⟩ hk
  have hlook : ∀ k', look (setF F k (.box false (splice cs off (cellsOf (Go.AM.ev F y))))) k' = if k' = k then .box false (splice cs off (cellsOf (Go.AM.ev F y))) else look F k' := fun k' => by
    by_cases e : k' = k
    · subst e; rw [look_setF_same, if_pos rfl]
    · rw [look_setF_ne _ _ _ _ e, if_neg e]
  refine ⟨st.fs.size, st.fs.defers, fun k2 hk2 => ?_, fun k2 hk2 => ?_, fun k1 k2 fr1 cs1 fr2 cs2 h1 h2 => ?_⟩
  · show SlotOk _ _ _ _ _ _ _ (a.tmps.getD k2 undef)
    rw [hlook]
    by_cases e2 : k2 = k
    · subst e2
      rw [if_pos rfl]
      refine ⟨s1, s2, s3, wr arr off (a.eval y).cells.toList, e, setRow_at _ _ _ _ _ _ s4, ?_, ?_, fun j v hj => ?_, by simp only [Bool.false_eq_true, if_false]; exact s8⟩
      · rw [wr_size hfit, s5, splice_length]
      · -- all cells are good
        have : ∀ l : List V, (∀ (j : Nat) (v : V), l[j]? = some v → cell1 v = true) → cellL l = true := by
          intro l
          induction l with
          | nil => intro _; rfl
          | cons z r ih => intro hz; simp only [cellL]; rw [hz 0 z rfl]; exact ih fun j v hj => hz (j + 1) v (by simpa using hj)
        apply this
        intro j v hj
        rw [splice_get] at hj
        split at hj
        · exact cellL_at hc _ _ hj
        · exact cellL_at s6 _ _ hj
      · rw [splice_get] at hj
        rw [wr_get hfit]
        simp only [Array.length_toList, hxs]
        by_cases hr : off ≤ j ∧ j < off + (cellsOf (Go.AM.ev F y)).length ∧ j < cs.length
        · rw [if_pos hr] at hj
          rw [if_pos ⟨hr.1, hr.2.1⟩]
          have hlt : j - off < (a.eval y).cells.toList.length := by simp only [Array.length_toList]; omega
          exact ⟨_, List.getElem?_eq_getElem hlt, (hcy.at_ _ _ _ hj (List.getElem?_eq_getElem hlt)).mono ev⟩
        · rw [if_neg hr] at hj
          have hjl := (List.getElem?_eq_some_iff.1 hj).1
          rw [if_neg (by omega)]
          obtain ⟨z, hz1, hz2⟩ := s7 j v hj
          exact ⟨z, hz1, hz2.mono ev⟩
    · rw [if_neg e2]
      have hs2 := st.fs.slot k2 hk2
      cases hl2 : look F k2 with
      | box fr2 cs2 =>
        rw [hl2] at hs2
        obtain ⟨u1, u2, u3, arr2, t2, u4, u5, u6, u7, u8⟩ := hs2
        have hne : bb k2 ≠ bb k := fun e => e2 (st.fs.inj _ _ _ _ _ _ hl2 hl e)
        exact ⟨u1, u2, u3, arr2, t2, (setRow_ne _ _ _ _ hne).trans u4, u5, u6, fun j v hj => (u7 j v hj).imp fun z hz => ⟨hz.1, hz.2.mono ev⟩, u8⟩
      | lptr k' off' =>
        rw [hl2] at hs2
        intro fr3 cs3 hl3
        rw [hlook] at hl3
        split at hl3
        · rename_i e3; subst e3; exact hs2 _ _ hl
        · exact hs2 _ _ hl3
      | _ => rw [hl2] at hs2; exact RV.mono hs2 ev
  · rw [hlook, if_neg (by omega)]
    exact st.fs.high k2 hk2
  · rw [hlook] at h1 h2
    have b1 : ∃ fr cs, look F k1 = .box fr cs := by
      split at h1
      · rename_i e; subst e; exact ⟨_, _, hl⟩
      · exact ⟨_, _, h1⟩
    have b2 : ∃ fr cs, look F k2 = .box fr cs := by
      split at h2
      · rename_i e; subst e; exact ⟨_, _, hl⟩
      · exact ⟨_, _, h2⟩
    obtain ⟨_, _, b1⟩ := b1
    obtain ⟨_, _, b2⟩ := b2
    exact st.fs.inj _ _ _ _ _ _ b1 b2

end
end Go.AM
/- Soundness, 9: the abstract heap grows and turns. -/
set_option linter.unusedVariables false
set_option linter.unusedSimpArgs false
namespace Go.AM
open Go

section
variable {P : Program} {M : Mach} {tt : TT} {c0 : Cfg} {h0 : H} {n : Nat} {c : Cfg} {h : H} {bb : Nat → Nat} {F : Fr} {a : Act} {o : Oper} {next : Act → World → Prop} {Q : Exit → Act → World → Prop} {K : Fr → H → Prop}

theorem St.step (st : St c0 h0 n c h bb F a) {c' : Cfg} {h' : H} (k : Keep c h c' h') (ok' : CfgOk c') (hs' : HSim c' h') : St c0 h0 n c' h' bb F a :=
  ⟨st.keep.trans k, ok', hs', st.fs.keep k⟩

/-- An id that nobody has had. -/
theorem fresh (ok : CfgOk c) (hs : HSim c h) : ∃ g, c.φ g = none ∧ Free h g := by
  have key : ∀ g, c.φ g = none → h g = none := fun g hg => by
    cases hh : h g with
    | none => rfl
    | some r =>
      obtain ⟨_, b, ents, clk, h1, _⟩ | ⟨_, ⟨h1, _⟩ | ⟨b, arr, e, cap, h1, _⟩⟩ := hs.row g r hh <;> rw [hg] at h1 <;> cases h1
  cases hn : h.nx with
  | none =>
    obtain ⟨N, hN⟩ := ok.fin
    exact ⟨N, hN N (Nat.le_refl _), key N (hN N (Nat.le_refl _)), fun M hM => by rw [hn] at hM; cases hM⟩
  | some N =>
    have hg := hs.nxt N hn N (Nat.le_refl _)
    exact ⟨N, hg, key N hg, fun M hM => by rw [hn] at hM; injection hM⟩

def Cfg.name (c : Cfg) (g : Nat) (p : Option Nat) (w : World) : Cfg := ⟨w, c.Z, fun x => if x = g then some p else c.φ x⟩

theorem ins_self (h : H) (g : Nat) (r : GRow) : (h.ins g r) g = some r := by simp [H.ins, H.upd_get]
theorem ins_ne (h : H) (g g' : Nat) (r : GRow) (hne : g' ≠ g) : (h.ins g r) g' = h g' := by simp [H.ins, H.upd_get, hne]
theorem del_ne (h : H) (g g' : Nat) (hne : g' ≠ g) : (h.del g) g' = h g' := by simp [H.del, H.upd_get, hne]
theorem del_self (h : H) (g : Nat) : (h.del g) g = none := by simp [H.del, H.upd_get]

/-- A heap that has row r under the name g, else what another one has. -/
structure To (c : Cfg) (h1 h2 : H) (g : Nat) (r : GRow) : Prop where
  self : h2 g = some r
  ne : ∀ x, x ≠ g → h2 x = h1 x
  nx : ∀ N, h2.nx = some N → g < N ∧ ∀ x, N ≤ x → c.φ x = none
theorem To.new (hs : HSim c h) {h1 : H} (h1n : h1.nx = h.nx) {g : Nat} (hf : Free h g) (r : GRow) : To c h1 (h1.new g r) g r := by
  refine ⟨by simp [H.new_get], fun x hx => by simp [H.new_get, hx], fun N hN => ?_⟩
  rw [H.new_nx, h1n] at hN
  cases hn : h.nx with
  | none => rw [hn] at hN; cases hN
  | some M =>
    rw [hn] at hN
    injection hN with hN
    have := hf.2 M hn
    exact ⟨by omega, fun x hx => hs.nxt M hn x (by omega)⟩
theorem To.put (hs : HSim c h) {g : Nat} {q : Option Nat} (hφ : c.φ g = some q) (r : GRow) : To c (h.del g) (h.ins g r) g r := by
  refine ⟨ins_self _ _ _, fun x hx => by rw [ins_ne _ _ _ _ hx, del_ne _ _ _ hx], fun N hN => ?_⟩
  rw [H.ins, H.upd_nx] at hN
  have := hs.nxt N hN
  refine ⟨?_, this⟩
  rcases Nat.lt_or_ge g N with h | h
  · exact h
  · rw [this g h] at hφ; cases hφ

/-- The world after a new block, perhaps behind a draw. -/
structure Pushed (w w' : World) (ob : Obj) : Prop where
  heap : w'.heap = w.heap.push ob
  os : w'.os = w.os
  tape : w'.tape = w.tape
  output : w'.output = w.output

theorem Pushed.old {w w' : World} {ob : Obj} (p : Pushed w w' ob) (b : Nat) (hb : b < w.heap.size) : w'.heap[b]? = w.heap[b]? := by
  rw [p.heap, Array.getElem?_push]; rw [if_neg (by omega)]
theorem Pushed.new {w w' : World} {ob : Obj} (p : Pushed w w' ob) : w'.heap[w.heap.size]? = some ob := by rw [p.heap]; simp
theorem Pushed.size {w w' : World} {ob : Obj} (p : Pushed w w' ob) : w'.heap.size = w.heap.size + 1 := by rw [p.heap]; simp

theorem shape_lt {w : World} {b : Nat} {s : TypeId × Nat} (hs : w.shape? b = some s) : b < w.heap.size := by
  unfold World.shape? at hs
  split at hs
  · rename_i h; exact (Array.getElem?_eq_some_iff.1 h).1
  · cases hs

theorem evo_pushed {w' : World} {ob : Obj} (ok : CfgOk c) (p : Pushed c.w w' ob) {g : Nat} (hg : c.φ g = none) (q : Option Nat) : Evo c (c.name g q w') := by
  refine ⟨fun b o hz => ?_, fun _ _ h => h, fun g' x hx => ?_, fun b s hs => ?_, ?_, p.os, p.tape, p.output⟩
  · exact World.cell?_of_block (w := c.w) (w' := w') (a := ⟨b, o, none⟩) (p.old _ (ok.zlt b o hz))
  · show (if g' = g then some q else c.φ g') = some x
    rw [if_neg (fun e => by subst e; rw [hg] at hx; cases hx)]; exact hx
  · show w'.shape? b = some s
    have hb := shape_lt hs
    unfold World.shape? at hs ⊢
    rw [p.old _ hb]; exact hs
  · show c.w.heap.size ≤ w'.heap.size
    rw [p.size]; omega

theorem evo_name (ok : CfgOk c) {g : Nat} (hg : c.φ g = none) (q : Option Nat) {w' : World} (he : Evo c (c.at w')) : Evo c (c.name g q w') :=
  ⟨he.cell, he.z, fun g' x hx => by
    show (if g' = g then some q else c.φ g') = some x
    rw [if_neg (fun e => by subst e; rw [hg] at hx; cases hx)]; exact hx, he.shape, he.size, he.os, he.tape, he.output⟩

theorem CfgOk.name (ok : CfgOk c) {g : Nat} {q : Option Nat} {w' : World} (hs : c.w.heap.size ≤ w'.heap.size) (hq : ∀ b, q = some b → b < w'.heap.size) : CfgOk (c.name g q w') := by
  obtain ⟨N, hN⟩ := ok.fin
  refine ⟨⟨max N (g + 1), fun x hx => ?_⟩, fun x b hb => ?_, fun b o hz => Nat.lt_of_lt_of_le (ok.zlt b o hz) hs⟩
  · show (if x = g then some q else c.φ x) = none
    rw [if_neg (by omega)]; exact hN x (by omega)
  · have hb : (if x = g then some q else c.φ x) = some (some b) := hb
    split at hb
    · injection hb with hb; exact hq b hb
    · exact Nat.lt_of_lt_of_le (ok.φlt x b hb) hs

/-- The elements of a row as cells that lie in an array. -/
structure Elems (c : Cfg) (sz : Nat) (es : List (List V)) (arr : Array Value) : Prop where
  len : ∀ (i : Nat) (cs : List V), es[i]? = some cs → cs.length = sz
  at_ : ∀ (i : Nat) (cs : List V) (j : Nat) (v : V), es[i]? = some cs → cs[j]? = some v → cell1 v = true ∧ ∃ x, arr[i * sz + j]? = some x ∧ RV c v x

theorem Elems.mono {c c' : Cfg} {sz : Nat} {es : List (List V)} {arr : Array Value} (h : Elems c sz es arr) (e : Evo c c') : Elems c' sz es arr :=
  ⟨h.len, fun i cs j v h1 h2 => (h.at_ i cs j v h1 h2).imp_right fun ⟨x, hx, hv⟩ => ⟨x, hx, hv.mono e⟩⟩

theorem RowOk.elems {g : Nat} {r : GRow} {b : Nat} (hr : RowOk c g r) (hz : 0 < r.sz) (hφ : c.φ g = some (some b)) :
    0 < r.sz ∧ ∃ arr e cap, c.w.heap[b]? = some (.cells arr e (0, 0)) ∧ arr.size = cap * r.sz ∧ r.es.length ≤ cap ∧ cap ≤ maxLen ∧ Elems c r.sz r.es arr ∧ (∀ o, c.Z b o → o < r.fz * r.sz) ∧ r.fz ≤ r.es.length ∧ (r.ty ≠ 0 → e = r.ty) := by
  obtain ⟨h0, _⟩ | ⟨h0, ⟨h1, _⟩ | ⟨b', arr, e, cap, h1, h2, h3, h4, h5, h6, h7, h8, h9⟩⟩ := hr
  · omega
  · rw [hφ] at h1; cases h1
  · rw [hφ] at h1
    injection h1 with h1
    injection h1 with h1
    subst h1
    exact ⟨h0, arr, e, cap, h2, h3, h4, h5, ⟨h6, h7⟩, h8, h9⟩

/-- A new row in a new block; rows of the abstract heap may have gone. -/
theorem St.newRow (st : St c0 h0 n c h bb F a) {w' : World} {arr : Array Value} {e : TypeId} (p : Pushed c.w w' (.cells arr e (0, 0))) {h1 h2 : H} (hsub : ∀ g r, h1 g = some r → h g = some r)
    {g : Nat} (hg : c.φ g = none) {r : GRow} (to : To c h1 h2 g r) {cap : Nat} (hsz : 0 < r.sz) (hcap : arr.size = cap * r.sz) (hlen : r.es.length ≤ cap) (hmax : cap ≤ maxLen) (hel : Elems c r.sz r.es arr) (hfz : r.fz ≤ r.es.length) (hty : r.ty ≠ 0 → e = r.ty := by simp) :
    St c0 h0 n (c.name g (some c.w.heap.size) w') h2 bb F a ∧ RV (c.name g (some c.w.heap.size) w') (.gsl g r.sz 0 r.es.length) (.slice (some ⟨c.w.heap.size, 0, none⟩) r.es.length cap) := by
  have hev := evo_pushed st.ok p hg (some c.w.heap.size)
  have hφg : (c.name g (some c.w.heap.size) w').φ g = some (some c.w.heap.size) := by simp [Cfg.name]
  have hφn : ∀ x, x ≠ g → (c.name g (some c.w.heap.size) w').φ x = c.φ x := fun x hx => by simp [Cfg.name, hx]
  have hblk : ∀ b, b < c.w.heap.size → Blk (c.name g (some c.w.heap.size) w') h2 b → Blk c h b := by
    rintro b hb ⟨g', r', hg', hφ'⟩
    by_cases he : g' = g
    · subst he; rw [hφg] at hφ'; injection hφ' with hφ'; injection hφ' with hφ'; omega
    · rw [hφn _ he] at hφ'; rw [to.ne _ he] at hg'
      exact ⟨g', r', hsub _ _ hg', hφ'⟩
  refine ⟨st.step ⟨hev, fun b hb _ => p.old b hb, fun _ _ _ _ hz => hz, hblk⟩ (st.ok.name (by rw [p.size]; omega) fun b hb => by injection hb with hb; rw [p.size]; omega) ⟨fun g' r' hg' => ?_, fun g1 g2 r1 r2 b k1 k2 k3 k4 => ?_, fun N hN x hx => by rw [hφn x (by have := (to.nx N hN).1; omega)]; exact (to.nx N hN).2 x hx⟩, ?_⟩
  · by_cases he : g' = g
    · subst he
      rw [to.self] at hg'
      injection hg' with hg'
      subst hg'
      refine .inr ⟨hsz, .inr ⟨_, arr, e, cap, hφg, p.new, hcap, hlen, hmax, hel.len, (hel.mono hev).at_, fun o hz => absurd (st.ok.zlt _ _ hz) (Nat.lt_irrefl _), hfz, hty⟩⟩
    · rw [to.ne _ he] at hg'
      refine (st.hs.row g' r' (hsub _ _ hg')).mono hev fun b hb => ⟨?_, fun _ hz => hz⟩
      exact p.old b (st.ok.φlt _ _ hb)
  · by_cases e1 : g1 = g <;> by_cases e2 : g2 = g
    · rw [e1, e2]
    · subst e1
      rw [hφg] at k3
      rw [hφn _ e2] at k4
      have := st.ok.φlt _ _ k4
      injection k3 with k3; injection k3 with k3; omega
    · subst e2
      rw [hφg] at k4
      rw [hφn _ e1] at k3
      have := st.ok.φlt _ _ k3
      injection k4 with k4; injection k4 with k4; omega
    · rw [hφn _ e1] at k3
      rw [hφn _ e2] at k4
      rw [to.ne _ e1] at k1
      rw [to.ne _ e2] at k2
      exact st.hs.inj _ _ _ _ _ (hsub _ _ k1) (hsub _ _ k2) k3 k4
  · refine .gsl _ _ _ _ _ _ _ e hφg rfl (fun _ => by simp) ?_ hlen
    show w'.shape? _ = _
    simp [World.shape?, p.new, hcap]

/-- A row without memory. -/
theorem St.nilRow (st : St c0 h0 n c h bb F a) {h1 h2 : H} (hsub : ∀ g r, h1 g = some r → h g = some r) {g : Nat} (hg : c.φ g = none) {r : GRow} (to : To c h1 h2 g r) (hsz : 0 < r.sz) (hes : r.es = []) (hfz : r.fz = 0) :
    St c0 h0 n (c.name g none c.w) h2 bb F a ∧ RV (c.name g none c.w) (.gsl g r.sz 0 0) (.slice none 0 0) := by
  have hev := evo_name st.ok hg none (Evo.refl c)
  have hφg : (c.name g none c.w).φ g = some none := by simp [Cfg.name]
  have hφn : ∀ x, x ≠ g → (c.name g none c.w).φ x = c.φ x := fun x hx => by simp [Cfg.name, hx]
  have hblk : ∀ b, Blk (c.name g none c.w) h2 b → Blk c h b := by
    rintro b ⟨g', r', hg', hφ'⟩
    by_cases he : g' = g
    · subst he; rw [hφg] at hφ'; injection hφ' with hφ'; cases hφ'
    · rw [hφn _ he] at hφ'; rw [to.ne _ he] at hg'
      exact ⟨g', r', hsub _ _ hg', hφ'⟩
  refine ⟨st.step ⟨hev, fun b hb _ => rfl, fun _ _ _ _ hz => hz, fun b _ => hblk b⟩ (st.ok.name (Nat.le_refl _) fun b hb => by cases hb) ⟨fun g' r' hg' => ?_, fun g1 g2 r1 r2 b k1 k2 k3 k4 => ?_, fun N hN x hx => by rw [hφn x (by have := (to.nx N hN).1; omega)]; exact (to.nx N hN).2 x hx⟩, .gsl0 _ _ hφg⟩
  · by_cases he : g' = g
    · subst he
      rw [to.self] at hg'
      injection hg' with hg'
      subst hg'
      exact .inr ⟨hsz, .inl ⟨hφg, hes, hfz⟩⟩
    · rw [to.ne _ he] at hg'
      exact (st.hs.row g' r' (hsub _ _ hg')).mono hev fun b hb => ⟨rfl, fun _ hz => hz⟩
  · by_cases e1 : g1 = g
    · subst e1; rw [hφg] at k3; injection k3 with k3; cases k3
    · by_cases e2 : g2 = g
      · subst e2; rw [hφg] at k4; injection k4 with k4; cases k4
      · rw [hφn _ e1] at k3
        rw [hφn _ e2] at k4
        rw [to.ne _ e1] at k1
        rw [to.ne _ e2] at k2
        exact st.hs.inj _ _ _ _ _ (hsub _ _ k1) (hsub _ _ k2) k3 k4

/-- A row's block is written, and the row gets another name (or keeps its own). -/
theorem St.writeRow (st : St c0 h0 n c h bb F a) {g b : Nat} {r r' : GRow} (hg : h g = some r) (hφ : c.φ g = some (some b)) {arr arr' : Array Value} {e : TypeId} {cap : Nat} (hb : c.w.heap[b]? = some (.cells arr e (0, 0)))
    (hs : arr'.size = arr.size) (hcap : arr.size = cap * r.sz) (hmax : cap ≤ maxLen) (hz : ∀ o, o < r.fz * r.sz → arr'[o]? = arr[o]?) (hrsz : r'.sz = r.sz) (hsz : 0 < r.sz) (hlen : r'.es.length ≤ cap) (hfz : r'.fz = r.fz) (hfl : r.fz ≤ r'.es.length)
    (hZ : ∀ o, c.Z b o → o < r.fz * r.sz) (hty : r'.ty ≠ 0 → e = r'.ty)
    (hel : Elems c r.sz r'.es arr') {g' : Nat} {h2 : H} (to : To c (h.del g) h2 g' r') {c' : Cfg} (hc' : (g' = g ∧ c' = c.at (c.w.setRow b arr')) ∨ (c.φ g' = none ∧ c' = c.name g' (some b) (c.w.setRow b arr'))) :
    St c0 h0 n c' h2 bb F a ∧ RV c' (.gsl g' r'.sz 0 r'.es.length) (.slice (some ⟨b, 0, none⟩) r'.es.length cap) := by
  have ev0 : Evo c (c.at (c.w.setRow b arr')) := evo_setRow hb hs (fun o hzo => hz o (hZ o hzo))
  have hw : c'.w = c.w.setRow b arr' := by rcases hc' with ⟨_, rfl⟩ | ⟨_, rfl⟩ <;> rfl
  have hZ' : c'.Z = c.Z := by rcases hc' with ⟨_, rfl⟩ | ⟨_, rfl⟩ <;> rfl
  have hφg' : c'.φ g' = some (some b) := by
    rcases hc' with ⟨rfl, rfl⟩ | ⟨_, rfl⟩
    · exact hφ
    · simp [Cfg.name]
  have hφn : ∀ x, x ≠ g' → c'.φ x = c.φ x := by
    intro x hx
    rcases hc' with ⟨rfl, rfl⟩ | ⟨_, rfl⟩
    · rfl
    · simp [Cfg.name, hx]
  have hev : Evo c c' := by
    rcases hc' with ⟨rfl, rfl⟩ | ⟨hn, rfl⟩
    · exact ev0
    · exact evo_name st.ok hn _ ev0
  have hok : CfgOk c' := by
    rcases hc' with ⟨rfl, rfl⟩ | ⟨hn, rfl⟩
    · exact st.ok.setRow _ _
    · exact st.ok.name (by rw [setRow_size]; exact Nat.le_refl _) fun b' hb' => by injection hb' with hb'; subst hb'; rw [setRow_size]; exact st.ok.φlt _ _ hφ
  have other : ∀ x rx bx, x ≠ g' → h2 x = some rx → c'.φ x = some (some bx) → x ≠ g ∧ h x = some rx ∧ c.φ x = some (some bx) ∧ bx ≠ b := by
    intro x rx bx hx h1 h2
    rw [to.ne _ hx] at h1
    rw [hφn _ hx] at h2
    by_cases hxg : x = g
    · subst hxg; rw [del_self] at h1; cases h1
    · rw [del_ne _ _ _ hxg] at h1
      exact ⟨hxg, h1, h2, fun e' => hxg (st.hs.inj x g rx r b h1 hg (e' ▸ h2) hφ)⟩
  refine ⟨st.step ⟨hev, fun b' hb' hnb => ?_, fun b' o' _ _ hz' => by rw [hZ'] at hz'; exact hz', fun b' _ hd => ?_⟩ hok ⟨fun x rx hx => ?_, fun x1 x2 r1 r2 b' k1 k2 k3 k4 => ?_, fun N hN x hx => by rw [hφn x (by have := (to.nx N hN).1; omega)]; exact (to.nx N hN).2 x hx⟩, ?_⟩
  · rw [hw]
    exact setRow_ne _ _ _ _ (fun e' => hnb ⟨g, r, hg, e' ▸ hφ⟩)
  · obtain ⟨x, rx, hx, hφx⟩ := hd
    by_cases hxg : x = g'
    · subst hxg
      rw [hφg'] at hφx
      injection hφx with hφx; injection hφx with hφx
      exact ⟨g, r, hg, hφx ▸ hφ⟩
    · obtain ⟨_, k1, k2, _⟩ := other x rx b' hxg hx hφx
      exact ⟨x, rx, k1, k2⟩
  · by_cases hxg : x = g'
    · subst hxg
      rw [to.self] at hx
      injection hx with hx
      subst hx
      refine .inr ⟨by omega, .inr ⟨b, arr', e, cap, hφg', by rw [hw]; exact setRow_at _ _ _ _ _ _ hb, by rw [hs, hrsz]; exact hcap, hlen, hmax, by rw [hrsz]; exact hel.len, by rw [hrsz]; exact (hel.mono hev).at_, fun o' hz' => ?_, by omega, hty⟩⟩
      rw [hZ'] at hz'
      rw [hfz, hrsz]
      exact hZ o' hz'
    · have hx' := hx
      rw [to.ne _ hxg] at hx'
      have hxg2 : x ≠ g := fun e' => by subst e'; rw [del_self] at hx'; cases hx'
      rw [del_ne _ _ _ hxg2] at hx'
      refine (st.hs.row x rx hx').mono hev fun b' hb' => ⟨?_, fun _ hz' => by rw [hZ'] at hz'; exact hz'⟩
      rw [hw]
      exact setRow_ne _ _ _ _ (fun e' => hxg2 (st.hs.inj x g rx r b hx' hg (e' ▸ hb') hφ))
  · by_cases e1 : x1 = g' <;> by_cases e2 : x2 = g'
    · rw [e1, e2]
    · obtain ⟨_, _, _, hne⟩ := other x2 r2 b' e2 k2 k4
      subst e1; rw [hφg'] at k3
      injection k3 with k3; injection k3 with k3
      exact absurd k3.symm hne
    · obtain ⟨_, _, _, hne⟩ := other x1 r1 b' e1 k1 k3
      subst e2; rw [hφg'] at k4
      injection k4 with k4; injection k4 with k4
      exact absurd k4.symm hne
    · obtain ⟨_, a1, a2, _⟩ := other x1 r1 b' e1 k1 k3
      obtain ⟨_, b1, b2, _⟩ := other x2 r2 b' e2 k2 k4
      exact st.hs.inj _ _ _ _ _ a1 b1 a2 b2
  · refine .gsl _ _ _ _ _ _ _ e hφg' rfl (fun _ => by simp) ?_ hlen
    rw [hw]
    simp [World.shape?, setRow_at _ _ _ _ _ _ hb, hs, hcap, hrsz]

end
end Go.AM
/- Soundness, 10: stores into rows, literals, append. -/
set_option linter.unusedVariables false
set_option linter.unusedSimpArgs false
namespace Go.AM
open Go

section
variable {P : Program} {M : Mach} {tt : TT} {c0 : Cfg} {h0 : H} {n : Nat} {c : Cfg} {h : H} {bb : Nat → Nat} {F : Fr} {a : Act} {o : Oper} {next : Act → World → Prop} {Q : Exit → Act → World → Prop} {K : Fr → H → Prop}

theorem wat_inv {g sz i : Nat} {cs : List V} (hh : H.wat h g sz i = some cs) : ∃ r, h g = some r ∧ r.sz = sz ∧ r.fz ≤ i ∧ r.es[i]? = some cs ∧ 0 < r.sz := by
  unfold H.wat at hh
  cases hg : h g with
  | none => simp only [hg] at hh; cases hh
  | some r =>
    simp only [hg] at hh
    split at hh
    · rename_i hb
      split at hh
      case h_2 => cases hh
      rename_i h1
      split at hh
      · rename_i hc; exact ⟨r, rfl, beq_of hb, Nat.le_of_ble_eq_true hc, hh, by have := Nat.le_of_ble_eq_true h1; have := beq_of hb; omega⟩
      · cases hh
    · cases hh

theorem apart {i i' sz off len j' : Nat} (hne : i' ≠ i) (hj : j' < sz) (hl : off + len ≤ sz) : ¬ (i * sz + off ≤ i' * sz + j' ∧ i' * sz + j' < i * sz + off + len) := by
  rcases Nat.lt_or_gt_of_ne hne with h | h
  · have := Nat.mul_le_mul_right sz (show i' + 1 ≤ i from h)
    rw [Nat.add_mul] at this
    omega
  · have := Nat.mul_le_mul_right sz (show i + 1 ≤ i' from h)
    rw [Nat.add_mul] at this
    omega

theorem Elems.write {sz : Nat} {es : List (List V)} {arr : Array Value} {cap i off : Nat} {cs vs : List V} {xs : List Value} (hel : Elems c sz es arr) (hcap : arr.size = cap * sz) (hlen : es.length ≤ cap) (hi : es[i]? = some cs)
    (hvs : RVs c vs xs) (hc : cellL vs = true) (hoff : off + vs.length ≤ cs.length) : Elems c sz (es.set i (splice cs off vs)) (wr arr (i * sz + off) xs) ∧ i * sz + off + xs.length ≤ arr.size := by
  have hcs := hel.len i cs hi
  have hil := (List.getElem?_eq_some_iff.1 hi).1
  have hxl := hvs.len
  have hfit : i * sz + off + xs.length ≤ arr.size := by
    have := Nat.mul_le_mul_right sz (show i + 1 ≤ cap by omega)
    rw [Nat.add_mul] at this
    omega
  refine ⟨⟨fun i' cs' h1 => ?_, fun i' cs' j v h1 h2 => ?_⟩, hfit⟩
  · rw [List.getElem?_set] at h1
    split at h1
    · injection h1 with h1
      subst h1
      rw [splice_length]; exact hcs
    · exact hel.len i' cs' h1
  · rw [wr_get hfit]
    rw [List.getElem?_set] at h1
    by_cases e : i = i'
    · subst e
      rw [if_pos rfl, if_pos hil] at h1
      injection h1 with h1
      subst h1
      rw [splice_get] at h2
      by_cases hr : off ≤ j ∧ j < off + vs.length ∧ j < cs.length
      · rw [if_pos hr] at h2
        rw [if_pos (by omega)]
        have hlt : j - off < xs.length := by omega
        rw [show i * sz + j - (i * sz + off) = j - off by omega]
        exact ⟨cellL_at hc _ _ h2, _, List.getElem?_eq_getElem hlt, hvs.at_ _ _ _ h2 (List.getElem?_eq_getElem hlt)⟩
      · rw [if_neg hr] at h2
        have hjl := (List.getElem?_eq_some_iff.1 h2).1
        rw [if_neg (by omega)]
        exact hel.at_ i cs j v hi h2
    · rw [if_neg e] at h1
      have hcs' := hel.len i' cs' h1
      have hjl := (List.getElem?_eq_some_iff.1 h2).1
      rw [if_neg (apart (fun e' => e e'.symm) (by omega) (by omega))]
      exact hel.at_ i' cs' j v h1 h2

theorem ok_store_row {t : TypeId} {x y : Operand} {g sz i off : Nat} {cs : List V} {ti : TypeInfo} (ho : o.op = .store t x y) (st : St c0 h0 n c h bb F a) (he : ev F x = .gptr g sz i off)
    (hc : cellL (cellsOf (ev F y)) = true) (hw : h.wat g sz i = some cs) (hle : off + (cellsOf (ev F y)).length ≤ cs.length) (hi : P.info? t = some ti) (hs : ti.size = (cellsOf (ev F y)).length)
    (hdst : o.dst = none) (hk : K F (h.put g i (splice cs off (cellsOf (ev F y))))) (hn : Goes c0 h0 n K next) : o.wp P a c.w next Q := by
  obtain ⟨r, hg, hsz, hfz, hri, hpos⟩ := wat_inv hw
  subst hsz
  have hx := (evo st he).rv (by simp)
  have hy0 := ev_ok st.fs y
  have hy : RV c (ev F y) (a.eval y) := hy0.rv (fun k off e => by rw [e] at hc; simp [cellsOf, cellL, cell1] at hc)
  have hcy := cellsOf_ok hy hc
  have hxs : (a.eval y).cells.size = (cellsOf (ev F y)).length := by rw [hcy.len]; simp
  generalize hxv : a.eval x = xv at hx
  cases hx with
  | gptr g sz i off b hφ =>
    obtain ⟨hsz, arr, e, cap, hb, hcap, hlen, hmax, hel, hZ, hfl, hty⟩ := (st.hs.row g r hg).elems hpos hφ
    obtain ⟨hel', hfit⟩ := hel.write hcap hlen hri hcy hc hle
    have hrun := run_storeVar' (P := P) c.w hi (by omega) hb (off := i * r.sz + off) (by simpa using hfit) (cells_one hcy hc)
    have hil := (List.getElem?_eq_some_iff.1 hri).1
    refine wp_skip' (w' := c.w.setRow b (wr arr (i * r.sz + off) (a.eval y).cells.toList)) (by simp [execOp, ho, hxv, Instr.storeAt, Instr.sureAddr, hrun]) ?_
    rw [hdst]
    rw [H.put_get hg] at hk
    have st' := (st.writeRow (r' := { r with es := r.es.set i (splice cs off (cellsOf (ev F y))) }) hg hφ hb (wr_size hfit) hcap hmax (fun o' ho' => ?_) rfl hsz (by simpa using hlen) rfl (by simpa using hfl) hZ hty hel' (To.put st.hs hφ _) (.inl ⟨rfl, rfl⟩)).1
    · exact hn _ _ bb F a st' hk
    · rw [wr_get hfit, if_neg]
      have := Nat.mul_le_mul_right r.sz hfz
      omega

/-! ### Literals -/
theorem flat_get {es : List (List V)} {sz : Nat} (hl : ∀ (i : Nat) (cs : List V), es[i]? = some cs → cs.length = sz) (i j : Nat) (hj : j < sz) : es.flatten[i * sz + j]? = (es[i]?).bind (·[j]?) := by
  induction es generalizing i with
  | nil => simp
  | cons cs r ih =>
    have h0 := hl 0 cs rfl
    rw [List.flatten_cons, List.getElem?_append]
    cases i with
    | zero => simp [h0, hj]
    | succ i =>
      have : ¬ ((i + 1) * sz + j < cs.length) := by rw [h0, Nat.add_mul]; omega
      rw [if_neg this, h0, Nat.add_mul, show i * sz + 1 * sz + j - sz = i * sz + j by omega, ih (fun i' cs' h => hl (i' + 1) cs' (by simpa using h))]
      simp

theorem Elems.of_flat {sz : Nat} {es : List (List V)} {arr : Array Value} (hl : ∀ (i : Nat) (cs : List V), es[i]? = some cs → cs.length = sz) (hc : ∀ (i : Nat) (cs : List V), es[i]? = some cs → cellL cs = true)
    (h : RVs c es.flatten arr.toList) : Elems c sz es arr := by
  refine ⟨hl, fun i cs j v h1 h2 => ?_⟩
  have hj : j < sz := by rw [← hl i cs h1]; exact (List.getElem?_eq_some_iff.1 h2).1
  have hf : es.flatten[i * sz + j]? = some v := by rw [flat_get hl i j hj, h1]; exact h2
  have hlt : i * sz + j < arr.toList.length := by rw [← h.len]; exact (List.getElem?_eq_some_iff.1 hf).1
  exact ⟨cellL_at (hc i cs h1) j v h2, _, by rw [← Array.getElem?_toList]; exact List.getElem?_eq_getElem hlt, h.at_ _ _ _ hf (List.getElem?_eq_getElem hlt)⟩

theorem flat_len {es : List (List V)} {sz : Nat} (hl : ∀ (i : Nat) (cs : List V), es[i]? = some cs → cs.length = sz) : es.flatten.length = es.length * sz := by
  induction es with
  | nil => simp
  | cons cs r ih =>
    rw [List.flatten_cons, List.length_append, hl 0 cs rfl, ih (fun i' cs' h => hl (i' + 1) cs' (by simpa using h)), List.length_cons, Nat.add_mul]
    omega

theorem fold_set (xs : List Value) : ∀ (arr : Array Value) (off k : Nat), off + k + xs.length ≤ arr.size →
    ((xs.zipIdx k).foldl (fun cs p => cs.setIfInBounds (off + p.2) p.1) arr) = wr arr (off + k) xs := by
  induction xs with
  | nil => intro arr off k h; simp [wr]
  | cons x r ih =>
    intro arr off k h
    simp only [List.zipIdx_cons, List.foldl_cons]
    simp only [List.length_cons] at h
    rw [ih _ _ _ (by simp; omega)]
    apply Array.ext_getElem?
    intro j
    rw [wr_get (by simp; omega), wr_get (by simpa using h)]
    simp only [List.length_cons]
    by_cases h1 : j = off + k
    · subst h1
      rw [if_neg (by omega), if_pos (by omega), Array.getElem?_setIfInBounds, if_pos rfl, if_pos (by omega)]
      simp
    · by_cases h2 : off + (k + 1) ≤ j ∧ j < off + (k + 1) + r.length
      · rw [if_pos h2, if_pos (by omega), show j - (off + k) = (j - (off + (k + 1))) + 1 by omega, List.getElem?_cons_succ]
      · rw [if_neg h2, if_neg (by omega), Array.getElem?_setIfInBounds, if_neg (fun e => h1 e.symm)]

theorem fill_ok {esz : Nat} (parts : List (Nat × Operand)) (st : St c0 h0 n c h bb F a) : ∀ (es : List (List V)) (arr : Array Value) {K : List (List V) → Prop}, (∀ (i : Nat) (cs : List V), es[i]? = some cs → cs.length = esz ∧ cellL cs = true) → RVs c es.flatten arr.toList →
    mkElems esz F es parts K → ∃ es' arr', Instr.fill (fun i => some (i * esz, esz)) arr (parts.map fun p => (p.1, a.eval p.2)) = some arr' ∧ es'.length = es.length ∧ (∀ (i : Nat) (cs : List V), es'[i]? = some cs → cs.length = esz ∧ cellL cs = true) ∧ RVs c es'.flatten arr'.toList ∧ K es' := by
  induction parts with
  | nil => intro es arr K hl hr hk; exact ⟨es, arr, rfl, rfl, hl, hr, hk⟩
  | cons p r ih =>
    obtain ⟨i, x⟩ := p
    intro es arr K hl hr hk
    simp only [mkElems, forceL_eq] at hk
    split at hk
    case h_2 => exact hk.elim
    rename_i hlen
    split at hk
    case h_2 => exact hk.elim
    rename_i hc
    split at hk
    case h_2 => exact hk.elim
    rename_i cs0 hi
    have hlen' : (cellsOf (ev F x)).length = esz := by have := beq_of hlen; rwa [len_eq] at this
    have hx : RV c (ev F x) (a.eval x) := (ev_ok st.fs x).rv (fun k off e => by rw [e] at hc; simp [cellsOf, cellL, cell1] at hc)
    have hcy := cellsOf_ok hx hc
    have hsz : (a.eval x).cells.size = esz := by have := hcy.len; simp at this; omega
    have hil := (List.getElem?_eq_some_iff.1 hi).1
    have hflat := flat_len (sz := esz) (fun i cs h => (hl i cs h).1)
    have hal : arr.size = es.length * esz := by have := hr.len; rw [hflat] at this; simpa using this.symm
    have hfit : i * esz + (a.eval x).cells.toList.length ≤ arr.size := by
      have := Nat.mul_le_mul_right esz (show i + 1 ≤ es.length from hil)
      rw [Nat.add_mul] at this
      simp only [Array.length_toList]
      omega
    have hl' : ∀ (i' : Nat) (cs : List V), (es.set i (cellsOf (ev F x)))[i']? = some cs → cs.length = esz ∧ cellL cs = true := by
      intro i' cs h1
      rw [List.getElem?_set] at h1
      split at h1
      · injection h1 with h1
        subst h1
        exact ⟨hlen', hc⟩
      · exact hl i' cs h1
    have hr' : RVs c (es.set i (cellsOf (ev F x))).flatten (wr arr (i * esz) (a.eval x).cells.toList).toList := by
      have hflat' := flat_len (sz := esz) (fun i cs h => (hl' i cs h).1)
      refine ⟨by rw [hflat', List.length_set, Array.length_toList (xs := wr arr (i * esz) (a.eval x).cells.toList), wr_size hfit, hal], fun q v y h1 h2 => ?_⟩
      rw [Array.getElem?_toList, wr_get hfit] at h2
      have hq : q < es.length * esz := by
        have := (List.getElem?_eq_some_iff.1 h1).1
        rw [hflat', List.length_set] at this
        exact this
      have hpos : 0 < esz := by
        rcases Nat.eq_zero_or_pos esz with h | h
        · subst h; simp at hq
        · exact h
      have hqe : q = q / esz * esz + q % esz := by rw [Nat.mul_comm]; exact (Nat.div_add_mod q esz).symm
      have hqm : q % esz < esz := Nat.mod_lt _ hpos
      rw [hqe, flat_get (fun i cs h => (hl' i cs h).1) _ _ hqm, List.getElem?_set] at h1
      simp only [Array.length_toList, hsz] at h2
      by_cases e : i = q / esz
      · rw [if_pos e, if_pos hil] at h1
        simp only [Option.bind_some] at h1
        have hin : i * esz ≤ q ∧ q < i * esz + esz := by rw [e]; omega
        rw [if_pos hin] at h2
        refine hcy.at_ (q % esz) v y h1 ?_
        rwa [show q - i * esz = q % esz by rw [e]; omega] at h2
      · rw [if_neg e] at h1
        have := apart (i := i) (i' := q / esz) (sz := esz) (off := 0) (len := esz) (j' := q % esz) (fun e' => e e'.symm) hqm (by omega)
        rw [← hqe] at this
        rw [if_neg (by simpa using this)] at h2
        refine hr.at_ q v y ?_ (by rw [Array.getElem?_toList]; exact h2)
        rw [hqe, flat_get (fun i cs h => (hl i cs h).1) _ _ hqm]
        exact h1
    obtain ⟨es', arr', h1, h2, h3, h4, h5⟩ := ih _ _ hl' hr' hk
    refine ⟨es', arr', ?_, by simpa using h2, h3, h4, h5⟩
    simp only [List.map_cons, Instr.fill]
    rw [if_neg (by
      simp only [hsz, ne_eq, not_true_eq_false, Bool.false_or, decide_eq_true_eq, Bool.or_eq_true, decide_false, Bool.false_eq_true, false_or]
      simp only [Array.length_toList] at hfit
      omega)]
    have := fold_set (a.eval x).cells.toList arr (i * esz) 0 (by simpa using hfit)
    simp only [Nat.add_zero] at this
    rw [← h1, ← this]
    congr 1
    rw [← Array.foldl_toList]
    simp [Array.toList_zipIdx]

end
end Go.AM
/- Soundness: steps that nothing runs. -/
set_option linter.unusedVariables false
set_option linter.unusedSimpArgs false
namespace Go.AM
open Go

section
variable {P : Program} {M : Mach} {tt : TT} {c0 : Cfg} {h0 : H} {n : Nat} {c : Cfg} {h : H} {bb : Nat → Nat} {F : Fr} {a : Act} {o : Oper} {next : Act → World → Prop} {Q : Exit → Act → World → Prop} {K : Fr → H → Prop}

theorem look_setF (F : Fr) (d : Nat) (v : V) (k : Nat) : look (setF F d v) k = if k = d then v else look F k := by
  by_cases e : k = d
  · subst e; rw [look_setF_same, if_pos rfl]
  · rw [look_setF_ne _ _ _ _ e, if_neg e]


/-- More cells are frozen: all of row g. -/
def Cfg.frz (c : Cfg) (g : Nat) (r : GRow) : Cfg := ⟨c.w, fun b o => c.Z b o ∨ (c.φ g = some (some b) ∧ o < r.es.length * r.sz), c.φ⟩

theorem Evo.frz (c : Cfg) (g : Nat) (r : GRow) : Evo c (c.frz g r) := ⟨fun _ _ _ => rfl, fun _ _ hz => .inl hz, fun _ _ hh => hh, fun _ _ hh => hh, Nat.le_refl _, rfl, rfl, rfl⟩

theorem frz_part {g : Nat} {r : GRow} (hr : RowOk c g r) (hz : 0 < r.sz) {off m : Nat} {x : Value} (hv : RV c (.gsl g r.sz off m) x) (hm : off + m ≤ r.es.length) : RV (c.frz g r) (.lst r.sz ((r.es.drop off).take m)) x := by
  generalize hs : r.sz = sz at *
  cases hv with
  | gsl0 _ _ hφ => simp only [List.take_zero]; exact .lst0 _ _ _
  | gsl _ _ _ _ b ad cap e hφ hb ha hsh hl =>
    obtain ⟨h0, _⟩ | ⟨hpos, ⟨h1, _⟩ | ⟨b', arr, e', cap', h1, h2, h3, h4, h5, h6, h7, h8, h9⟩⟩ := hr
    · omega
    · rw [hφ] at h1; cases h1
    · rw [hφ] at h1
      injection h1 with h1; injection h1 with h1
      subst h1
      by_cases h0 : m = 0
      · subst h0; simp only [List.take_zero]; exact .lst0 _ _ _
      · have had := ha (.inl (by omega))
        subst had
        rw [hs] at h3 h6 h7 hpos
        have hlen : ((r.es.drop off).take m).length = m := by simp; omega
        have hget : ∀ (i : Nat) (cs : List V), ((r.es.drop off).take m)[i]? = some cs → r.es[off + i]? = some cs ∧ off + i < r.es.length := by
          intro i cs hi
          rw [List.getElem?_take] at hi
          split at hi
          · rw [List.getElem?_drop] at hi
            exact ⟨hi, (List.getElem?_eq_some_iff.1 hi).1⟩
          · cases hi
        have key : ∀ (i : Nat) (cs : List V) (j : Nat) (v : V), ((r.es.drop off).take m)[i]? = some cs → cs[j]? = some v →
            off * sz + i * sz + j < r.es.length * sz ∧ ∃ y, c.w.cell? ⟨b, off * sz + i * sz + j, none⟩ = some y ∧ RV c v y := by
          intro i cs j v hi hj
          obtain ⟨k1, k2⟩ := hget i cs hi
          have hjl : j < sz := by rw [← h6 _ _ k1]; exact (List.getElem?_eq_some_iff.1 hj).1
          obtain ⟨_, y, hy, hrv⟩ := h7 _ _ _ _ k1 hj
          have he : off * sz + i * sz = (off + i) * sz := by rw [Nat.add_mul]
          refine ⟨?_, y, ?_, hrv⟩
          · rw [he]
            have : (off + i + 1) * sz ≤ r.es.length * sz := Nat.mul_le_mul_right _ (by omega)
            rw [Nat.add_mul, Nat.one_mul] at this
            omega
          · rw [he]; simp [World.cell?, h2, hy]
        have goal := RV.lst (c := c.frz g r) sz ((r.es.drop off).take m) b (off * sz) cap (fun i cs hi => h6 _ _ (hget i cs hi).1) (by rw [hlen]; exact ⟨hl, by omega⟩)
          (fun i cs hi => by
            have k1 := (hget i cs hi).1
            have : ∀ l : List V, (∀ (j : Nat) (v : V), l[j]? = some v → cell1 v = true) → cellL l = true := by
              intro l
              induction l with
              | nil => intro _; rfl
              | cons z l ih => intro hz; simp only [cellL]; rw [hz 0 z rfl]; exact ih fun j v hj => hz (j + 1) v (by simpa using hj)
            exact this cs fun j v hj => (h7 _ _ j v k1 hj).1)
          (fun i cs j v hi hj => by
            obtain ⟨k1, y, k2, _⟩ := key i cs j v hi hj
            exact ⟨.inr ⟨hφ, by rw [hs]; exact k1⟩, y, k2⟩)
          (fun i cs j v x hi hj hx => by
            obtain ⟨k1, y, k2, k3⟩ := key i cs j v hi hj
            have hx : c.w.cell? ⟨b, off * sz + i * sz + j, none⟩ = some x := hx
            rw [k2] at hx
            injection hx with hx
            subst hx
            exact k3.mono (Evo.frz c g r))
        rw [hlen] at goal
        exact goal

theorem Fz.rv {g : Nat} {r : GRow} {u v : V} {x : Value} (hr : RowOk c g r) (hz : 0 < r.sz) (hv : RV c u x) (h : Fz g r.sz r.es u v) : RV (c.frz g r) v x := by
  cases h with
  | part off m hm => exact frz_part hr hz hv hm
  | whole m hm =>
    have := frz_part hr hz hv (by omega)
    subst hm
    simpa using this

/-- Telling in other words is sound. -/
structure Tells (R : V → V → Prop) (c c' : Cfg) : Prop where
  rv : ∀ v u x, R v u → RV c v x → RV c' u x
  src : ∀ v u, R v u → cell1 v = true
  tgt : ∀ v u, R v u → cell1 u = true

theorem TlL.rvs {R : V → V → Prop} {c c' : Cfg} (t : Tells R c c') (e : Evo c c') {us vs : List V} (h : TlL R us vs) : ∀ {xs : List Value}, RVs c us xs → RVs c' vs xs := by
  induction h with
  | nil => intro xs hv; rw [hv.nil_inv]; exact RVs.nil _
  | same _ ih =>
    intro xs hv
    obtain ⟨x, l, rfl, h1, h2⟩ := hv.cons_inv
    exact RVs.cons (h1.mono e) (ih h2)
  | cons hc _ ih =>
    intro xs hv
    obtain ⟨x, l, rfl, h1, h2⟩ := hv.cons_inv
    exact RVs.cons (t.rv _ _ _ hc h1) (ih h2)
theorem TlL.len {R : V → V → Prop} {us vs : List V} (h : TlL R us vs) : us.length = vs.length := by
  induction h with
  | nil => rfl
  | same _ ih => simp [ih]
  | cons _ _ ih => simp [ih]
theorem TlL.cellL {R : V → V → Prop} {c c' : Cfg} (t : Tells R c c') {us vs : List V} (h : TlL R us vs) : cellL us = true → cellL vs = true := by
  induction h with
  | nil => exact id
  | @same v vs us _ ih =>
    intro hc
    simp only [AM.cellL] at hc ⊢
    split at hc
    · exact ih hc
    · cases hc
  | @cons v u vs us h _ ih =>
    intro hc
    simp only [AM.cellL] at hc ⊢
    rw [t.src _ _ h] at hc
    rw [t.tgt _ _ h]
    exact ih hc

theorem St.frz (st : St c0 h0 n c h bb F a) {g : Nat} {r : GRow} (hg : h g = some r) (hz : 0 < r.sz) : St c0 h0 n (c.frz g r) (h.ins g { r with fz := r.es.length }) bb F a := by
  have hev := Evo.frz c g r
  have hblk : ∀ b, Blk (c.frz g r) (h.ins g { r with fz := r.es.length }) b → Blk c h b := by
    rintro b ⟨g', r', hg', hφ⟩
    by_cases e : g' = g
    · subst e; exact ⟨g', r, hg, hφ⟩
    · rw [ins_ne _ _ _ _ e] at hg'; exact ⟨g', r', hg', hφ⟩
  have hone : ∀ b, ¬ Blk c h b → ∀ o, (c.frz g r).Z b o → c.Z b o := by
    rintro b hn o (hz | ⟨hφ, _⟩)
    · exact hz
    · exact absurd ⟨g, r, hg, hφ⟩ hn
  refine ⟨⟨st.keep.evo.trans hev, st.keep.blk, fun b o hb hn hz => ?_, fun b hb hd => st.keep.dom b hb (hblk b hd)⟩, ⟨st.ok.fin, st.ok.φlt, fun b o hz => ?_⟩, ⟨fun g' r' hg' => ?_, fun g1 g2 r1 r2 b k1 k2 k3 k4 => ?_, fun N hN => st.hs.nxt N (by rw [H.ins, H.upd_nx] at hN; exact hN)⟩, st.fs.mono hev fun b _ _ hn => ⟨rfl, fun hd => hn (hblk b hd), hone b hn⟩⟩
  · rcases hz with hz | ⟨hφ, _⟩
    · exact st.keep.z b o hb hn hz
    · exact absurd (st.keep.dom b hb ⟨g, r, hg, hφ⟩) hn
  · rcases hz with hz | ⟨hφ, _⟩
    · exact st.ok.zlt b o hz
    · exact st.ok.φlt g b hφ
  · by_cases e : g' = g
    · subst e
      rw [ins_self] at hg'
      injection hg' with hg'
      subst hg'
      obtain ⟨h0, _⟩ | ⟨hpos, ⟨h1, h2, h3⟩ | ⟨b, arr, e', cap, h1, h2, h3, h4, h5, h6, h7, h8, h9⟩⟩ := st.hs.row g' r hg
      · omega
      · exact .inr ⟨hpos, .inl ⟨h1, h2, by simp [h2]⟩⟩
      · refine .inr ⟨hpos, .inr ⟨b, arr, e', cap, h1, h2, h3, h4, h5, h6, fun i cs j v hi hj => ?_, fun o hz => ?_, Nat.le_refl _, h9.2⟩⟩
        · obtain ⟨k1, x, k2, k3⟩ := h7 i cs j v hi hj
          exact ⟨k1, x, k2, k3.mono hev⟩
        · rcases hz with hz | ⟨_, hz⟩
          · have := h8 o hz
            have k : r.fz * r.sz ≤ r.es.length * r.sz := Nat.mul_le_mul_right _ h9.1
            exact Nat.lt_of_lt_of_le this k
          · exact hz
    · rw [ins_ne _ _ _ _ e] at hg'
      refine (st.hs.row g' r' hg').mono hev fun b hb => ⟨rfl, fun o hz => ?_⟩
      rcases hz with hz | ⟨hφ, _⟩
      · exact hz
      · exact absurd (st.hs.inj g' g r' r b hg' hg hb hφ) e
  · have : ∀ x r0, (h.ins g { r with fz := r.es.length }) x = some r0 → ∃ r1, h x = some r1 := by
      intro x r0 hx
      by_cases e : x = g
      · subst e; exact ⟨r, hg⟩
      · rw [ins_ne _ _ _ _ e] at hx; exact ⟨r0, hx⟩
    obtain ⟨_, k1⟩ := this _ _ k1
    obtain ⟨_, k2⟩ := this _ _ k2
    exact st.hs.inj _ _ _ _ _ k1 k2 k3 k4

theorem mapEv_ok (st : St c0 h0 n c h bb F a) : ∀ (l : List Operand) {K : List V → Prop}, mapEv F l K → ∃ vs, vs = l.map (ev F) ∧ K vs := by
  intro l
  induction l with
  | nil => intro K hk; exact ⟨[], rfl, hk⟩
  | cons x r ih =>
    intro K hk
    simp only [mapEv, force_eq] at hk
    obtain ⟨vs, h1, h2⟩ := ih hk
    exact ⟨_, by simp [h1], h2⟩

theorem SlotOk.of_RV1 {c : Cfg} {h : H} {F : Fr} {bb : Nat → Nat} {base k : Nat} {v : V} {x : Value} (h1 : RV c v x) : SlotOk c h F bb base k v x := by
  exact SlotOk.of_VOk (VOk.of_RV h1)

theorem FSim.lift {R : V → V → Prop} {base : Nat} {c' : Cfg} {h' : H} (hF : FSim base n c h bb F a) (hF' : FSim base n c' h' bb F a) (hw : c'.w = c.w) (e : Evo c c') (t : Tells R c c') {s : Nat} {v : V} (hv : TlV R (look F s) v) :
    FSim base n c' h' bb (setF F s v) a := by
  have key : (∀ fr cs, v = .box fr cs → ∃ cs0, look F s = .box fr cs0) → (s < n → SlotOk c' h' F bb base s v (a.tmps.getD s undef)) → (n ≤ s → v = .dead) → FSim base n c' h' bb (setF F s v) a := by
    intro hb hs hd
    have hf : ∀ k' fr cs, look (setF F s v) k' = .box fr cs → ∃ fr' cs', look F k' = .box fr' cs' := by
      intro k' fr cs hl
      rw [look_setF] at hl
      split at hl
      · rename_i e; subst e
        obtain ⟨cs0, h0⟩ := hb _ _ hl
        exact ⟨_, _, h0⟩
      · exact ⟨_, _, hl⟩
    refine ⟨hF'.size, hF'.defers, fun k hk => ?_, fun k hk => ?_, fun k k' fr cs fr' cs' h1 h2 => ?_⟩
    · rw [look_setF]
      split
      · rename_i e; subst e; exact SlotOk.frame (hs hk) hf
      · exact SlotOk.frame (hF'.slot k hk) hf
    · rw [look_setF]
      split
      · rename_i e; subst e; exact hd hk
      · exact hF'.high k hk
    · obtain ⟨_, _, h1⟩ := hf _ _ _ h1
      obtain ⟨_, _, h2⟩ := hf _ _ _ h2
      exact hF'.inj _ _ _ _ _ _ h1 h2
  generalize h0 : look F s = v0 at hv
  have hs0 : s < n → SlotOk c h F bb base s v0 (a.tmps.getD s undef) := fun hs => h0 ▸ hF.slot s hs
  have hd0 : n ≤ s → v0 = .dead := fun hs => h0 ▸ hF.high s hs
  cases hv with
  | same => exact key (fun fr cs hb => ⟨cs, h0.trans hb⟩) (fun hs => h0 ▸ hF'.slot s hs) hd0
  | cell hr =>
    have h1 := t.src _ _ hr
    have h2 := t.tgt _ _ hr
    refine key (fun fr cs hb => by subst hb; cases h2) (fun hs => SlotOk.of_RV1 (t.rv _ _ _ hr ?_)) (fun hs => by rw [hd0 hs] at h1; cases h1)
    exact (hs0 hs |>.to_VOk (fun fr cs hb => by subst hb; cases h1)).rv (fun k off hb => by subst hb; cases h1)
  | agg hl =>
    refine key (fun fr cs hb => by cases hb) (fun hs => ?_) (fun hs => by cases hd0 hs)
    have hx : RV c (.agg _) _ := hs0 hs
    generalize a.tmps.getD s undef = x at *
    cases hx with
    | agg cs xs k1 k2 => exact RV.agg' (hl.rvs t e ⟨k1, k2⟩)
  | tup hl =>
    refine key (fun fr cs hb => by cases hb) (fun hs => ?_) (fun hs => by cases hd0 hs)
    have hx : RV c (.tup _) _ := hs0 hs
    generalize a.tmps.getD s undef = x at *
    cases hx with
    | tup cs xs k1 k2 => exact RV.tup' (hl.rvs t e ⟨k1, k2⟩)
  | @box fr vs us hl =>
    refine key (fun fr' cs hb => by cases hb; exact ⟨vs, h0⟩) (fun hs => ?_) (fun hs => by cases hd0 hs)
    obtain ⟨s1, s2, s3, arr, e', s4, s5, s6, s7, s8⟩ := (hs0 hs : SlotOk c h F bb base s (.box fr vs) _)
    obtain ⟨r1, r2, r3, arr', e'', r4, r5, r6, r7, r8⟩ := (h0 ▸ hF'.slot s hs : SlotOk c' h' F bb base s (.box fr vs) _)
    rw [hw, s4] at r4
    injection r4 with r4; injection r4 with r4 r4'
    subst r4
    have hlen := hl.len
    have hcells : ∃ xs : List Value, RVs c vs xs ∧ ∀ (j : Nat) (x : Value), xs[j]? = some x → arr[j]? = some x := by
      refine ⟨arr.toList, ⟨by simp [s5], fun j v x hj hx => ?_⟩, fun j x hx => by simpa using hx⟩
      obtain ⟨y, hy, hr⟩ := s7 j v hj
      have : arr[j]? = some x := by simpa using hx
      rw [hy] at this; injection this with this; subst this
      exact hr
    obtain ⟨xs, hx1, hx2⟩ := hcells
    have hx3 := hl.rvs t e hx1
    refine ⟨r1, r2, r3, arr, e', by rw [hw]; exact s4, by rw [s5, hlen], hl.cellL t s6, fun j v hj => ?_, ?_⟩
    · have hjl : j < xs.length := by rw [← hx3.len]; exact (List.getElem?_eq_some_iff.1 hj).1
      exact ⟨xs[j], hx2 j _ (List.getElem?_eq_getElem hjl), hx3.at_ j v _ hj (List.getElem?_eq_getElem hjl)⟩
    · cases fr with
      | true =>
        simp only [if_true] at r8 ⊢
        intro j v hj
        have hjl : j < vs.length := by rw [hlen]; exact (List.getElem?_eq_some_iff.1 hj).1
        exact r8 j _ (List.getElem?_eq_getElem hjl)
      | false => exact r8

theorem Tells.frz {g : Nat} {r : GRow} (hr : RowOk c g r) (hz : 0 < r.sz) : Tells (Fz g r.sz r.es) c (c.frz g r) :=
  ⟨fun v u x h hv => h.rv hr hz hv, fun v u h => by cases h <;> rfl, fun v u h => by cases h <;> rfl⟩
theorem Tells.soft : Tells Sf c c :=
  ⟨fun v u x h hv => by
    cases h with
    | tt => cases hv; exact .b true
    | ff => cases hv; exact .b false
    | nils sz => cases hv; exact .lst0 _ _ _, fun v u h => by cases h <;> rfl, fun v u h => by cases h <;> rfl⟩

theorem St.nilrow (st : St c0 h0 n c h bb F a) {g sz : Nat} (hsz : 0 < sz) (hg1 : c.φ g = none) (hg2 : Free h g) :
    Evo c (c.name g none c.w) ∧ St c0 h0 n (c.name g none c.w) (h.new g ⟨sz, 0, [], 0⟩) bb F a ∧ Tells (Nr g sz) c (c.name g none c.w) := by
  have hev : Evo c (c.name g none c.w) := evo_name st.ok hg1 _ (Evo.refl c)
  obtain ⟨st', hrv⟩ := st.nilRow (h1 := h) (fun _ _ hh => hh) hg1 (To.new st.hs rfl hg2 ⟨sz, 0, [], 0⟩) hsz rfl rfl
  refine ⟨hev, st', fun v u x hn hv => ?_, fun v u h => by cases h <;> rfl, fun v u h => by cases h <;> rfl⟩
  cases hn
  cases hv
  exact hrv

theorem St.sub (st : St c0 h0 n c h bb F a) {h' : H} (hs : Sub h' h) : St c0 h0 n c h' bb F a := by
  have hblk : ∀ b, Blk c h' b → Blk c h b := fun b ⟨g, r, h1, h2⟩ => ⟨g, r, hs.1 g r h1, h2⟩
  exact ⟨⟨st.keep.evo, st.keep.blk, st.keep.z, fun b hb hd => st.keep.dom b hb (hblk b hd)⟩, st.ok, ⟨fun g r hg => st.hs.row g r (hs.1 g r hg), fun g1 g2 r1 r2 b k1 k2 => st.hs.inj g1 g2 r1 r2 b (hs.1 _ _ k1) (hs.1 _ _ k2), fun N hN => st.hs.nxt N (hs.2 N hN)⟩,
    st.fs.mono (Evo.refl c) fun b _ _ hn => ⟨rfl, fun hd => hn (hblk b hd), fun _ hz => hz⟩⟩

theorem St.keepS (st : St c0 h0 n c h bb F a) (ks : List Nat) : St c0 h0 n c h bb (AM.keep ks F) a := by
  have hf : ∀ k' fr cs, look (AM.keep ks F) k' = .box fr cs → look F k' = .box fr cs := by
    intro k' fr cs hl
    rcases look_keep ks F k' with e | e
    · rw [e] at hl; cases hl
    · rw [e] at hl; exact hl
  refine ⟨st.keep, st.ok, st.hs, st.fs.size, st.fs.defers, fun k hk => ?_, fun k hk => ?_, fun k k' fr cs fr' cs' h1 h2 => st.fs.inj _ _ _ _ _ _ (hf _ _ _ h1) (hf _ _ _ h2)⟩
  · rcases look_keep ks F k with e | e
    · rw [e]; exact SlotOk.of_RV1 (.dead _)
    · rw [e]; exact SlotOk.frame (st.fs.slot k hk) fun k' fr cs hl => ⟨fr, cs, hf _ _ _ hl⟩
  · rcases look_keep ks F k with e | e
    · exact e
    · rw [e]; exact st.fs.high k hk

theorem Gh_ok (hk : Gh K F h) : ∀ {c : Cfg}, St c0 h0 n c h bb F a → ∃ c' h' F', c'.w = c.w ∧ Evo c c' ∧ St c0 h0 n c' h' bb F' a ∧ K F' h' := by
  induction hk with
  | done k => intro c st; exact ⟨c, _, _, rfl, Evo.refl c, st, k⟩
  | @view F h s g r v hg hz hv _ ih =>
    intro c st
    have st1 := st.frz hg hz
    have hrow := st.hs.row g r hg
    obtain ⟨c', h', F', h1, h2, h3, h4⟩ := ih ⟨st1.keep, st1.ok, st1.hs, st.fs.lift st1.fs rfl (Evo.frz c g r) (Tells.frz hrow hz) hv⟩
    exact ⟨c', h', F', h1, (Evo.frz c g r).trans h2, h3, h4⟩
  | @nilrow F h s sz v hsz hv _ ih =>
    intro c st
    obtain ⟨g, hg1, hg2⟩ := fresh st.ok st.hs
    obtain ⟨e1, st1, t1⟩ := st.nilrow hsz hg1 hg2
    obtain ⟨c', h', F', h1, h2, h3, h4⟩ := ih g hg2.1 ⟨st1.keep, st1.ok, st1.hs, st.fs.lift st1.fs rfl e1 t1 (hv g)⟩
    exact ⟨c', h', F', h1, e1.trans h2, h3, h4⟩
  | @soft F h s v hv _ ih =>
    intro c st
    exact ih ⟨st.keep, st.ok, st.hs, st.fs.lift st.fs rfl (Evo.refl c) Tells.soft hv⟩
  | keep ks _ ih => intro c st; exact ih (st.keepS ks)
  | sub hs _ ih => intro c st; exact ih (st.sub hs)

theorem gh_ok {vs : List V} (st : St c0 h0 n c h bb F a) (hk : gh vs F h K) : ∃ c' h' F', c'.w = c.w ∧ Evo c c' ∧ St c0 h0 n c' h' bb F' a ∧ K F' h' := by
  cases h with
  | sy m =>
    simp only [gh] at hk
    split at hk
    · exact Gh_ok hk st
    · exact ⟨c, _, F, rfl, Evo.refl c, st, hk⟩
  | ex t q => exact ⟨c, _, F, rfl, Evo.refl c, st, hk⟩
theorem gh1_ok (st : St c0 h0 n c h bb F a) (hk : gh1 F h K) : ∃ c' h' F', c'.w = c.w ∧ Evo c c' ∧ St c0 h0 n c' h' bb F' a ∧ K F' h' := by
  cases h with
  | sy m => exact Gh_ok hk st
  | ex t q => exact ⟨c, _, F, rfl, Evo.refl c, st, hk⟩

end
end Go.AM
