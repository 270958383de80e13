/- Soundness, 1: operands, slots. -/
import Derived.Test.YtjneljpbkjhlmaaGreatDoorAmA
import Derived.Laws.Cells
import Derived.Laws.IdiomCopy
import Derived.LaidEqlPtr
import Derived.Laws.Strings
import Derived.Laws.StructEq
import Derived.Laws.BytesArg
set_option linter.unusedVariables false
set_option linter.unusedSimpArgs false
set_option linter.unnecessarySimpa false
set_option linter.unusedSectionVars false
set_option linter.unusedVariables false
set_option linter.unusedSimpArgs false
namespace Go.AM
open Go

/-- An operand's value: a pointer into a box, or a value. -/
def VOk (c : Cfg) (F : Fr) (bb : Nat → Nat) : V → Value → Prop
  | .lptr k off, x => ∀ fr cs, look F k = .box fr cs → x = .pointer (some ⟨bb k, off, none⟩)
  | v, x => RV c v x

theorem VOk.of_RV {c : Cfg} {F : Fr} {bb : Nat → Nat} {v : V} {x : Value} (h : RV c v x) : VOk c F bb v x := by
  cases h <;> (first | exact RV.dead _ | (unfold VOk; constructor <;> assumption))

theorem VOk.rv {c : Cfg} {F : Fr} {bb : Nat → Nat} {v : V} {x : Value} (h : VOk c F bb v x) (hp : ∀ k off, v ≠ .lptr k off) : RV c v x := by
  cases v <;> first | exact h | exact absurd rfl (hp _ _)

theorem SlotOk.of_VOk {c : Cfg} {h : H} {F : Fr} {bb : Nat → Nat} {base k : Nat} {v : V} {x : Value} (hv : VOk c F bb v x) : SlotOk c h F bb base k v x := by
  cases v <;> first | exact hv | (exact (nomatch (show RV c (.box _ _) x from hv)))

theorem SlotOk.to_VOk {c : Cfg} {h : H} {F : Fr} {bb : Nat → Nat} {base k : Nat} {v : V} {x : Value} (hv : SlotOk c h F bb base k v x) (hb : ∀ fr cs, v ≠ .box fr cs) : VOk c F bb v x := by
  cases v <;> first | exact hv | exact absurd rfl (hb _ _)

theorem cv_RV (c : Cfg) (v : Value) : RV c (cv v) v := by
  unfold cv
  split
  · exact .tt
  · exact .ff
  · exact .i _ _
  · rename_i s
    have : s = ⟨s.data.toList.toArray⟩ := by cases s; simp
    conv => rhs; rw [this]
    exact .s _
  · exact .nils
  · exact .nilp
  · exact .nilm
  · exact .nilf
  · exact .nili
  · exact .dead _

theorem ev_ok {base n : Nat} {c : Cfg} {h : H} {bb : Nat → Nat} {F : Fr} {a : Act} (hF : FSim base n c h bb F a) (o : Operand) : VOk c F bb (ev F o) (a.eval o) := by
  cases o with
  | tmp t =>
    simp only [ev, lookR_eq, Act.eval]
    by_cases ht : t < n
    · have hs := hF.slot t ht
      split
      · rename_i fr cs hl
        rw [hl] at hs
        intro fr' cs' _
        exact hs.1
      · rename_i hb
        exact hs.to_VOk fun fr cs he => hb fr cs he
    · rw [hF.high t (Nat.le_of_not_lt ht)]
      exact RV.dead _
  | const v => exact VOk.of_RV (cv_RV c v)
  | global g => exact RV.dead _
  | func f => exact RV.fn' (xs := []) (RVs.nil c)

theorem SlotOk.frame {c : Cfg} {h : H} {F F' : Fr} {bb : Nat → Nat} {base k : Nat} {v : V} {x : Value} (hs : SlotOk c h F bb base k v x)
    (hf : ∀ k' fr cs, look F' k' = .box fr cs → ∃ fr' cs', look F k' = .box fr' cs') : SlotOk c h F' bb base k v x := by
  cases v <;> first | exact hs | skip
  intro fr cs hl
  obtain ⟨fr', cs', hl'⟩ := hf _ _ _ hl
  exact hs fr' cs' hl'

/-- A slot gets a value. -/
theorem FSim.set {base n : Nat} {c : Cfg} {h : H} {bb : Nat → Nat} {F : Fr} {a : Act} (hF : FSim base n c h bb F a) {d : Nat} (hd : d < n) {v : V} {x : Value}
    (hv : VOk c F bb v x) : FSim base n c h bb (setF F d v) { a with tmps := a.tmps.setIfInBounds d x } := by
  have hnb : ∀ fr cs, v ≠ .box fr cs := by
    intro fr cs he
    subst he
    exact nomatch (show RV c (.box fr cs) x from hv)
  have hf : ∀ k' fr cs, look (setF F d v) k' = .box fr cs → ∃ fr' cs', look F k' = .box fr' cs' := by
    intro k' fr cs hl
    by_cases hk : k' = d
    · subst hk; rw [look_setF_same] at hl; exact absurd hl (hnb _ _)
    · rw [look_setF_ne _ _ _ _ hk] at hl; exact ⟨_, _, hl⟩
  refine ⟨by simp [hF.size], hF.defers, fun k hk => ?_, fun k hk => ?_, fun k k' fr cs fr' cs' h1 h2 => ?_⟩
  · by_cases hkd : k = d
    · subst hkd
      rw [look_setF_same]
      have : (a.tmps.setIfInBounds k x).getD k undef = x := by simp [Array.getD, hF.size, hk]
      rw [this]
      exact SlotOk.frame (SlotOk.of_VOk hv) hf
    · rw [look_setF_ne _ _ _ _ hkd]
      have : (a.tmps.setIfInBounds d x).getD k undef = a.tmps.getD k undef := by
        simp only [Array.getD_eq_getD_getElem?, Array.getElem?_setIfInBounds]
        rw [if_neg (fun e => hkd e.symm)]
      rw [this]
      exact SlotOk.frame (hF.slot k hk) hf
  · rw [look_setF_ne _ _ _ _ (by omega)]
    exact hF.high k hk
  · by_cases hk : k = d
    · subst hk; rw [look_setF_same] at h1; exact absurd h1 (hnb _ _)
    · by_cases hk' : k' = d
      · subst hk'; rw [look_setF_same] at h2; exact absurd h2 (hnb _ _)
      · rw [look_setF_ne _ _ _ _ hk] at h1
        rw [look_setF_ne _ _ _ _ hk'] at h2
        exact hF.inj k k' _ _ _ _ h1 h2

theorem put_ok {base n : Nat} {c : Cfg} {h : H} {bb : Nat → Nat} {F : Fr} {a : Act} (hF : FSim base n c h bb F a) {dst : Option Nat} {v : V} {x : Value} {K : Fr → Prop}
    (hv : VOk c F bb v x) (hk : put n F dst v K) : ∃ F', FSim base n c h bb F' (a.put dst x) ∧ K F' := by
  cases dst with
  | none => exact ⟨F, hF, hk⟩
  | some d =>
    simp only [put] at hk
    split at hk
    · rename_i hle
      have hd : d < n := Nat.le_of_ble_eq_true hle
      simp only [force_eq, setK_eq] at hk
      exact ⟨_, hF.set hd hv, hk⟩
    · exact hk.elim

/-- The frame in a configuration that has grown, the abstract heap another one. -/
theorem SlotOk.mono {c c' : Cfg} {h h' : H} {F : Fr} {bb : Nat → Nat} {base k : Nat} {v : V} {x : Value} (hs : SlotOk c h F bb base k v x) (e : Evo c c')
    (hb : ∀ b, base ≤ b → b < c.w.heap.size → ¬ Blk c h b → c'.w.heap[b]? = c.w.heap[b]? ∧ ¬ Blk c' h' b ∧ ∀ o, c'.Z b o → c.Z b o) : SlotOk c' h' F bb base k v x := by
  cases v with
  | box fr cs =>
    obtain ⟨h1, h2, h3, arr, t, h4, h5, h6, h7, h8⟩ := hs
    have hlt : bb k < c.w.heap.size := (Array.getElem?_eq_some_iff.1 h4).1
    obtain ⟨k1, k2, k3⟩ := hb (bb k) h2 hlt h3
    refine ⟨h1, h2, k2, arr, t, k1.trans h4, h5, h6, fun j v hj => ?_, ?_⟩
    · obtain ⟨y, hy, hr⟩ := h7 j v hj
      exact ⟨y, hy, hr.mono e⟩
    · cases fr with
      | true => exact fun j v hj => e.z _ _ (h8 j v hj)
      | false => exact fun o hz => h8 o (k3 o hz)
  | lptr k off => exact hs
  | _ => exact RV.mono hs e

theorem FSim.mono {base n : Nat} {c c' : Cfg} {h h' : H} {bb : Nat → Nat} {F : Fr} {a : Act} (hF : FSim base n c h bb F a) (e : Evo c c')
    (hb : ∀ b, base ≤ b → b < c.w.heap.size → ¬ Blk c h b → c'.w.heap[b]? = c.w.heap[b]? ∧ ¬ Blk c' h' b ∧ ∀ o, c'.Z b o → c.Z b o) : FSim base n c' h' bb F a :=
  ⟨hF.size, hF.defers, fun k hk => (hF.slot k hk).mono e hb, hF.high, hF.inj⟩

theorem FSim.keep {base n : Nat} {c c' : Cfg} {h h' : H} {bb : Nat → Nat} {F : Fr} {a : Act} (hF : FSim base n c h bb F a) (k : Keep c h c' h') : FSim base n c' h' bb F a :=
  hF.mono k.evo fun b _ hlt hn => ⟨k.blk b hlt hn, fun hd => hn (k.dom b hlt hd), fun o hz => k.z b o hlt hn hz⟩

theorem wp_value {P : Program} {o : Oper} {a : Act} {w w' : World} {next : Act → World → Prop} {Q : Exit → Act → World → Prop} {x : Value}
    (hr : (execOp a.eval o).run P w = .ok (.value x) w') (hn : next (a.put o.dst x) w') : o.wp P a w next Q := by
  simp only [Oper.wp, hr, Oper.upon]
  exact hn
theorem wp_skip' {P : Program} {o : Oper} {a : Act} {w w' : World} {next : Act → World → Prop} {Q : Exit → Act → World → Prop}
    (hr : (execOp a.eval o).run P w = .ok .skip w') (hn : next (a.put o.dst undef) w') : o.wp P a w next Q := by
  simp only [Oper.wp, hr, Oper.upon]
  exact hn

end Go.AM
/- Soundness, 2: what is known of types; loads. -/
set_option linter.unusedVariables false
set_option linter.unusedSimpArgs false
namespace Go.AM
open Go

/-- Is a type that of a plain cell? -/
noncomputable def flatF (P : Program) (z : V) (t : TypeId) : Bool :=
  match z with
  | .i kk _ => match P.underlying t with
    | some (.int k') => kq k' kk
    | _ => false
  | .s _ => match P.underlying t with
    | some .string => true
    | _ => false
  | .ff => match P.underlying t with
    | some .bool => true
    | _ => false
  | _ => false
/-- Fields of plain cells. -/
noncomputable def fieldFlat (P : Program) : Nat → List V → List Field → Bool
  | _, [], [] => true
  | k, z :: zs, f :: fs => !(f.name == "_") && Nat.beq f.offset k && flatF P z f.type && fieldFlat P (k + 1) zs fs
  | _, _, _ => false
def TIok (P : Program) (t : TypeId) : TI → Prop
  | .no => True
  | .one z => (∃ d, P.underlying t = some d ∧ (∀ fs, d ≠ .struct fs) ∧ (∀ m e, d ≠ .array m e) ∧ (∀ k m, z = .i k m → d = .int k) ∧ (∀ l, z = .s l → d = .string) ∧ (z = .ff → d = .bool)) ∧
      ∃ i zv, P.info? t = some i ∧ i.size = 1 ∧ i.zero = some zv ∧ cv zv = z ∧ cell1 z = true
  | .pt => (∃ e, P.underlying t = some (.pointer e) ∧ ∃ j, P.info? e = some j) ∧ ∃ i, P.info? t = some i ∧ i.size = 1 ∧ i.zero = some (.pointer none)
  | .sl esz eb ez => ∃ e, P.underlying t = some (.slice e) ∧ (∃ i, P.info? t = some i ∧ i.size = 1 ∧ i.zero = some (.slice none 0 0)) ∧
      ∃ i zv, P.info? e = some i ∧ i.size = esz ∧ 0 < esz ∧ i.bytes = eb ∧ i.zero = some zv ∧ zv.cells.toList.map cv = ez ∧ ez.length = esz ∧ cellL ez = true ∧ (∀ k m, ez = [.i k m] → P.underlying e = some (.int k))
  | .st offs z => ∃ fs, P.underlying t = some (.struct fs) ∧
      (∀ (f off sz : Nat), offs[f]? = some (off, sz) → ∃ fld i, fs[f]? = some fld ∧ fld.offset = off ∧ P.info? fld.type = some i ∧ i.size = sz) ∧
      ∃ i xs, P.info? t = some i ∧ i.size = z.length ∧ i.zero = some (.agg xs) ∧ xs.toList.map cv = z ∧ cellL z = true ∧ offs.length = fs.size ∧ (∀ (f off sz : Nat), offs[f]? = some (off, sz) → off + sz ≤ z.length) ∧ (flatV z = true → offs.length = z.length → P.stoodInHeld t = false ∧ P.eqGuardType P.depth t = false ∧ fieldFlat P 0 z fs.toList = true)
  | .ar m esz z => ∃ e, P.underlying t = some (.array m e) ∧ (∃ ie, P.info? e = some ie ∧ ie.size = esz ∧ 0 < esz) ∧
      ∃ i xs, P.info? t = some i ∧ i.size = z.length ∧ i.zero = some (.agg xs) ∧ xs.toList.map cv = z ∧ cellL z = true ∧ 1 < m
  | .up => P.underlying t = some .unsafePointer ∧ ∃ i, P.info? t = some i ∧ i.size = 1
  | .mp kz ez => ∃ k e, P.underlying t = some (.map k e) ∧ (∃ i, P.info? t = some i ∧ i.size = 1 ∧ i.zero = some (.map none)) ∧
      (kz = .dead ∨ (∃ kk m, kz = .i kk m ∧ P.underlying k = some (.int kk)) ∨ ∃ l, kz = .s l ∧ P.underlying k = some .string) ∧
      ∃ i zv, P.info? e = some i ∧ i.zero = some zv ∧ ((∃ xs, zv = .agg xs ∧ ez = .agg (xs.toList.map cv)) ∨ (cv zv = ez ∧ cell1 ez = true))

def CellsAt (c : Cfg) (b o : Nat) (cs : List V) : Prop := ∀ (j : Nat) (v : V), cs[j]? = some v → ∃ x, c.w.cell? ⟨b, o + j, none⟩ = some x ∧ RV c v x

theorem add_lit' (b o j : Nat) : (⟨b, o, none⟩ : Addr).add j = ⟨b, o + j, none⟩ := by unfold Addr.add; split <;> simp_all

theorem cellL_at {l : List V} (h : cellL l = true) : ∀ (j : Nat) (v : V), l[j]? = some v → cell1 v = true := by
  induction l with
  | nil => intro j v hj; simp at hj
  | cons x r ih =>
    intro j v hj
    simp only [cellL] at h
    split at h
    · rename_i h1
      cases j with
      | zero => simp at hj; subst hj; exact h1
      | succ j => exact ih h j v (by simpa using hj)
    · cases h

theorem cell1_one {c : Cfg} {v : V} {x : Value} (hv : cell1 v = true) (h : RV c v x) : x.oneCell' = true := by
  cases h <;> first | rfl | (simp [cell1] at hv)

theorem cell1_cells {c : Cfg} {v : V} {x : Value} (hv : cell1 v = true) (h : RV c v x) : x.cells = #[x] := by
  cases h <;> first | rfl | (simp [cell1] at hv)

/-- A value's cells. -/
theorem cellsOf_ok {c : Cfg} {v : V} {x : Value} (h : RV c v x) (hc : cellL (cellsOf v) = true) : RVs c (cellsOf v) x.cells.toList := by
  cases h with
  | agg cs xs hl hr => exact ⟨by simpa [Value.cells, cellsOf] using hl, by simpa [Value.cells, cellsOf] using hr⟩
  | dead x => simp [cellsOf, cellL, cell1] at hc
  | tup cs xs hl hr => simp [cellsOf, cellL, cell1] at hc
  | garr g sz i off esz m b h => simp [cellsOf, cellL, cell1] at hc
  | _ => exact RVs.cons (by constructor <;> assumption) (RVs.nil c)

theorem cells_one {c : Cfg} {vs : List V} {xs : List Value} (h : RVs c vs xs) (hc : cellL vs = true) : ∀ x ∈ xs, x.oneCell' = true := by
  intro x hx
  obtain ⟨j, hj, rfl⟩ := List.getElem_of_mem hx
  have hlen := h.len
  have hv : vs[j]? = some (vs[j]'(by omega)) := List.getElem?_eq_getElem _
  exact cell1_one (cellL_at hc j _ hv) (h.at_ j _ _ hv (List.getElem?_eq_getElem hj))

/-- The concrete cells of a piece of memory that reads as cs. -/
theorem CellsAt.list {c : Cfg} {b o : Nat} {cs : List V} (h : CellsAt c b o cs) : ∃ xs : List Value, RVs c cs xs ∧ ∀ (j : Nat) (x : Value), xs[j]? = some x → c.w.cell? ⟨b, o + j, none⟩ = some x := by
  induction cs generalizing o with
  | nil => exact ⟨[], RVs.nil c, by simp⟩
  | cons v r ih =>
    obtain ⟨x, hx, hr⟩ := h 0 v rfl
    obtain ⟨xs, h1, h2⟩ := ih (o := o + 1) (fun j u hj => by
      have := h (j + 1) u (by simpa using hj)
      rwa [show o + (j + 1) = o + 1 + j by omega] at this)
    refine ⟨x :: xs, RVs.cons hr h1, fun j y hj => ?_⟩
    cases j with
    | zero => simp at hj; subst hj; exact hx
    | succ j => rw [show o + (j + 1) = o + 1 + j by omega]; exact h2 j y (by simpa using hj)

theorem CellsAt.drop {c : Cfg} {b o : Nat} {cs : List V} (h : CellsAt c b o cs) (n : Nat) : CellsAt c b (o + n) (cs.drop n) := fun j v hj => by
  have := h (n + j) v (by simpa using hj)
  rwa [show o + (n + j) = o + n + j by omega] at this
theorem CellsAt.take {c : Cfg} {b o : Nat} {cs : List V} (h : CellsAt c b o cs) (n : Nat) : CellsAt c b o (cs.take n) := fun j v hj => by
  rw [List.getElem?_take] at hj
  split at hj
  · exact h j v hj
  · cases hj

theorem cut_get {l : List V} {off n : Nat} : cut l off n = (l.drop off).take n := cut_eq l off n

theorem loadAgg_ok {P : Program} {c : Cfg} {t : TypeId} {b o : Nat} {cs z : List V} {off : Nat} {i : TypeInfo} {d : TypeDesc} (hu : P.underlying t = some d)
    (hd : (∃ fs, d = .struct fs) ∨ ∃ m e, d = .array m e) (hi : P.info? t = some i) (hz : i.size = z.length) (hcs : CellsAt c b o cs) (hl : (cut cs off (len z)).length = z.length) :
    ∃ x, (loadVar t ⟨b, o + off, none⟩).run P c.w = .ok x c.w ∧ RV c (.agg (cut cs off (len z))) x := by
  obtain ⟨xs, h1, h2⟩ := ((hcs.drop off).take (len z)).list
  rw [← cut_eq] at h1
  refine ⟨.agg xs.toArray, ?_, RV.agg' h1⟩
  have hlx : xs.length = i.size := by rw [hz, ← hl, h1.len]
  have hrun : (loadCells ⟨b, o + off, none⟩ i.size).run P c.w = .ok xs.toArray c.w := by
    rw [← hlx]
    exact run_loadCells_list c.w _ xs (fun j v hj => by rw [add_lit']; exact h2 j v hj)
  have hagg : (isAgg t).run P c.w = .ok true c.w := by
    rcases hd with ⟨fs, rfl⟩ | ⟨m, e, rfl⟩ <;> simp [isAgg, run_underlying hu]
  simp [loadVar, hagg, sizeOf, typeInfo, hi, hrun]

theorem loadOne_ok {P : Program} {c : Cfg} {t : TypeId} {b o : Nat} {cs : List V} {off : Nat} {d : TypeDesc} {v : V} (hu : P.underlying t = some d)
    (h1 : ∀ fs, d ≠ .struct fs) (h2 : ∀ m e, d ≠ .array m e) (hcs : CellsAt c b o cs) (hv : cs[off]? = some v) :
    ∃ x, (loadVar t ⟨b, o + off, none⟩).run P c.w = .ok x c.w ∧ RV c v x := by
  obtain ⟨x, hx, hr⟩ := hcs off v hv
  refine ⟨x, ?_, hr⟩
  have hagg : (isAgg t).run P c.w = .ok false c.w := by
    cases d <;> first | (simp [isAgg, run_underlying hu]; done) | exact absurd rfl (h1 _) | exact absurd rfl (h2 _ _)
  simp [loadVar, hagg, hx]

theorem nth_get {l : List V} {n : Nat} {v : V} (h : nth l n = v) (hd : v ≠ .dead) : l[n]? = some v := by
  induction l generalizing n with
  | nil => simp [nth] at h; exact absurd h.symm hd
  | cons x r ih => cases n with
    | zero => simp [nth] at h; simp [h]
    | succ n => simp [nth] at h; simpa using ih h

theorem TIok.one_desc {P : Program} {t : TypeId} {ti : TI} (h : TIok P t ti) (hti : (∃ z, ti = .one z) ∨ ti = .pt ∨ (∃ a b z, ti = .sl a b z) ∨ ti = .up ∨ ∃ a b, ti = .mp a b) :
    ∃ d i, P.underlying t = some d ∧ (∀ fs, d ≠ .struct fs) ∧ (∀ m e, d ≠ .array m e) ∧ P.info? t = some i ∧ i.size = 1 := by
  rcases hti with ⟨z, rfl⟩ | rfl | ⟨a, b, z, rfl⟩ | rfl | ⟨a, b, rfl⟩
  · obtain ⟨⟨d, h1, h2, h3, _⟩, i, zv, h4, h5, _⟩ := h
    exact ⟨d, i, h1, h2, h3, h4, h5⟩
  · obtain ⟨⟨e, h1, _⟩, i, h4, h5, _⟩ := h
    exact ⟨_, i, h1, by simp, by simp, h4, h5⟩
  · obtain ⟨e, h1, ⟨i, h4, h5, _⟩, _⟩ := h
    exact ⟨_, i, h1, by simp, by simp, h4, h5⟩
  · obtain ⟨h1, i, h4, h5⟩ := h
    exact ⟨_, i, h1, by simp, by simp, h4, h5⟩
  · obtain ⟨k, e, h1, ⟨i, h4, h5, _⟩, _⟩ := h
    exact ⟨_, i, h1, by simp, by simp, h4, h5⟩

theorem loadC_ok {P : Program} {c : Cfg} {t : TypeId} {ti : TI} (hti : TIok P t ti) {b o : Nat} {cs : List V} {off : Nat} (hcs : CellsAt c b o cs) {K : V → Prop} (hk : loadC ti cs off K) :
    ∃ v x, (loadVar t ⟨b, o + off, none⟩).run P c.w = .ok x c.w ∧ RV c v x ∧ K v := by
  have one : ((∃ z, ti = .one z) ∨ ti = .pt ∨ (∃ a b z, ti = .sl a b z) ∨ ti = .up ∨ ∃ a b, ti = .mp a b) → (force (nth cs off) fun v => match cell1 v with | true => K v | false => False) →
      ∃ v x, (loadVar t ⟨b, o + off, none⟩).run P c.w = .ok x c.w ∧ RV c v x ∧ K v := fun h hk => by
    simp only [force_eq] at hk
    split at hk
    · rename_i h1
      obtain ⟨d, i, hu, hd1, hd2, _, _⟩ := hti.one_desc h
      have hne : nth cs off ≠ .dead := by intro e; rw [e] at h1; cases h1
      obtain ⟨x, hx, hr⟩ := loadOne_ok hu hd1 hd2 hcs (nth_get rfl hne)
      exact ⟨nth cs off, x, hx, hr, hk⟩
    · exact hk.elim
  cases ti with
  | no => exact hk.elim
  | one z => exact one (.inl ⟨z, rfl⟩) hk
  | pt => exact one (.inr (.inl rfl)) hk
  | sl a b z => exact one (.inr (.inr (.inl ⟨a, b, z, rfl⟩))) hk
  | up => exact one (.inr (.inr (.inr (.inl rfl)))) hk
  | mp a b => exact one (.inr (.inr (.inr (.inr ⟨a, b, rfl⟩)))) hk
  | st offs z =>
    simp only [loadC, forceL_eq] at hk
    split at hk
    · rename_i hl
      obtain ⟨fs, hu, _, i, xs, hi, hsz, _⟩ := hti
      have hl' := beq_of hl
      simp only [len_eq] at hl'
      obtain ⟨x, hx, hr⟩ := loadAgg_ok (z := z) hu (.inl ⟨fs, rfl⟩) hi hsz hcs (by simpa [len_eq] using hl')
      exact ⟨_, x, hx, hr, hk⟩
    · exact hk.elim
  | ar m esz z =>
    simp only [loadC, forceL_eq] at hk
    split at hk
    · rename_i hl
      obtain ⟨e, hu, _, i, xs, hi, hsz, _⟩ := hti
      have hl' := beq_of hl
      simp only [len_eq] at hl'
      obtain ⟨x, hx, hr⟩ := loadAgg_ok (z := z) hu (.inr ⟨m, e, rfl⟩) hi hsz hcs (by simpa [len_eq] using hl')
      exact ⟨_, x, hx, hr, hk⟩
    · exact hk.elim

end Go.AM
/- Soundness, 3: operations that only reckon. -/
set_option linter.unusedVariables false
set_option linter.unusedSimpArgs false
namespace Go.AM
open Go

structure St (c0 : Cfg) (h0 : H) (n : Nat) (c : Cfg) (h : H) (bb : Nat → Nat) (F : Fr) (a : Act) : Prop where
  keep : Keep c0 h0 c h
  ok : CfgOk c
  hs : HSim c h
  fs : FSim c0.w.heap.size n c h bb F a

section
variable {P : Program} {md : Bool} {c0 : Cfg} {h0 : H} {n : Nat} {c : Cfg} {h : H} {bb : Nat → Nat} {F : Fr} {a : Act} {o : Oper} {next : Act → World → Prop} {Q : Exit → Act → World → Prop} {K : Fr → H → Prop}

/-- An operation that hands on a value and leaves the world as it is, in all worlds of W. -/
def PW (P : Program) (o : Oper) (a : Act) (W : World → Prop) (c0 : Cfg) (h0 : H) (n : Nat) (c : Cfg) (h : H) (bb : Nat → Nat) (K : Fr → H → Prop) : Prop :=
  ∃ x F', (∀ w, W w → (execOp a.eval o).run P w = .ok (.value x) w) ∧ St c0 h0 n c h bb F' (a.put o.dst x) ∧ K F' h
theorem pw_done {v : V} {x : Value} (st : St c0 h0 n c h bb F a) (hr : ∀ w, (execOp a.eval o).run P w = .ok (.value x) w) (hv : VOk c F bb v x) (hk : put n F o.dst v fun F => K F h) :
    PW P o a (fun _ => True) c0 h0 n c h bb K := by
  obtain ⟨F', hF', hK⟩ := put_ok st.fs hv hk
  exact ⟨x, F', fun w _ => hr w, ⟨st.keep, st.ok, st.hs, hF'⟩, hK⟩
theorem pr_done {v : V} {x : Value} (st : St c0 h0 n c h bb F a) (hr : (execOp a.eval o).run P c.w = .ok (.value x) c.w) (hv : VOk c F bb v x) (hk : put n F o.dst v fun F => K F h) :
    PW P o a (fun w => w = c.w) c0 h0 n c h bb K := by
  obtain ⟨F', hF', hK⟩ := put_ok st.fs hv hk
  exact ⟨x, F', fun w hw => hw ▸ hr, ⟨st.keep, st.ok, st.hs, hF'⟩, hK⟩
theorem PW.here (h1 : PW P o a (fun _ => True) c0 h0 n c h bb K) : PW P o a (fun w => w = c.w) c0 h0 n c h bb K := by
  obtain ⟨x, F', h1, h2, h3⟩ := h1
  exact ⟨x, F', fun w _ => h1 w trivial, h2, h3⟩
theorem PW.wp (h1 : PW P o a (fun w => w = c.w) c0 h0 n c h bb K) (hn : ∀ c' h' bb' F' a', St c0 h0 n c' h' bb' F' a' → K F' h' → next a' c'.w) : o.wp P a c.w next Q := by
  obtain ⟨x, F', h1, h2, h3⟩ := h1
  exact wp_value (h1 c.w rfl) (hn c h bb F' _ h2 h3)

theorem VOk.int {k : IntKind} {m : Int} {x : Value} (hv : VOk c F bb (.i k m) x) : x = .int k m := by cases hv; rfl
theorem VOk.str {l : List UInt8} {x : Value} (hv : VOk c F bb (.s l) x) : x = .string ⟨l.toArray⟩ := by cases hv; rfl
theorem VOk.bv {v : V} {p : Bool} {x : Value} (hv : VOk c F bb v x) (hp : bv v = some p) : x = .bool p := by
  cases v <;> simp [Go.AM.bv] at hp <;> subst hp <;> cases hv <;> rfl

theorem guard_int (op : BinOp) (t : TypeId) (x y : Operand) (k k' : IntKind) (p q : Int) (w : World) : (eqGuard op t x y (.int k p) (.int k' q)).run P w = .ok () w := by
  cases op <;> simp [eqGuard]
theorem guard_str (op : BinOp) (t : TypeId) (x y : Operand) (p q : ByteArray) (w : World) : (eqGuard op t x y (.string p) (.string q)).run P w = .ok () w := by
  cases op <;> simp [eqGuard]
theorem guard_bool (op : BinOp) (t : TypeId) (x y : Operand) (p q : Bool) (w : World) : (eqGuard op t x y (.bool p) (.bool q)).run P w = .ok () w := by
  cases op <;> simp [eqGuard]

theorem _root_.Go.AM.bvI.rv {v : V} {x : Bool} (h : bvI v x) : RV c v (.bool x) := by
  cases h
  · exact .b _
  · exact .tt
  · exact .ff

theorem binInt {op : BinOp} {t : TypeId} {k : IntKind} {p q : Int} {k' : IntKind} {K : V → Prop} (hk : evBin md op (.i k p) (.i k' q) K) :
    ∃ v r, (∀ w : World, (binOp op t (.int k p) (.int k' q)).run P w = .ok r w) ∧ RV c v r ∧ K v := by
  cases op <;> simp only [evBin] at hk
  case quo =>
    split at hk
    · rename_i hkk
      have := kq_eq hkk
      subst this
      obtain ⟨h1, hk⟩ := chk_ok hk
      rw [mkI_eq] at hk
      exact ⟨_, _, fun w => by simp [binOp, Op.intDiv, h1], .i _ _, hk⟩
    · exact hk.elim
  case rem =>
    split at hk
    · rename_i hkk
      have := kq_eq hkk
      subst this
      obtain ⟨h1, hk⟩ := chk_ok hk
      rw [mkI_eq] at hk
      exact ⟨_, _, fun w => by simp [binOp, Op.intDiv, h1], .i _ _, hk⟩
    · exact hk.elim
  case shl =>
    obtain ⟨h1, hk⟩ := chk_ok hk
    rw [mkI_eq] at hk
    exact ⟨_, _, fun w => by simp [binOp, Op.shift, Int.not_lt.2 h1], .i _ _, hk⟩
  case shr =>
    obtain ⟨h1, hk⟩ := chk_ok hk
    rw [mkI_eq] at hk
    exact ⟨_, _, fun w => by simp [binOp, Op.shift, Int.not_lt.2 h1], .i _ _, hk⟩
  all_goals
    split at hk
    · rename_i hkk
      have := kq_eq hkk
      subst this
      first
        | (rw [mkI_eq] at hk; exact ⟨_, _, fun w => by simp only [binOp, Op.intArith, ne_eq, not_true_eq_false, if_false]; rfl, .i _ _, hk⟩)
        | (rw [mkI_eq] at hk; exact ⟨_, _, fun w => by simp only [binOp, Op.intBits, ne_eq, not_true_eq_false, if_false, bits]; rfl, .i _ _, hk⟩)
        | (obtain ⟨v, hv, hk⟩ := mkB_ok hk; exact ⟨v, _, fun w => by simp only [binOp, Op.intCmp, ne_eq, not_true_eq_false, if_false]; rfl, hv.rv, hk⟩)
    · exact hk.elim

theorem mk_inj {p q : List UInt8} : ((⟨p.toArray⟩ : ByteArray).toList == (⟨q.toArray⟩ : ByteArray).toList) = decide (p = q) := by
  simp [ByteArray.toList_mk, Bool.beq_eq_decide_eq]

theorem binStr {op : BinOp} {t : TypeId} {p q : List UInt8} {K : V → Prop} (hk : evBin md op (.s p) (.s q) K) :
    ∃ v r, (∀ w : World, (binOp op t (.string ⟨p.toArray⟩) (.string ⟨q.toArray⟩)).run P w = .ok r w) ∧ RV c v r ∧ K v := by
  cases op <;> simp only [evBin] at hk <;> first | exact hk.elim | skip
  case add =>
    obtain ⟨hk1, hk⟩ := chk_ok hk
    rw [mkS_eq] at hk
    refine ⟨_, .string ⟨(p ++ q).toArray⟩, ?_, .s _, hk⟩
    intro w
    have h1 : ¬ (((⟨p.toArray⟩ : ByteArray).size + (⟨q.toArray⟩ : ByteArray).size : Nat) : Int) > IntKind.i64.max := by
      have : IntKind.i64.max = 9223372036854775807 := by decide
      rw [this]
      simp [ByteArray.size]
      have := hk1
      omega
    simp only [binOp, Op.stringOp]
    rw [if_neg h1]
    simp
    rw [show (⟨p.toArray⟩ : ByteArray) ++ ⟨q.toArray⟩ = ⟨(p ++ q).toArray⟩ from by apply ByteArray.ext; simp]
  all_goals
    obtain ⟨v, hv, hk⟩ := mkB_ok hk
    refine ⟨v, _, ?_, hv.rv, hk⟩
    intro w
    simp only [binOp, Op.stringOp, ByteArray.toList_mk]
    simp [Bool.beq_eq_decide_eq]

theorem evBin_ok {op : BinOp} {t : TypeId} {x y : V} {xv yv : Value} {K : V → Prop} (xo yo : Operand) (hx : VOk c F bb x xv) (hy : VOk c F bb y yv) (hk : evBin md op x y K) :
    ∃ v r, (∀ w : World, (do eqGuard op t xo yo xv yv; binOp op t xv yv : Sem Value).run P w = .ok r w) ∧ RV c v r ∧ K v := by
  have key : (∃ k p k' q, x = .i k p ∧ y = .i k' q) ∨ (∃ p q, x = .s p ∧ y = .s q) := by
    cases op <;> simp only [evBin] at hk <;> split at hk <;> first
      | exact hk.elim
      | exact .inl ⟨_, _, _, _, rfl, rfl⟩
      | exact .inr ⟨_, _, rfl, rfl⟩
  rcases key with ⟨k, p, k', q, rfl, rfl⟩ | ⟨p, q, rfl, rfl⟩
  · rw [hx.int, hy.int]
    obtain ⟨v, r, h1, h2, h3⟩ := binInt (P := P) (c := c) (t := t) hk
    exact ⟨v, r, fun w => by simp only [Sem.run_bind, guard_int, Result.andThen_ok, h1 w], h2, h3⟩
  · rw [hx.str, hy.str]
    obtain ⟨v, r, h1, h2, h3⟩ := binStr (P := P) (c := c) (t := t) hk
    exact ⟨v, r, fun w => by simp only [Sem.run_bind, guard_str, Result.andThen_ok, h1 w], h2, h3⟩

theorem eqIn_bool {t : TypeId} (d : Nat) (ht : P.underlying t = some .bool) (p q : Bool) (w : World) : (Op.equalIn (d + 1) t (.bool p) (.bool q)).run P w = .ok (p == q) w := by
  simp [Op.equalIn, run_underlying ht]
theorem eqIn_ptr1 {t e : TypeId} (d : Nat) (ht : P.underlying t = some (.pointer e)) (p : Addr) (w : World) : (Op.equalIn (d + 1) t (.pointer (some p)) (.pointer none)).run P w = .ok false w := by
  simp [Op.equalIn, run_underlying ht]
theorem eqIn_ptr0 {t e : TypeId} (d : Nat) (ht : P.underlying t = some (.pointer e)) (w : World) : (Op.equalIn (d + 1) t (.pointer none) (.pointer none)).run P w = .ok true w := by
  simp [Op.equalIn, run_underlying ht]
theorem eqIn_sl0 {t e : TypeId} (d : Nat) (ht : P.underlying t = some (.slice e)) (w : World) : (Op.equalIn (d + 1) t (.slice none 0 0) (.slice none 0 0)).run P w = .ok true w := by
  simp [Op.equalIn, run_underlying ht]
theorem run_eql {t : TypeId} {x y : Value} {r : Bool} {w : World} (h : (Op.equal t x y).run P w = .ok r w) (hb : binOp .eql t x y = (do pure (.bool (← Op.equal t x y)))) :
    (binOp .eql t x y).run P w = .ok (.bool r) w := by rw [hb]; simp [h]
theorem run_neq {t : TypeId} {x y : Value} {r : Bool} {w : World} (h : (Op.equal t x y).run P w = .ok r w) (hb : binOp .neq t x y = (do pure (.bool (!(← Op.equal t x y))))) :
    (binOp .neq t x y).run P w = .ok (.bool (!r)) w := by rw [hb]; simp [h]

theorem evEqB_ok {op : BinOp} {t : TypeId} {x y : V} {xv yv : Value} {K : V → Prop} (xo yo : Operand) (ht : P.underlying t = some .bool) (hx : VOk c F bb x xv) (hy : VOk c F bb y yv)
    (hk : evEqB md op x y K) : ∃ v r, (∀ w : World, (do eqGuard op t xo yo xv yv; binOp op t xv yv : Sem Value).run P w = .ok r w) ∧ RV c v r ∧ K v := by
  unfold evEqB at hk
  split at hk
  · rename_i p q hp hq
    rw [hx.bv hp, hy.bv hq]
    cases op <;> simp only at hk <;> first | exact hk.elim | skip
    · obtain ⟨v, hv, hk⟩ := mkB_ok hk
      exact ⟨v, _, fun w => by simp only [Sem.run_bind, guard_bool, Result.andThen_ok]; exact run_eql (eqIn_bool 9999 ht p q w) rfl, hv.rv, hk⟩
    · obtain ⟨v, hv, hk⟩ := mkB_ok hk
      exact ⟨v, _, fun w => by simp only [Sem.run_bind, guard_bool, Result.andThen_ok]; exact run_neq (eqIn_bool 9999 ht p q w) rfl, hv.rv, hk⟩
  · exact hk.elim

theorem guard_ptr (op : BinOp) (t : TypeId) (x y : Operand) (p q : Option Addr) (w : World) : (eqGuard op t x y (.pointer p) (.pointer q)).run P w = .ok () w := by
  cases op <;> simp [eqGuard]
theorem guard_sl (op : BinOp) (t : TypeId) (x y : Operand) (p q : Option Addr) (k l k' l' : Nat) (w : World) : (eqGuard op t x y (.slice p k l) (.slice q k' l')).run P w = .ok () w := by
  cases op <;> simp [eqGuard]

theorem evPt_ok {op : BinOp} {t e : TypeId} {x y : V} {xv yv : Value} {K : V → Prop} (xo yo : Operand) (ht : P.underlying t = some (.pointer e)) {tj : TypeInfo} (hj : P.info? e = some tj) (hx : VOk c F bb x xv) (hy : VOk c F bb y yv)
    (hk : evPt op x y K) : ∃ v r, (∀ w : World, (do eqGuard op t xo yo xv yv; binOp op t xv yv : Sem Value).run P w = .ok r w) ∧ RV c v r ∧ K v := by
  unfold evPt at hk
  have same : ∀ (d : Nat) (p : Addr) (w : World), (Op.equalIn (d + 1) t (.pointer (some p)) (.pointer (some p))).run P w = .ok true w := fun d p w => by
    simp [Op.equalIn, run_underlying ht, sizeOf, typeInfo, hj, run_sameAddr_same]
  split at hk <;> first | exact hk.elim | skip
  · split at hk <;> first | exact hk.elim | skip
    · cases hx; cases hy
      exact ⟨.ff, _, fun w => by simp only [Sem.run_bind, guard_ptr, Result.andThen_ok]; exact run_eql (eqIn_ptr1 9999 ht _ w) rfl, .ff, hk⟩
    · cases hx; cases hy
      exact ⟨.ff, _, fun w => by simp only [Sem.run_bind, guard_ptr, Result.andThen_ok]; exact run_eql (eqIn_ptr1 9999 ht _ w) rfl, .ff, hk⟩
    · split at hk
      case h_2 => exact hk.elim
      rename_i hg
      have hg := beq_of hg
      subst hg
      cases hx with | bp _ _ _ b1 h1 _ _ => cases hy with | bp _ _ _ b2 h2 _ _ =>
      rw [h1] at h2
      injection h2 with h2; injection h2 with h2
      subst h2
      exact ⟨.tt, _, fun w => by simp only [Sem.run_bind, guard_ptr, Result.andThen_ok]; exact run_eql (same 9999 _ w) rfl, .tt, hk⟩
    · cases hx; cases hy
      exact ⟨.ff, _, fun w => by simp only [Sem.run_bind, guard_ptr, Result.andThen_ok]; exact run_eql (eqIn_ptr1 9999 ht _ w) rfl, .ff, hk⟩
    · cases hx; cases hy
      exact ⟨.tt, _, fun w => by simp only [Sem.run_bind, guard_ptr, Result.andThen_ok]; exact run_eql (eqIn_ptr0 9999 ht w) rfl, .tt, hk⟩
  · split at hk <;> first | exact hk.elim | skip
    · cases hx; cases hy
      exact ⟨.tt, _, fun w => by simp only [Sem.run_bind, guard_ptr, Result.andThen_ok]; exact run_neq (eqIn_ptr1 9999 ht _ w) rfl, .tt, hk⟩
    · cases hx; cases hy
      exact ⟨.tt, _, fun w => by simp only [Sem.run_bind, guard_ptr, Result.andThen_ok]; exact run_neq (eqIn_ptr1 9999 ht _ w) rfl, .tt, hk⟩
    · split at hk
      case h_2 => exact hk.elim
      rename_i hg
      have hg := beq_of hg
      subst hg
      cases hx with | bp _ _ _ b1 h1 _ _ => cases hy with | bp _ _ _ b2 h2 _ _ =>
      rw [h1] at h2
      injection h2 with h2; injection h2 with h2
      subst h2
      exact ⟨.ff, _, fun w => by simp only [Sem.run_bind, guard_ptr, Result.andThen_ok]; exact run_neq (same 9999 _ w) rfl, .ff, hk⟩
    · cases hx; cases hy
      exact ⟨.tt, _, fun w => by simp only [Sem.run_bind, guard_ptr, Result.andThen_ok]; exact run_neq (eqIn_ptr1 9999 ht _ w) rfl, .tt, hk⟩
    · cases hx; cases hy
      exact ⟨.ff, _, fun w => by simp only [Sem.run_bind, guard_ptr, Result.andThen_ok]; exact run_neq (eqIn_ptr0 9999 ht w) rfl, .ff, hk⟩

theorem evSl_ok {op : BinOp} {t e : TypeId} {x y : V} {xv yv : Value} {K : V → Prop} (xo yo : Operand) (ht : P.underlying t = some (.slice e)) (hx : VOk c F bb x xv) (hy : VOk c F bb y yv)
    (hk : evSl op x y K) : ∃ v r, (∀ w : World, (do eqGuard op t xo yo xv yv; binOp op t xv yv : Sem Value).run P w = .ok r w) ∧ RV c v r ∧ K v := by
  unfold evSl at hk
  have ne : ∀ (d : Nat) (p : Addr) (k l : Nat) (w : World), (Op.equalIn (d + 1) t (.slice (some p) k l) (.slice none 0 0)).run P w = .ok false w := fun d p k l w => by
    simp [Op.equalIn, run_underlying ht]
  split at hk <;> first | exact hk.elim | skip
  · split at hk <;> first | exact hk.elim | skip
    · cases hx; cases hy
      exact ⟨.tt, _, fun w => by simp only [Sem.run_bind, guard_sl, Result.andThen_ok]; exact run_eql (eqIn_sl0 9999 ht w) rfl, .tt, hk⟩
    · split at hk
      · exact hk.elim
      cases hx; cases hy
      exact ⟨.ff, _, fun w => by simp only [Sem.run_bind, guard_sl, Result.andThen_ok]; exact run_eql (ne 9999 _ _ _ w) rfl, .ff, hk⟩
    · split at hk
      · exact hk.elim
      cases hx; cases hy
      exact ⟨.ff, _, fun w => by simp only [Sem.run_bind, guard_sl, Result.andThen_ok]; exact run_eql (ne 9999 _ _ _ w) rfl, .ff, hk⟩
  · split at hk <;> first | exact hk.elim | skip
    · cases hx; cases hy
      exact ⟨.ff, _, fun w => by simp only [Sem.run_bind, guard_sl, Result.andThen_ok]; exact run_neq (eqIn_sl0 9999 ht w) rfl, .ff, hk⟩
    · split at hk
      · exact hk.elim
      cases hx; cases hy
      exact ⟨.tt, _, fun w => by simp only [Sem.run_bind, guard_sl, Result.andThen_ok]; exact run_neq (ne 9999 _ _ _ w) rfl, .tt, hk⟩
    · split at hk
      · exact hk.elim
      cases hx; cases hy
      exact ⟨.tt, _, fun w => by simp only [Sem.run_bind, guard_sl, Result.andThen_ok]; exact run_neq (ne 9999 _ _ _ w) rfl, .tt, hk⟩

theorem eqC_ok {f : Field} {d : Nat} {z x y : V} {a b : Value} {K : Bool → Prop} (hx : RV c x a) (hy : RV c y b) (hk : eqC z x y K)
    (hz : flatF P z f.type = true) :
    ∃ r, (∀ w : World, (part f.type #[] 0).run P w = (part f.type #[] 0).run P w ∧ (Op.equalIn (d + 1) f.type a b).run P w = .ok r w) ∧ K r ∧ ∃ dd, P.underlying f.type = some dd ∧ (∀ fs, dd ≠ .struct fs) ∧ ∀ m e, dd ≠ .array m e := by
  have key : (∃ kz nz k p q, z = .i kz nz ∧ x = .i k p ∧ y = .i k q ∧ K (decide (p = q))) ∨ (∃ l p q, z = .s l ∧ x = .s p ∧ y = .s q ∧ K (decide (p = q))) ∨ ∃ p q, z = .ff ∧ bv x = some p ∧ bv y = some q ∧ K (p == q) := by
    cases z with
    | i kz nz =>
      cases x with
      | i k p => cases y with
        | i k' q =>
          simp only [eqC] at hk
          split at hk
          · rename_i hkk
            have h2 := hk
            have := kq_eq hkk
            subst this
            exact .inl ⟨_, _, _, _, _, rfl, rfl, rfl, h2⟩
          · exact hk.elim
        | _ => exact hk.elim
      | _ => exact hk.elim
    | s l =>
      cases x with
      | s p => cases y with
        | s q => exact .inr (.inl ⟨_, _, _, rfl, rfl, rfl, hk⟩)
        | _ => exact hk.elim
      | _ => exact hk.elim
    | ff =>
      simp only [eqC] at hk
      split at hk
      · rename_i p q hp hq; exact .inr (.inr ⟨p, q, rfl, hp, hq, hk⟩)
      · exact hk.elim
    | _ => exact hk.elim
  clear hk
  rcases key with ⟨kz, nz, k, p, q, rfl, rfl, rfl, hk⟩ | ⟨l, p, q, rfl, rfl, rfl, hk⟩ | ⟨p, q, rfl, hp, hq, hk⟩
  · cases hx; cases hy
    simp only [flatF] at hz
    split at hz
    case h_2 => cases hz
    rename_i hu
    exact ⟨decide (p = q), fun w => ⟨rfl, by simp [Op.equalIn, run_underlying hu, Bool.beq_eq_decide_eq]⟩, hk, _, hu, by simp, by simp⟩
  · cases hx; cases hy
    simp only [flatF] at hz
    split at hz
    case h_2 => cases hz
    rename_i hu
    exact ⟨decide (p = q), fun w => ⟨rfl, by simp [Op.equalIn, run_underlying hu, beq_toListBytes, ByteArray.toList_mk, Bool.beq_eq_decide_eq]⟩, hk, _, hu, by simp, by simp⟩
  · have h1 := VOk.bv (F := []) (bb := fun _ => 0) (VOk.of_RV hx) hp
    have h2 := VOk.bv (F := []) (bb := fun _ => 0) (VOk.of_RV hy) hq
    subst h1; subst h2
    simp only [flatF] at hz
    split at hz
    case h_2 => cases hz
    rename_i hu
    exact ⟨p == q, fun w => ⟨rfl, by simp [Op.equalIn, run_underlying hu]⟩, hk, _, hu, by simp, by simp⟩

theorem run_part_one {t : TypeId} {dd : TypeDesc} {A : Array Value} {k : Nat} {a : Value} (w : World) (hu : P.underlying t = some dd) (h1 : ∀ fs, dd ≠ .struct fs) (h2 : ∀ m e, dd ≠ .array m e) (ha : A[k]? = some a) : (part t A k).run P w = .ok a w := by
  have hagg : (isAgg t).run P w = .ok false w := by
    cases dd <;> first | (simp [isAgg, run_underlying hu]; done) | exact absurd rfl (h1 _) | exact absurd rfl (h2 _ _)
  simp [part, hagg, ha]

theorem eqL_ok {d : Nat} {A B : Array Value} : ∀ {zs : List V} {fs : List Field} {k : Nat} {xs ys : List V} {K : Bool → Prop}, fieldFlat P k zs fs = true → RVs c xs (A.toList.drop k) → RVs c ys (B.toList.drop k) → eqL zs xs ys K →
    ∃ r, (∀ w : World, (Op.eqFields (d + 1) A B fs).run P w = .ok r w) ∧ K r := by
  intro zs
  induction zs with
  | nil =>
    intro fs k xs ys K hf hx hy hk
    cases fs with
    | cons f fs => simp [fieldFlat] at hf
    | nil => cases xs <;> cases ys <;> first | exact ⟨true, fun w => by simp [Op.eqFields], hk⟩ | exact hk.elim
  | cons z zs ih =>
    intro fs k xs ys K hf hx hy hk
    cases fs with
    | nil => simp [fieldFlat] at hf
    | cons f fs =>
      cases xs with
      | nil => exact hk.elim
      | cons x xs => cases ys with
        | nil => exact hk.elim
        | cons y ys =>
          simp only [fieldFlat, Bool.and_eq_true] at hf
          obtain ⟨⟨⟨f1, f2⟩, f3⟩, f4⟩ := hf
          have f2 := beq_of f2
          subst f2
          obtain ⟨a, ra, ea, hxa, hxr⟩ := hx.cons_inv
          obtain ⟨b, rb, eb, hyb, hyr⟩ := hy.cons_inv
          have hA : A[f.offset]? = some a := by
            have := congrArg (·[0]?) ea
            simpa using this
          have hB : B[f.offset]? = some b := by
            have := congrArg (·[0]?) eb
            simpa using this
          have hxr' : RVs c xs (A.toList.drop (f.offset + 1)) := by
            rw [← List.drop_drop, ea]; simpa using hxr
          have hyr' : RVs c ys (B.toList.drop (f.offset + 1)) := by
            rw [← List.drop_drop, eb]; simpa using hyr
          obtain ⟨p, h1, h2, dd, hu, g1, g2⟩ := eqC_ok (d := d) hxa hyb hk f3
          obtain ⟨q, h3, h4⟩ := ih f4 hxr' hyr' h2
          have hn : f.name ≠ "_" := by simpa using f1
          refine ⟨p && q, fun w => ?_, h4⟩
          simp only [Op.eqFields, if_pos hn, Sem.run_bind, run_part_one w hu g1 g2 hA, run_part_one w hu g1 g2 hB, (h1 w).2, Result.andThen_ok]
          cases p
          · simp
          · simpa using h3 w

theorem guard_agg (op : BinOp) {t : TypeId} (x y : Operand) (p q : Array Value) (w : World) (hg : P.eqGuardType P.depth t = false) : (eqGuard op t x y (.agg p) (.agg q)).run P w = .ok () w := by
  cases op <;> simp [eqGuard, hg]

theorem evSt_ok {op : BinOp} {t : TypeId} {fs : Array Field} {z : List V} {x y : V} {xv yv : Value} {K : V → Prop} (xo yo : Operand) (hu : P.underlying t = some (.struct fs)) (hfl : flatV z = true → P.stoodInHeld t = false ∧ P.eqGuardType P.depth t = false ∧ fieldFlat P 0 z fs.toList = true)
    (hx : VOk c F bb x xv) (hy : VOk c F bb y yv) (hk : evSt md op z x y K) : ∃ v r, (∀ w : World, (do eqGuard op t xo yo xv yv; binOp op t xv yv : Sem Value).run P w = .ok r w) ∧ RV c v r ∧ K v := by
  unfold evSt at hk
  split at hk
  case h_2 => exact hk.elim
  rename_i hflat
  obtain ⟨hs, hgd, hff⟩ := hfl hflat
  cases hx with
  | agg cs xs hl hr => cases hy with
    | agg cs' ys hl' hr' =>
      obtain ⟨r, h1, h2⟩ := eqL_ok (d := 9998) (A := xs.toArray) (B := ys.toArray) hff (by simpa using ⟨hl, hr⟩) (by simpa using ⟨hl', hr'⟩) hk
      have hfo : P.fieldsOf t = fs := by simp [Program.fieldsOf, hu]
      have heq : ∀ w : World, (Op.equalIn 10000 t (.agg xs.toArray) (.agg ys.toArray)).run P w = .ok r w := fun w => by
        rw [run_equalIn_struct (P := P) w 9999 t _ _ (by rw [hfo]; exact hu) hs, hfo]
        exact h1 w
      split at h2
      · obtain ⟨v, hv, hk⟩ := mkB_ok h2
        exact ⟨v, _, fun w => by simp only [Sem.run_bind, guard_agg _ _ _ _ _ _ hgd, Result.andThen_ok]; exact run_eql (heq w) rfl, hv.rv, hk⟩
      · obtain ⟨v, hv, hk⟩ := mkB_ok h2
        exact ⟨v, _, fun w => by simp only [Sem.run_bind, guard_agg _ _ _ _ _ _ hgd, Result.andThen_ok]; exact run_neq (heq w) rfl, hv.rv, hk⟩
      · exact h2.elim

theorem evUn_ok {op : UnOp} {x : V} {xv : Value} {K : V → Prop} (hx : VOk c F bb x xv) (hk : evUn md op x K) :
    ∃ v r, (∀ w : World, (Op.unary op xv).run P w = .ok r w) ∧ RV c v r ∧ K v := by
  cases op <;> simp only [evUn] at hk
  · split at hk
    · rw [mkI_eq] at hk; cases hx; exact ⟨_, _, fun w => by simp [Op.unary, Op.intArith], .i _ _, hk⟩
    · exact hk.elim
  · split at hk
    · rw [mkI_eq] at hk; cases hx; exact ⟨_, _, fun w => by simp only [Op.unary, Op.intBits, bits]; rfl, .i _ _, hk⟩
    · exact hk.elim
  · split at hk
    · cases hx; exact ⟨_, _, fun w => by simp [Op.unary], .ff, hk⟩
    · cases hx; exact ⟨_, _, fun w => by simp [Op.unary], .tt, hk⟩
    · obtain ⟨v, hv, hk⟩ := mkB_ok hk; cases hx; exact ⟨v, _, fun w => by simp [Op.unary], hv.rv, hk⟩
    · exact hk.elim
end
end Go.AM
/- Soundness, 4: more operations that only reckon; loads. -/
set_option linter.unusedVariables false
set_option linter.unusedSimpArgs false
namespace Go.AM
open Go

section
variable {P : Program} {M : Mach} {tt : TT} {c0 : Cfg} {h0 : H} {n : Nat} {c : Cfg} {h : H} {bb : Nat → Nat} {F : Fr} {a : Act} {o : Oper} {next : Act → World → Prop} {Q : Exit → Act → World → Prop} {K : Fr → H → Prop}

/-- What is owed to go on. -/
abbrev Goes (c0 : Cfg) (h0 : H) (n : Nat) (K : Fr → H → Prop) (next : Act → World → Prop) : Prop :=
  ∀ c' h' bb' F' a', St c0 h0 n c' h' bb' F' a' → K F' h' → next a' c'.w

theorem evo (st : St c0 h0 n c h bb F a) {x : Operand} {v : V} (he : ev F x = v) : VOk c F bb v (a.eval x) := he ▸ ev_ok st.fs x

theorem pw_move {x : Operand} (ho : o.op = .move x ∨ o.op = .assign x) (st : St c0 h0 n c h bb F a) (hk : force (ev F x) fun v => put n F o.dst v fun F => K F h) : PW P o a (fun _ => True) c0 h0 n c h bb K := by
  rw [force_eq] at hk
  refine pw_done st ?_ (ev_ok st.fs x) hk
  intro w
  rcases ho with ho | ho <;> simp [execOp, ho]

theorem run_pick {x y z : Operand} (w : World) (ho : o.op = .pick x y z) {p : Bool} (hx : a.eval x = .bool p) : (execOp a.eval o).run P w = .ok (.value (if p then a.eval y else a.eval z)) w := by
  simp [execOp, ho, hx, asBool]

theorem pw_pick {x y z : Operand} (ho : o.op = .pick x y z) (st : St c0 h0 n c h bb F a) (hk : evOp0 M tt n o F h K) : PW P o a (fun _ => True) c0 h0 n c h bb K := by
  simp only [evOp0, ho, opPick, opBuild, opLoad, opNilCheck, opBinOp, opConvert, opSlice, opFieldAddr, opIndexAddr, opIndex, opExtract, opAlloc, opBox, opStore, opBuildSlice, opMakeFunc, force_eq] at hk
  split at hk
  · rename_i he
    exact pw_done st (fun w => run_pick w ho ((evo st he).bv rfl)) (ev_ok st.fs y) hk
  · rename_i he
    exact pw_done st (fun w => run_pick w ho ((evo st he).bv rfl)) (ev_ok st.fs z) hk
  · rename_i p he
    have hx := (evo st he).bv (p := p) rfl
    cases p with
    | true => exact pw_done st (fun w => run_pick w ho hx) (ev_ok st.fs y) (withB_ok hk)
    | false => exact pw_done st (fun w => run_pick w ho hx) (ev_ok st.fs z) (withB_ok hk)
  · exact hk.elim

theorem VOk.lptr_box {k off : Nat} {x : Value} (hv : VOk c F bb (.lptr k off) x) (hb : isBox (look F k) = true) : x = .pointer (some ⟨bb k, off, none⟩) := by
  cases hl : look F k <;> rw [hl] at hb <;> simp [isBox] at hb
  exact hv _ _ hl
theorem VOk.lptr_add {k off : Nat} (m : Nat) : VOk c F bb (.lptr k off) (.pointer (some ⟨bb k, off, none⟩)) → VOk c F bb (.lptr k (off + m)) (.pointer (some ⟨bb k, off + m, none⟩)) := fun _ _ _ _ => rfl

theorem pw_nil {x : Operand} (ho : o.op = .nilCheck x) (st : St c0 h0 n c h bb F a) (hk : evOp0 M tt n o F h K) : PW P o a (fun _ => True) c0 h0 n c h bb K := by
  simp only [evOp0, ho, opPick, opBuild, opLoad, opNilCheck, opBinOp, opConvert, opSlice, opFieldAddr, opIndexAddr, opIndex, opExtract, opAlloc, opBox, opStore, opBuildSlice, opMakeFunc, force_eq] at hk
  have hptr : ∀ (w : World) {ad : Addr}, a.eval x = .pointer (some ad) → (execOp a.eval o).run P w = .ok (.value (a.eval x)) w := fun w _ hx => by simp [execOp, ho, hx]
  split at hk
  · rename_i k off he
    split at hk
    · rename_i hb
      have hx := evo st he
      have hx' := hx.lptr_box hb
      exact pw_done st (fun w => hptr w hx') hx hk
    · exact hk.elim
  · rename_i cs he
    have hx := evo st he
    generalize hxv : a.eval x = xv at hx hptr
    cases hx
    exact pw_done st (fun w => hptr w rfl) (VOk.of_RV (by constructor <;> assumption)) hk
  · rename_i he
    have hx := evo st he
    generalize hxv : a.eval x = xv at hx hptr
    cases hx
    exact pw_done st (fun w => hptr w rfl) (VOk.of_RV (by constructor <;> assumption)) hk
  · rename_i he
    have hx := evo st he
    generalize hxv : a.eval x = xv at hx hptr
    cases hx
    exact pw_done st (fun w => hptr w rfl) (VOk.of_RV (by constructor <;> assumption)) hk
  · rename_i he
    have hx := evo st he
    generalize hxv : a.eval x = xv at hx hptr
    cases hx
    exact pw_done st (fun w => hptr w rfl) (VOk.of_RV (by constructor <;> assumption)) hk
  · rename_i he
    have hx := evo st he
    generalize hxv : a.eval x = xv at hx hptr
    cases hx
    exact pw_done st (fun w => by simp only [execOp, ho, hxv]; rfl) (VOk.of_RV (by constructor <;> assumption)) hk
  · exact hk.elim

theorem pw_bin {op : BinOp} {t t' : TypeId} {x y : Operand} (htt : ∀ t, TIok P t (tt t)) (ho : o.op = .binOp op t x y t') (st : St c0 h0 n c h bb F a) (hk : evOp0 M tt n o F h K) : PW P o a (fun _ => True) c0 h0 n c h bb K := by
  simp only [evOp0, ho, opPick, opBuild, opLoad, opNilCheck, opBinOp, opConvert, opSlice, opFieldAddr, opIndexAddr, opIndex, opExtract, opAlloc, opBox, opStore, opBuildSlice, opMakeFunc] at hk
  have ht := htt t
  have done : ∀ {v : V} {r : Value}, (∀ w : World, (do eqGuard op t x y (a.eval x) (a.eval y); binOp op t (a.eval x) (a.eval y) : Sem Value).run P w = .ok r w) → RV c v r → put n F o.dst v (fun F => K F h) → PW P o a (fun _ => True) c0 h0 n c h bb K :=
    fun h1 h2 h3 => pw_done st (fun w => by simp only [execOp, ho, Sem.run_bind, h1 w, Result.andThen_ok, Sem.run_pure]) (VOk.of_RV h2) h3
  split at hk
  · rename_i z hz
    rw [hz] at ht
    obtain ⟨⟨d, hu, _, _, _, _, hb⟩, _⟩ := ht
    split at hk
    · obtain ⟨v, r, h1, h2, h3⟩ := evEqB_ok (P := P) (t := t) x y (hb rfl ▸ hu) (ev_ok st.fs x) (ev_ok st.fs y) hk
      exact done h1 h2 h3
    · obtain ⟨v, r, h1, h2, h3⟩ := evBin_ok (P := P) (t := t) x y (ev_ok st.fs x) (ev_ok st.fs y) hk
      exact done h1 h2 h3
  · rename_i z hz
    rw [hz] at ht
    obtain ⟨fs, hu, _, i, xs, _, _, _, _, _, _, _, hfl⟩ := ht
    split at hk
    case h_2 => exact hk.elim
    rename_i hlz
    have hlz := beq_of hlz
    rw [lenP_eq, len_eq] at hlz
    obtain ⟨v, r, h1, h2, h3⟩ := evSt_ok (P := P) (t := t) x y hu (fun h => hfl h hlz) (ev_ok st.fs x) (ev_ok st.fs y) hk
    exact done h1 h2 h3
  · rename_i hz
    rw [hz] at ht
    obtain ⟨⟨e, hu, tj, htj⟩, _⟩ := ht
    obtain ⟨v, r, h1, h2, h3⟩ := evPt_ok (P := P) (t := t) x y hu htj (ev_ok st.fs x) (ev_ok st.fs y) hk
    exact done h1 h2 h3
  · rename_i hz
    rw [hz] at ht
    obtain ⟨e, hu, _⟩ := ht
    obtain ⟨v, r, h1, h2, h3⟩ := evSl_ok (P := P) (t := t) x y hu (ev_ok st.fs x) (ev_ok st.fs y) hk
    exact done h1 h2 h3
  · exact hk.elim

theorem pw_un {op : UnOp} {t : TypeId} {x : Operand} (ho : o.op = .unOp op t x) (st : St c0 h0 n c h bb F a) (hk : evOp0 M tt n o F h K) : PW P o a (fun _ => True) c0 h0 n c h bb K := by
  simp only [evOp0, ho, opPick, opBuild, opLoad, opNilCheck, opBinOp, opConvert, opSlice, opFieldAddr, opIndexAddr, opIndex, opExtract, opAlloc, opBox, opStore, opBuildSlice, opMakeFunc] at hk
  obtain ⟨v, r, h1, h2, h3⟩ := evUn_ok (P := P) (ev_ok st.fs x) hk
  exact pw_done st (fun w => by simp only [execOp, ho, Sem.run_bind, h1 w, Result.andThen_ok, Sem.run_pure]) (VOk.of_RV h2) h3

theorem pw_fieldAddr {t : TypeId} {x : Operand} {f : Nat} (htt : ∀ t, TIok P t (tt t)) (ho : o.op = .fieldAddr t x f) (st : St c0 h0 n c h bb F a) (hk : evOp0 M tt n o F h K) : PW P o a (fun _ => True) c0 h0 n c h bb K := by
  simp only [evOp0, ho, opPick, opBuild, opLoad, opNilCheck, opBinOp, opConvert, opSlice, opFieldAddr, opIndexAddr, opIndex, opExtract, opAlloc, opBox, opStore, opBuildSlice, opMakeFunc] at hk
  have ht := htt t
  split at hk
  · rename_i offs z hz
    rw [hz] at ht
    obtain ⟨fs, hu, hoff, _⟩ := ht
    split at hk
    · rename_i off sz hf
      obtain ⟨fld, i, h1, h2, h3, h4⟩ := hoff f off sz hf
      split at hk
      · exact hk.elim
      · rename_i sz'
        have hrun : ∀ (w : World) (ad : Addr), a.eval x = .pointer (some ad) → (execOp a.eval o).run P w = .ok (.value (.pointer (some (ad.add off)))) w := fun w ad hx => by
          simp [execOp, ho, hx, Instr.fieldAt, run_underlying hu, h1, Instr.sureAddr, fieldPlace, sizeOf, typeInfo, h3, h4, h2]
        unfold ptrAdd at hk
        split at hk
        · rename_i k off' he
          split at hk
          · rename_i hb
            have hx := (evo st he).lptr_box hb
            refine pw_done st (fun w => hrun w _ hx) ?_ hk
            rw [add_lit']
            exact fun _ _ _ => rfl
          · exact hk.elim
        · rename_i cs he
          rw [forceL_eq] at hk
          have hx := evo st he
          generalize hxv : a.eval x = xv at hx
          cases hx with
          | ip cs b off' hc hr =>
            split at hk
            · exact hk.elim
            · rename_i cs' cc r hd
              rw [← hd] at hk
              refine pw_done st (fun w => hrun w _ hxv) ?_ hk
              rw [add_lit', drop_eq]
              refine VOk.of_RV (.ip _ _ _ (fun j v hj => ?_) fun j v x hj hx => ?_)
              · have := hc (off + j) v (by simpa using hj)
                rwa [show off' + (off + j) = off' + off + j by omega] at this
              · exact hr (off + j) v x (by simpa using hj) (by rwa [show off' + (off + j) = off' + off + j by omega])
        · rename_i g sz i' off' he
          have hx := evo st he
          generalize hxv : a.eval x = xv at hx
          cases hx with
          | gptr g sz i off' b hφ =>
            refine pw_done st (fun w => hrun w _ hxv) ?_ hk
            rw [add_lit', Nat.add_assoc]
            exact VOk.of_RV (.gptr _ _ _ _ _ hφ)
        · rename_i g sz ty he
          have hx := evo st he
          generalize hxv : a.eval x = xv at hx
          cases hx with
          | bp g sz ty b hφ _ _ =>
            refine pw_done st (fun w => hrun w _ hxv) ?_ hk
            rw [add_lit', Nat.zero_add]
            have := RV.gptr (c := c) g sz 0 off b hφ
            rw [Nat.zero_mul, Nat.zero_add] at this
            exact VOk.of_RV this
        · exact hk.elim
    · exact hk.elim
  · exact hk.elim

theorem pw_extract {x : Operand} {i : Nat} (ho : o.op = .extract x i) (st : St c0 h0 n c h bb F a) (hk : evOp0 M tt n o F h K) : PW P o a (fun _ => True) c0 h0 n c h bb K := by
  simp only [evOp0, ho, opPick, opBuild, opLoad, opNilCheck, opBinOp, opConvert, opSlice, opFieldAddr, opIndexAddr, opIndex, opExtract, opAlloc, opBox, opStore, opBuildSlice, opMakeFunc] at hk
  split at hk
  · rename_i vs he
    rw [force_eq] at hk
    have hx := evo st he
    generalize hxv : a.eval x = xv at hx
    cases hx with
    | tup vs xs hl hr =>
      split at hk
      · exact hk.elim
      · rename_i v hnd
        have hv : vs[i]? = some (nth vs i) := nth_get rfl hnd
        have hi : i < xs.length := by
          have := (List.getElem?_eq_some_iff.1 hv).1
          omega
        have hxi : xs[i]? = some xs[i] := List.getElem?_eq_getElem hi
        exact pw_done st (fun w => by simp [execOp, ho, hxv, Instr.extract, hxi]) (VOk.of_RV (hr i _ _ hv hxi)) hk
  · exact hk.elim

theorem pw_index {t : TypeId} {x ix : Operand} (htt : ∀ t, TIok P t (tt t)) (ho : o.op = .index t x ix) (st : St c0 h0 n c h bb F a) (hk : evOp0 M tt n o F h K) : PW P o a (fun _ => True) c0 h0 n c h bb K := by
  simp only [evOp0, ho, opPick, opBuild, opLoad, opNilCheck, opBinOp, opConvert, opSlice, opFieldAddr, opIndexAddr, opIndex, opExtract, opAlloc, opBox, opStore, opBuildSlice, opMakeFunc] at hk
  have ht := htt t
  split at hk
  case h_2 => exact hk.elim
  rename_i zs hz
  rw [hz] at ht
  obtain ⟨⟨d, hu, _, _, _, hd, _⟩, _⟩ := ht
  have hd' := hd zs rfl
  subst hd'
  split at hk
  · rename_i k i hi
    split at hk
    · rename_i l he
      obtain ⟨⟨hb0, hb1⟩, hk⟩ := chk_ok hk
      have hlt : i.toNat < l.length := by omega
      have hgl : l[i.toNat]? = some l[i.toNat] := List.getElem?_eq_getElem hlt
      have hx := (evo st he).str
      have hix := (evo st hi).int
      refine pw_done st (x := .int .u8 (l[i.toNat]'hlt).toNat) ?_ (VOk.of_RV (.i _ _)) (by have := atS_ok hk hgl; rwa [mkI_eq] at this)
      intro w
      have hb : (⟨l.toArray⟩ : ByteArray)[i.toNat]? = some (l[i.toNat]'hlt) := by
        rw [show (⟨l.toArray⟩ : ByteArray)[i.toNat]? = (⟨l.toArray⟩ : ByteArray).data[i.toNat]? from by
          simp only [getElem?_def]; rfl]
        simp [hgl]
      simp [execOp, ho, hx, hix, Instr.index, asIntOf, run_underlying hu, hb0, hb]
    · exact hk.elim
  · exact hk.elim

end
end Go.AM
/- Soundness, 5: slices, indices, loads. -/
set_option linter.unusedVariables false
set_option linter.unusedSimpArgs false
namespace Go.AM
open Go

section
variable {P : Program} {M : Mach} {tt : TT} {c0 : Cfg} {h0 : H} {n : Nat} {c : Cfg} {h : H} {bb : Nat → Nat} {F : Fr} {a : Act} {o : Oper} {next : Act → World → Prop} {Q : Exit → Act → World → Prop} {K : Fr → H → Prop}

/-- The elements' memory behind a slice that is only read. -/
theorem RV.lst_inv {sz : Nat} {es : List (List V)} {x : Value} (hv : RV c (.lst sz es) x) :
    ∃ ad cap, x = .slice ad es.length cap ∧ es.length ≤ cap ∧ (0 < es.length → ∃ b off, ad = some ⟨b, off, none⟩ ∧ (∀ i cs, es[i]? = some cs → cs.length = sz ∧ RV c (.ip cs) (.pointer (some ⟨b, off + i * sz, none⟩)))) := by
  cases hv with
  | lst0 sz a cap => exact ⟨a, cap, rfl, Nat.zero_le _, by simp⟩
  | lst sz es b off cap hsz hcap hcl hc hr =>
    refine ⟨_, cap, rfl, hcap.1, fun _ => ⟨b, off, rfl, fun i cs hi => ⟨hsz i cs hi, ?_⟩⟩⟩
    exact .ip _ _ _ (fun j v hj => hc i cs j v hi hj) fun j v x hj hx => hr i cs j v x hi hj hx

theorem RV.lst_max {sz : Nat} {es : List (List V)} {x : Value} (hv : RV c (.lst sz es) x) : es.length ≤ maxLen := by
  cases hv with
  | lst0 => simp [maxLen]
  | lst sz es b off cap hsz hcap hcl hc hr => exact hcap.2
theorem RowOk.max {g : Nat} {r : GRow} (hr : RowOk c g r) : r.es.length ≤ maxLen := by
  obtain ⟨_, b, ents, clk, _, _, _, hm, _⟩ | ⟨_, ⟨_, h2, _⟩ | ⟨b, arr, e, cap, h1, h2, h3, h4, h5, _⟩⟩ := hr
  · exact hm
  · rw [h2]; simp [maxLen]
  · omega

theorem RV.lst_cut {sz : Nat} {es : List (List V)} {ad : Option Addr} {cap : Nat} (hv : RV c (.lst sz es) (.slice ad es.length cap)) (l h : Nat) (hlh : l ≤ h) (hh : h ≤ es.length) (hc : es.length ≤ cap) :
    RV c (.lst sz ((es.drop l).take (h - l))) (.slice (if cap = l then ad else ad.map (·.add (l * sz))) (h - l) (cap - l)) := by
  have hlen : ((es.drop l).take (h - l)).length = h - l := by simp; omega
  by_cases he : (es.drop l).take (h - l) = []
  · rw [he]
    have : h - l = 0 := by rw [← hlen, he]; rfl
    rw [this]
    exact .lst0 _ _ _
  · have hpos : 0 < h - l := by rw [← hlen]; exact List.length_pos_iff.2 he
    cases hv with
    | lst0 sz a cap => simp at hh; omega
    | lst sz es b off cap hsz hcap hcl hcc hr =>
      rw [if_neg (by omega)]
      simp only [Option.map_some, add_lit']
      have key := RV.lst (c := c) sz ((es.drop l).take (h - l)) b (off + l * sz) (cap - l) (fun i cs hi => ?_) (by omega) (fun i cs hi => ?_) (fun i cs j v hi hj => ?_) (fun i cs j v x hi hj hx => ?_)
      · rwa [hlen] at key
      all_goals
        rw [List.getElem?_take] at hi
        split at hi
        case isFalse => cases hi
        rw [List.getElem?_drop] at hi
      · exact hsz _ _ hi
      · exact hcl _ _ hi
      · have := hcc (l + i) cs j v hi hj
        rwa [show off + (l + i) * sz + j = off + l * sz + i * sz + j by rw [Nat.add_mul]; omega] at this
      · exact hr (l + i) cs j v x hi hj (by rwa [show off + (l + i) * sz + j = off + l * sz + i * sz + j by rw [Nat.add_mul]; omega])

theorem run_sliceBound {k : IntKind} {i : Int} {y : Nat} {code : BoundsCode} (w : World) (h0 : 0 ≤ i) (h1 : i ≤ y) : (Instr.sliceBound (.int k i) y code).run P w = .ok i.toNat w := by
  simp [Instr.sliceBound, asIntOf, h0, h1]

theorem run_slice_sl {t e : TypeId} {esz : Nat} {ad : Option Addr} {len cap : Nat} {lo hi : Option Value} {l h : Nat} {ie : TypeInfo} (w : World) (hu : P.underlying t = some (.slice e)) (hi' : P.info? e = some ie) (hsz : ie.size = esz)
    (hlo : (lo = none ∧ l = 0) ∨ ∃ k i, lo = some (.int k i) ∧ 0 ≤ i ∧ l = i.toNat) (hhi : (hi = none ∧ h = len) ∨ ∃ k i, hi = some (.int k i) ∧ 0 ≤ i ∧ h = i.toNat) (hlh : l ≤ h) (hhc : h ≤ cap) :
    (Instr.sliceAt t (.slice ad len cap) lo hi none).run P w = .ok (.slice (if cap = l then ad else ad.map (·.add (l * esz))) (h - l) (cap - l)) w := by
  have hb : (Instr.sliceBounds true len cap lo hi none).run P w = .ok (l, h, cap) w := by
    rcases hlo with ⟨rfl, rfl⟩ | ⟨k, i, rfl, hi0, rfl⟩ <;> rcases hhi with ⟨rfl, rfl⟩ | ⟨k', i', rfl, hi0', rfl⟩
    · simp [Instr.sliceBounds]
    · simp only [Instr.sliceBounds]
      simp [run_sliceBound (P := P) w hi0' (show i' ≤ cap by omega)]
    · simp only [Instr.sliceBounds]
      simp [run_sliceBound (P := P) w hi0 (show i ≤ h by omega)]
    · simp only [Instr.sliceBounds]
      simp [run_sliceBound (P := P) w hi0' (show i' ≤ cap by omega), run_sliceBound (P := P) w hi0 (show i ≤ ((i'.toNat : Nat) : Int) by omega)]
  simp only [Instr.sliceAt, Sem.run_bind, run_underlying hu, Result.andThen_ok, Instr.slice, hb, sizeOf, typeInfo]
  simp [hi', hsz]

theorem run_slice_str {t : TypeId} {s : List UInt8} {lo hi : Option Value} {l h : Nat} (w : World) (hu : P.underlying t = some .string)
    (hlo : (lo = none ∧ l = 0) ∨ ∃ k i, lo = some (.int k i) ∧ 0 ≤ i ∧ l = i.toNat) (hhi : (hi = none ∧ h = s.length) ∨ ∃ k i, hi = some (.int k i) ∧ 0 ≤ i ∧ h = i.toNat) (hlh : l ≤ h) (hhc : h ≤ s.length) :
    (Instr.sliceAt t (.string ⟨s.toArray⟩) lo hi none).run P w = .ok (.string ⟨((s.drop l).take (h - l)).toArray⟩) w := by
  have hsz : (⟨s.toArray⟩ : ByteArray).size = s.length := by simp [ByteArray.size]
  have hb : (Instr.sliceBounds false s.length s.length lo hi none).run P w = .ok (l, h, s.length) w := by
    rcases hlo with ⟨rfl, rfl⟩ | ⟨k, i, rfl, hi0, rfl⟩ <;> rcases hhi with ⟨rfl, rfl⟩ | ⟨k', i', rfl, hi0', rfl⟩
    · simp [Instr.sliceBounds]
    · simp only [Instr.sliceBounds]
      simp [run_sliceBound (P := P) w hi0' (show i' ≤ s.length by omega)]
    · simp only [Instr.sliceBounds]
      simp [run_sliceBound (P := P) w hi0 (show i ≤ s.length by omega)]
    · simp only [Instr.sliceBounds]
      simp [run_sliceBound (P := P) w hi0' (show i' ≤ s.length by omega), run_sliceBound (P := P) w hi0 (show i ≤ ((i'.toNat : Nat) : Int) by omega)]
  have he : (⟨s.toArray⟩ : ByteArray).extract l h = ⟨((s.drop l).take (h - l)).toArray⟩ := by
    apply ByteArray.ext
    rw [ByteArray.data_extract]
    apply Array.ext'
    simp [List.take_drop, List.extract_eq_take_drop]
  simp [Instr.sliceAt, run_underlying hu, Instr.slice, hsz, hb, he]

/-- The bounds of a cut, as the machine has them. -/
theorem cut_bounds (st : St c0 h0 n c h bb F a) (lo : Option Operand) {v : Option V} (hv : lo.map (ev F) = v) (m : Nat) :
    (v = none → lo.map a.eval = none) ∧ (∀ k i, v = some (.i k i) → lo.map a.eval = some (.int k i)) := by
  cases lo with
  | none => subst hv; simp
  | some x =>
    subst hv
    simp only [Option.map_some, reduceCtorEq, false_implies, Option.some.injEq, true_and]
    intro k i he
    rw [(evo st he).int]

theorem pw_slice {t : TypeId} {x : Operand} {lo hi mx : Option Operand} (htt : ∀ t, TIok P t (tt t)) (ho : o.op = .slice t x lo hi mx) (st : St c0 h0 n c h bb F a) (hk : evOp0 M tt n o F h K) : PW P o a (fun _ => True) c0 h0 n c h bb K := by
  simp only [evOp0, ho, opPick, opBuild, opLoad, opNilCheck, opBinOp, opConvert, opSlice, opFieldAddr, opIndexAddr, opIndex, opExtract, opAlloc, opBox, opStore, opBuildSlice, opMakeFunc] at hk
  have ht := htt t
  cases mx with
  | some m => exact hk.elim
  | none =>
    simp only at hk
    have run : ∀ (w : World) {r : Value}, (Instr.sliceAt t (a.eval x) (lo.map a.eval) (hi.map a.eval) none).run P w = .ok r w → (execOp a.eval o).run P w = .ok (.value r) w := fun w _ h1 => by
      simp only [execOp, ho, Option.map_none, Sem.run_bind, h1, Result.andThen_ok, Sem.run_pure]
    split at hk
    · rename_i zs hz
      rw [hz] at ht
      obtain ⟨⟨d, hu, _, _, _, hd, _⟩, _⟩ := ht
      have hd' := hd zs rfl
      subst hd'
      split at hk
      case h_2 => exact hk.elim
      rename_i s he
      have hx := (evo st he).str
      rw [hx] at run
      split at hk
      · rename_i h1 h2
        have e1 := (cut_bounds st lo h1 0).1 rfl
        have e2 := (cut_bounds st hi h2 0).1 rfl
        refine pw_done st (fun w => run w (run_slice_str w hu (l := 0) (h := s.length) (.inl ⟨e1, rfl⟩) (.inl ⟨e2, rfl⟩) (Nat.zero_le _) (Nat.le_refl _))) ?_ hk
        simp only [List.drop_zero, Nat.sub_zero, List.take_length]
        exact VOk.of_RV (.s _)
      · rename_i k p h1 h2
        obtain ⟨hkb, hk⟩ := chk_ok hk
        rw [mkS_eq] at hk
        have e1 := (cut_bounds st lo h1 0).2 _ _ rfl
        have e2 := (cut_bounds st hi h2 0).1 rfl
        refine pw_done st (fun w => run w (run_slice_str w hu (l := p.toNat) (h := s.length) (.inr ⟨_, _, e1, by omega, rfl⟩) (.inl ⟨e2, rfl⟩) (by omega) (Nat.le_refl _))) ?_ hk
        rw [List.take_of_length_le (by simp)]
        exact VOk.of_RV (.s _)
      · rename_i k p h1 h2
        obtain ⟨hkb, hk⟩ := chk_ok hk
        rw [mkS_eq] at hk
        have e1 := (cut_bounds st lo h1 0).1 rfl
        have e2 := (cut_bounds st hi h2 0).2 _ _ rfl
        refine pw_done st (fun w => run w (run_slice_str w hu (l := 0) (h := p.toNat) (.inl ⟨e1, rfl⟩) (.inr ⟨_, _, e2, by omega, rfl⟩) (by omega) (by omega))) ?_ hk
        simp only [List.drop_zero, Nat.sub_zero]
        exact VOk.of_RV (.s _)
      · rename_i k p k' q h1 h2
        obtain ⟨hkb, hk⟩ := chk_ok hk
        rw [mkS_eq] at hk
        have e1 := (cut_bounds st lo h1 0).2 _ _ rfl
        have e2 := (cut_bounds st hi h2 0).2 _ _ rfl
        exact pw_done st (fun w => run w (run_slice_str w hu (l := p.toNat) (h := q.toNat) (.inr ⟨_, _, e1, by omega, rfl⟩) (.inr ⟨_, _, e2, by omega, rfl⟩) (by omega) (by omega))) (VOk.of_RV (.s _)) hk
      · exact hk.elim
    · rename_i esz eb ez hz
      rw [hz] at ht
      obtain ⟨e, hu, _, ie, zv, hi1, hi2, hpos, _⟩ := ht
      split at hk
      · rename_i sz es he
        split at hk
        · exact hk.elim
        rename_i hsz
        have hsz' := beq_of hsz
        subst hsz'
        have hx := (evo st he).rv (by simp)
        obtain ⟨ad, cap, hxe, hcap, _⟩ := hx.lst_inv
        rw [hxe] at run hx
        split at hk
        · rename_i h1 h2
          have e1 := (cut_bounds st lo h1 0).1 rfl
          have e2 := (cut_bounds st hi h2 0).1 rfl
          refine pw_done st (fun w => run w (run_slice_sl w hu hi1 hi2 (l := 0) (h := es.length) (.inl ⟨e1, rfl⟩) (.inl ⟨e2, rfl⟩) (Nat.zero_le _) hcap)) ?_ hk
          have := hx.lst_cut 0 es.length (Nat.zero_le _) (Nat.le_refl _) hcap
          simp only [List.drop_zero, Nat.sub_zero, List.take_length] at this
          exact VOk.of_RV this
        · rename_i k p h1 h2
          obtain ⟨hkb, hk⟩ := chk_ok hk
          simp only [forceEm_eq, forceNm_eq] at hk
          have e1 := (cut_bounds st lo h1 0).2 _ _ rfl
          have e2 := (cut_bounds st hi h2 0).1 rfl
          refine pw_done st (fun w => run w (run_slice_sl w hu hi1 hi2 (l := p.toNat) (h := es.length) (.inr ⟨_, _, e1, by omega, rfl⟩) (.inl ⟨e2, rfl⟩) (by omega) hcap)) ?_ hk
          have := hx.lst_cut p.toNat es.length (by omega) (Nat.le_refl _) hcap
          rw [List.take_of_length_le (by simp)] at this
          exact VOk.of_RV this
        · rename_i k p h1 h2
          obtain ⟨hkb, hk⟩ := chk_ok hk
          simp only [forceEm_eq, forceNm_eq] at hk
          have e1 := (cut_bounds st lo h1 0).1 rfl
          have e2 := (cut_bounds st hi h2 0).2 _ _ rfl
          refine pw_done st (fun w => run w (run_slice_sl w hu hi1 hi2 (l := 0) (h := p.toNat) (.inl ⟨e1, rfl⟩) (.inr ⟨_, _, e2, by omega, rfl⟩) (by omega) (by omega))) ?_ hk
          have := hx.lst_cut 0 p.toNat (by omega) (by omega) hcap
          simp only [List.drop_zero, Nat.sub_zero] at this
          exact VOk.of_RV this
        · rename_i k p k' q h1 h2
          obtain ⟨hkb, hk⟩ := chk_ok hk
          simp only [forceEm_eq, forceNm_eq] at hk
          have e1 := (cut_bounds st lo h1 0).2 _ _ rfl
          have e2 := (cut_bounds st hi h2 0).2 _ _ rfl
          exact pw_done st (fun w => run w (run_slice_sl w hu hi1 hi2 (l := p.toNat) (h := q.toNat) (.inr ⟨_, _, e1, by omega, rfl⟩) (.inr ⟨_, _, e2, by omega, rfl⟩) (by omega) (by omega)))
            (VOk.of_RV (hx.lst_cut p.toNat q.toNat (by omega) (by omega) hcap)) hk
        · exact hk.elim
      · rename_i g sz off m he
        split at hk
        · exact hk.elim
        rename_i hsz
        have hsz' := beq_of hsz
        subst hsz'
        have hx := (evo st he).rv (by simp)
        have key : ∀ (l hh : Nat), l ≤ hh → hh ≤ m → ((lo.map a.eval = none ∧ l = 0) ∨ ∃ k i, lo.map a.eval = some (.int k i) ∧ 0 ≤ i ∧ l = i.toNat) →
            ((hi.map a.eval = none ∧ hh = m) ∨ ∃ k i, hi.map a.eval = some (.int k i) ∧ 0 ≤ i ∧ hh = i.toNat) → put n F o.dst (.gsl g sz (off + l) (hh - l)) (fun F => K F h) → PW P o a (fun _ => True) c0 h0 n c h bb K := by
          intro l hh hlh hhm hlo hhi hk
          generalize hxv : a.eval x = xv at hx run
          cases hx with
          | gsl0 g sz hφ =>
            have hl0 : l = 0 := by omega
            have hh0 : hh = 0 := by omega
            subst hl0
            subst hh0
            refine pw_done st (fun w => run w (run_slice_sl w hu hi1 hi2 hlo hhi (Nat.le_refl _) (Nat.le_refl _))) ?_ hk
            simp only [if_true]
            exact VOk.of_RV (.gsl0 _ _ hφ)
          | gsl g sz off m b ad cap t' hφ hb ha hs hl =>
            refine pw_done st (fun w => run w (run_slice_sl w hu hi1 hi2 hlo hhi hlh (by omega))) ?_ hk
            by_cases hcl : cap = l
            · rw [if_pos hcl]
              have hh1 : hh - l = 0 := by omega
              refine VOk.of_RV (.gsl _ _ _ _ b ad _ t' hφ hb (fun hp => ?_) ?_ (by omega))
              · have h0' : off = 0 := by omega
                have : ad = ⟨b, off * sz, none⟩ := ha (.inr h0')
                have hl0 : l = 0 := by omega
                rw [hl0]; simpa using this
              · rw [show off + l + (cap - l) = off + cap by omega]; exact hs
            · rw [if_neg hcl]
              by_cases hm : 0 < m ∨ off = 0
              · have had := ha hm
                subst had
                simp only [Option.map_some, add_lit']
                refine VOk.of_RV (.gsl _ _ _ _ b _ _ t' hφ rfl (fun hp => by rw [Nat.add_mul]) ?_ (by omega))
                rw [show off + l + (cap - l) = off + cap by omega]; exact hs
              · have hm0 : m = 0 := by omega
                have hl0 : l = 0 := by omega
                subst hl0
                simp only [Option.map_some, Nat.zero_mul]
                have had0 : ad.add 0 = ad := by simp [Addr.add]
                rw [had0]
                refine VOk.of_RV (.gsl _ _ _ _ b ad _ t' hφ hb (fun hp => ?_) (by simpa using hs) (by omega))
                exact absurd hp (by omega)
        split at hk
        · rename_i h1 h2
          have e1 := (cut_bounds st lo h1 0).1 rfl
          have e2 := (cut_bounds st hi h2 0).1 rfl
          exact key 0 m (Nat.zero_le _) (Nat.le_refl _) (.inl ⟨e1, rfl⟩) (.inl ⟨e2, rfl⟩) hk
        · rename_i k p h1 h2
          obtain ⟨hkb, hk⟩ := chk_ok hk
          simp only [forceEm_eq, forceNm_eq] at hk
          have e1 := (cut_bounds st lo h1 0).2 _ _ rfl
          have e2 := (cut_bounds st hi h2 0).1 rfl
          exact key p.toNat m (by omega) (Nat.le_refl _) (.inr ⟨_, _, e1, by omega, rfl⟩) (.inl ⟨e2, rfl⟩) hk
        · rename_i k p h1 h2
          obtain ⟨hkb, hk⟩ := chk_ok hk
          simp only [forceEm_eq, forceNm_eq] at hk
          have e1 := (cut_bounds st lo h1 0).1 rfl
          have e2 := (cut_bounds st hi h2 0).2 _ _ rfl
          exact key 0 p.toNat (by omega) (by omega) (.inl ⟨e1, rfl⟩) (.inr ⟨_, _, e2, by omega, rfl⟩) hk
        · rename_i k p k' q h1 h2
          obtain ⟨hkb, hk⟩ := chk_ok hk
          simp only [forceEm_eq, forceNm_eq] at hk
          have e1 := (cut_bounds st lo h1 0).2 _ _ rfl
          have e2 := (cut_bounds st hi h2 0).2 _ _ rfl
          exact key p.toNat q.toNat (by omega) (by omega) (.inr ⟨_, _, e1, by omega, rfl⟩) (.inr ⟨_, _, e2, by omega, rfl⟩) hk
        · exact hk.elim
      · rename_i he
        have hx := evo st he
        generalize hxv : a.eval x = xv at hx run
        cases hx
        have key : ((lo.map a.eval = none ∧ 0 = 0) ∨ ∃ k i, lo.map a.eval = some (.int k i) ∧ 0 ≤ i ∧ 0 = i.toNat) → ((hi.map a.eval = none ∧ 0 = 0) ∨ ∃ k i, hi.map a.eval = some (.int k i) ∧ 0 ≤ i ∧ 0 = i.toNat) →
            put n F o.dst .nils (fun F => K F h) → PW P o a (fun _ => True) c0 h0 n c h bb K := by
          intro h1 h2 hk
          refine pw_done st (fun w => run w (run_slice_sl w hu hi1 hi2 h1 h2 (Nat.le_refl _) (Nat.le_refl _))) ?_ hk
          simp only [if_true]
          exact VOk.of_RV .nils
        split at hk
        · rename_i h1 h2
          exact key (.inl ⟨(cut_bounds st lo h1 0).1 rfl, rfl⟩) (.inl ⟨(cut_bounds st hi h2 0).1 rfl, rfl⟩) hk
        · rename_i k p h1 h2
          obtain ⟨hkb, hk⟩ := chk_ok hk
          exact key (.inr ⟨_, _, (cut_bounds st lo h1 0).2 _ _ rfl, by omega, by omega⟩) (.inl ⟨(cut_bounds st hi h2 0).1 rfl, rfl⟩) hk
        · rename_i k p h1 h2
          obtain ⟨hkb, hk⟩ := chk_ok hk
          exact key (.inl ⟨(cut_bounds st lo h1 0).1 rfl, rfl⟩) (.inr ⟨_, _, (cut_bounds st hi h2 0).2 _ _ rfl, by omega, by omega⟩) hk
        · rename_i k p k' q h1 h2
          obtain ⟨hkb, hk⟩ := chk_ok hk
          exact key (.inr ⟨_, _, (cut_bounds st lo h1 0).2 _ _ rfl, by omega, by omega⟩) (.inr ⟨_, _, (cut_bounds st hi h2 0).2 _ _ rfl, by omega, by omega⟩) hk
        · exact hk.elim
      · exact hk.elim
    · exact hk.elim

end
end Go.AM
/- Soundness, 6: indices into slices, len, min, max, conversions, loads. -/
set_option linter.unusedVariables false
set_option linter.unusedSimpArgs false
namespace Go.AM
open Go

section
variable {P : Program} {M : Mach} {tt : TT} {c0 : Cfg} {h0 : H} {n : Nat} {c : Cfg} {h : H} {bb : Nat → Nat} {F : Fr} {a : Act} {o : Oper} {next : Act → World → Prop} {Q : Exit → Act → World → Prop} {K : Fr → H → Prop}

theorem run_index_sl {t e : TypeId} {esz : Nat} {ie : TypeInfo} {x ix : Operand} {ad : Addr} {len cap : Nat} {k : IntKind} {i : Int} (w : World) (ho : o.op = .indexAddr t x ix) (hu : P.underlying t = some (.slice e)) (hi1 : P.info? e = some ie) (hi2 : ie.size = esz)
    (hx : a.eval x = .slice (some ad) len cap) (hix : a.eval ix = .int k i) (h0 : 0 ≤ i) (h1 : i < len) : (execOp a.eval o).run P w = .ok (.value (.pointer (some (ad.add (i.toNat * esz))))) w := by
  simp [execOp, ho, hx, hix, Instr.indexAt, asIntOf, run_underlying hu, h0, h1, sizeOf, typeInfo, hi1, hi2]

theorem run_index_ar {t e : TypeId} {m esz : Nat} {ie : TypeInfo} {x ix : Operand} {ad : Addr} {k : IntKind} {i : Int} (w : World) (ho : o.op = .indexAddr t x ix) (hu : P.underlying t = some (.array m e)) (hi1 : P.info? e = some ie) (hi2 : ie.size = esz)
    (hx : a.eval x = .pointer (some ad)) (hix : a.eval ix = .int k i) (h0 : 0 ≤ i) (h1 : i < m) : (execOp a.eval o).run P w = .ok (.value (.pointer (some (ad.add (i.toNat * esz))))) w := by
  simp [execOp, ho, hx, hix, Instr.indexAt, asIntOf, run_underlying hu, h0, h1, sizeOf, typeInfo, hi1, hi2, Instr.sureAddr]

theorem pw_indexAddr {t : TypeId} {x ix : Operand} (htt : ∀ t, TIok P t (tt t)) (ho : o.op = .indexAddr t x ix) (st : St c0 h0 n c h bb F a) (hk : evOp0 M tt n o F h K) : PW P o a (fun _ => True) c0 h0 n c h bb K := by
  simp only [evOp0, ho, opPick, opBuild, opLoad, opNilCheck, opBinOp, opConvert, opSlice, opFieldAddr, opIndexAddr, opIndex, opExtract, opAlloc, opBox, opStore, opBuildSlice, opMakeFunc] at hk
  have ht := htt t
  split at hk
  case h_2 => exact hk.elim
  rename_i k i hi
  have hix := (evo st hi).int
  split at hk
  · rename_i esz eb ez hz
    rw [hz] at ht
    obtain ⟨e, hu, _, ie, zv, hi1, hi2, hpos, _⟩ := ht
    split at hk
    · rename_i sz es he
      split at hk
      case h_2 => exact hk.elim
      rename_i hsz
      have hsz' := beq_of hsz
      subst hsz'
      obtain ⟨⟨hb0, hb1⟩, hk⟩ := chk_ok hk
      try simp only [forceNm_eq] at hk
      have hx := (evo st he).rv (by simp)
      obtain ⟨ad, cap, hxe, hcap, hcells⟩ := hx.lst_inv
      obtain ⟨b, off, had, hcell⟩ := hcells (by omega)
      subst had
      have hlt : i.toNat < es.length := by omega
      have hg : es[i.toNat]? = some es[i.toNat] := List.getElem?_eq_getElem hlt
      refine pw_done st (fun w => run_index_sl w ho hu hi1 hi2 hxe hix hb0 hb1) ?_ (atL_ok hk hg)
      rw [add_lit']
      exact VOk.of_RV (hcell _ _ hg).2
    · rename_i g sz off m he
      split at hk
      case h_2 => exact hk.elim
      rename_i hsz
      have hsz' := beq_of hsz
      subst hsz'
      obtain ⟨⟨hb0, hb1⟩, hk⟩ := chk_ok hk
      try simp only [forceNm_eq] at hk
      have hx := (evo st he).rv (by simp)
      generalize hxv : a.eval x = xv at hx
      cases hx with
      | gsl0 g sz hφ => omega
      | gsl g sz off m b ad cap t' hφ hb ha hs hl =>
        have had := ha (.inl (by omega))
        subst had
        refine pw_done st (fun w => run_index_sl w ho hu hi1 hi2 hxv hix hb0 hb1) ?_ hk
        rw [add_lit', ← Nat.add_mul]
        have := RV.gptr (c := c) g sz (off + i.toNat) 0 b hφ
        exact VOk.of_RV (by simpa using this)
    · exact hk.elim
  · rename_i m esz z hz
    rw [hz] at ht
    obtain ⟨e, hu, ⟨ie, hi1, hi2, hpos⟩, _⟩ := ht
    split at hk
    · rename_i k' off he
      split at hk
      case h_2 => exact hk.elim
      rename_i hbx
      obtain ⟨⟨hb0, hb1⟩, hk⟩ := chk_ok hk
      try simp only [forceNm_eq] at hk
      have hx := (evo st he).lptr_box hbx
      refine pw_done st (fun w => run_index_ar w ho hu hi1 hi2 hx hix hb0 hb1) ?_ hk
      rw [add_lit']
      exact fun _ _ _ => rfl
    · rename_i g sz i' off he
      obtain ⟨⟨hb0, hb1⟩, hk⟩ := chk_ok hk
      try simp only [forceNm_eq] at hk
      have hx := (evo st he).rv (by simp)
      generalize hxv : a.eval x = xv at hx
      cases hx with
      | gptr g sz i' off b hφ =>
        refine pw_done st (fun w => run_index_ar w ho hu hi1 hi2 hxv hix hb0 hb1) ?_ hk
        rw [add_lit']
        rw [Nat.add_assoc]
        exact VOk.of_RV (.gptr _ _ _ _ _ hφ)
    · exact hk.elim
  · exact hk.elim

/-! ### Loads -/
theorem row_cells {g : Nat} {r : GRow} (hr : RowOk c g r) (hz : 0 < r.sz) {i : Nat} {cs : List V} (hi : r.es[i]? = some cs) {b : Nat} (hφ : c.φ g = some (some b)) : CellsAt c b (i * r.sz) cs := by
  intro j v hj
  obtain ⟨h0, _⟩ | ⟨_, ⟨h1, _⟩ | ⟨b', arr, e, cap, h1, h2, h3, h4, h5, h6, h7, _⟩⟩ := hr
  · omega
  · rw [hφ] at h1; cases h1
  · rw [hφ] at h1
    injection h1 with h1
    injection h1 with h1
    subst h1
    obtain ⟨_, x, hx, hv⟩ := h7 i cs j v hi hj
    exact ⟨x, by simp [World.cell?, h2, hx], hv⟩

theorem at_inv {g sz i : Nat} {cs : List V} (hh : H.at h g sz i = some cs) : ∃ r, h g = some r ∧ r.sz = sz ∧ r.es[i]? = some cs ∧ 0 < r.sz := by
  unfold H.at at hh
  cases hg : h g with
  | none => simp only [hg] at hh; cases hh
  | some r =>
    simp only [hg] at hh
    split at hh
    · rename_i hb
      split at hh
      · rename_i h1; exact ⟨r, rfl, beq_of hb, hh, by have := Nat.le_of_ble_eq_true h1; have := beq_of hb; omega⟩
      · cases hh
    · cases hh

theorem box_cells (st : St c0 h0 n c h bb F a) {k : Nat} {fr : Bool} {cs : List V} (hl : look F k = .box fr cs) : CellsAt c (bb k) 0 cs ∧ k < n := by
  have hk : k < n := by
    rcases Nat.lt_or_ge k n with h | h
    · exact h
    · rw [st.fs.high k h] at hl; cases hl
  have hs := st.fs.slot k hk
  rw [hl] at hs
  obtain ⟨_, _, _, arr, e, h4, h5, h6, h7, _⟩ := hs
  refine ⟨fun j v hj => ?_, hk⟩
  obtain ⟨y, hy, hr⟩ := h7 j v hj
  exact ⟨y, by simp [World.cell?, h4, hy], hr⟩

theorem pw_load {t : TypeId} {x : Operand} (htt : ∀ t, TIok P t (tt t)) (ho : o.op = .load t x) (st : St c0 h0 n c h bb F a) (hk : evOp0 M tt n o F h K) : PW P o a (fun w => w = c.w) c0 h0 n c h bb K := by
  simp only [evOp0, ho, opPick, opBuild, opLoad, opNilCheck, opBinOp, opConvert, opSlice, opFieldAddr, opIndexAddr, opIndex, opExtract, opAlloc, opBox, opStore, opBuildSlice, opMakeFunc] at hk
  have run : ∀ {ad : Addr} {r : Value}, a.eval x = .pointer (some ad) → (loadVar t ad).run P c.w = .ok r c.w → (execOp a.eval o).run P c.w = .ok (.value r) c.w := fun hx h1 => by
    simp [execOp, ho, hx, Instr.loadAt, Instr.sureAddr, h1]
  split at hk
  · rename_i cs he
    have hx := (evo st he).rv (by simp)
    generalize hxv : a.eval x = xv at hx
    cases hx with
    | ip cs b off hc hr =>
      have hcs : CellsAt c b off cs := fun j v hj => by
        obtain ⟨_, y, hy⟩ := hc j v hj
        exact ⟨y, hy, hr j v y hj hy⟩
      obtain ⟨v, r, h1, h2, h3⟩ := loadC_ok (htt t) hcs hk
      exact pr_done st (run hxv h1) (VOk.of_RV h2) h3
  · rename_i k off he
    split at hk
    · rename_i fr cs hl
      have hx := (evo st he) _ _ hl
      obtain ⟨hcs, _⟩ := box_cells st hl
      obtain ⟨v, r, h1, h2, h3⟩ := loadC_ok (htt t) hcs hk
      rw [Nat.zero_add] at h1
      exact pr_done st (run hx h1) (VOk.of_RV h2) h3
    · exact hk.elim
  · rename_i g sz i off he
    replace hk := atH_ok hk
    obtain ⟨cs, hcs, hk⟩ := hk
    obtain ⟨r, hg, hsz, hi, hpos⟩ := at_inv hcs
    have hx := (evo st he).rv (by simp)
    generalize hxv : a.eval x = xv at hx
    cases hx with
    | gptr g sz i off b hφ =>
      subst hsz
      have hcc := row_cells (st.hs.row g r hg) hpos hi hφ
      obtain ⟨v, r', h1, h2, h3⟩ := loadC_ok (htt t) hcc hk
      exact pr_done st (run hxv h1) (VOk.of_RV h2) h3
  · rename_i g sz i off esz m he
    have one : ((∃ z, tt t = .one z) ∨ tt t = .pt ∨ (∃ a b z, tt t = .sl a b z) ∨ tt t = .up ∨ ∃ a b, tt t = .mp a b) → (atH h g sz i fun cs => force (nth cs (off + m * esz)) fun v => match cell1 v with | true => put n F o.dst v fun F => K F h | false => False) → PW P o a (fun w => w = c.w) c0 h0 n c h bb K := by
      clear hk
      intro hti hk
      replace hk := atH_ok hk
      obtain ⟨cs, hcs, hk⟩ := hk
      rw [force_eq] at hk
      split at hk
      case h_2 => exact hk.elim
      rename_i hc1
      have hv : cs[off + m * esz]? = some (nth cs (off + m * esz)) := nth_get rfl (by intro e; rw [e] at hc1; cases hc1)
      obtain ⟨r, hg, hsz, hi, hpos⟩ := at_inv hcs
      have hx := (evo st he).rv (by simp)
      generalize hxv : a.eval x = xv at hx
      cases hx with
      | garr g sz i off esz m b hφ =>
        subst hsz
        have hcc := row_cells (st.hs.row g r hg) hpos hi hφ
        obtain ⟨d, ti, hu, hd1, hd2, _⟩ := (htt t).one_desc hti
        obtain ⟨y, h1, h2⟩ := loadOne_ok hu hd1 hd2 hcc hv
        refine pr_done st (run hxv ?_) (VOk.of_RV h2) hk
        rw [Nat.add_assoc]
        exact h1
    split at hk
    · exact one (.inr (.inl ‹_›)) hk
    · exact one (.inl ⟨_, ‹_›⟩) hk
    · exact hk.elim
  · exact hk.elim

/-! ### Conversions -/
theorem nums_bytes (l : List UInt8) : strOfNums (l.map fun c => (c.toNat : Int)) = ⟨l.toArray⟩ := by
  unfold strOfNums
  congr 2
  rw [List.map_map]
  conv => rhs; rw [← List.map_id l]
  apply List.map_congr_left
  intro c _
  simp

theorem bytesL_get {l : List UInt8} {i : Nat} {c : UInt8} (hi : l[i]? = some c) : (bytesL l)[i]? = some [V.i .u8 c.toNat] := by simp [bytesL, hi]

theorem pw_convert {t t' : TypeId} {x : Operand} (htt : ∀ t, TIok P t (tt t)) (ho : o.op = .convert t' t x) (st : St c0 h0 n c h bb F a) (hk : evOp0 M tt n o F h K) : PW P o a (fun w => w = c.w) c0 h0 n c h bb K := by
  simp only [evOp0, ho, opPick, opBuild, opLoad, opNilCheck, opBinOp, opConvert, opSlice, opFieldAddr, opIndexAddr, opIndex, opExtract, opAlloc, opBox, opStore, opBuildSlice, opMakeFunc] at hk
  have ht := htt t
  have ht' := htt t'
  split at hk
  · rename_i k k0 hz
    rw [hz] at ht
    obtain ⟨⟨d, hu, _, _, hdk, _⟩, _⟩ := ht
    have := hdk k _ rfl
    subst this
    split at hk
    case h_2 => exact hk.elim
    rename_i z' hz'
    rw [hz'] at ht'
    obtain ⟨⟨d', hd', _⟩, _⟩ := ht'
    split at hk
    · rename_i k' m he
      have hx := (evo st he).int
      rw [mkI_eq] at hk
      exact pr_done st (by simp [execOp, ho, hx, convert, run_underlying hd', run_underlying hu, Conv.intToInt]) (VOk.of_RV (.i _ _)) hk
    · exact hk.elim
  · rename_i zs hz
    rw [hz] at ht
    obtain ⟨⟨d, hu, _, _, _, hds, _⟩, _⟩ := ht
    have := hds zs rfl
    subst this
    split at hk
    · rename_i z' hz'
      rw [hz'] at ht'
      obtain ⟨⟨d', hd', _⟩, _⟩ := ht'
      split at hk
      · rename_i l he
        have hx := (evo st he).str
        exact pr_done st (by simp [execOp, ho, hx, convert, run_underlying hd', run_underlying hu]) (VOk.of_RV (.s _)) hk
      · exact hk.elim
    · rename_i esz eb z0 hz'
      rw [hz'] at ht'
      obtain ⟨e, hs1, _, ie, zv, hi1, hi2, hpos, _, _, _, _, _, hint⟩ := ht'
      have hs2 := hint _ _ rfl
      have key : ∀ (b off len cap : Nat) (l : List UInt8), a.eval x = .slice (some ⟨b, off, none⟩) len cap → l.length = len → (∀ (i : Nat) (cc : UInt8), l[i]? = some cc → c.w.cell? ⟨b, off + i, none⟩ = some (.int .u8 cc.toNat)) →
          put n F o.dst (.s l) (fun F => K F h) → PW P o a (fun w => w = c.w) c0 h0 n c h bb K := by
        intro b off len cap l hx hl hc hk
        have h1 := run_convert_bytes_arg (P := P) c.w t' e hs1 hs2 b off len cap (l.map fun c => (c.toNat : Int)) (by simpa using hl) (fun i hi => by
          have hg : l[i]? = some (l[i]'(by omega)) := List.getElem?_eq_getElem _
          rw [hc i _ hg]
          simp [List.getD, hg]) t hu
        rw [nums_bytes] at h1
        exact pr_done st (by simp only [execOp, ho, hx, Sem.run_bind, h1, Result.andThen_ok, Sem.run_pure]) (VOk.of_RV (.s l)) hk
      have key0 : ∀ (len cap : Nat), a.eval x = .slice none len cap → put n F o.dst (.s []) (fun F => K F h) → PW P o a (fun w => w = c.w) c0 h0 n c h bb K := by
        intro len cap hx hk
        exact pr_done st (by simp only [execOp, ho, hx, Sem.run_bind, run_convert_bytes_nil c.w t' e hs1 hs2 len cap t hu, Result.andThen_ok, Sem.run_pure]; rfl) (VOk.of_RV (.s [])) hk
      split at hk
      · rename_i he
        have hx := evo st he
        generalize hxv : a.eval x = xv at hx
        cases hx
        exact key0 0 0 hxv hk
      · rename_i sz es he
        split at hk
        case h_2 => exact hk.elim
        replace hk := unB_ok hk
        obtain ⟨l, rfl, hk⟩ := hk
        have hx := (evo st he).rv (by simp)
        generalize hxv : a.eval x = xv at hx
        cases hl : l with
        | nil =>
          subst hl
          cases hx with
          | lst0 sz ad cap => cases ad with
            | none => exact key0 _ _ hxv hk
            | some ad => exact pr_done st (by simp only [execOp, ho, hxv, Sem.run_bind, run_convert_bytes_string c.w t' t e (some ad) 0 cap hs1 hs2 hu]; simp [Conv.bytesToString, loadCells, loadCellsFrom]; rfl) (VOk.of_RV (.s [])) hk
          | lst sz es b off cap hsz hcap hcl hc hr => exact key b off _ cap [] hxv rfl (by simp) hk
        | cons c1 l1 =>
          obtain ⟨ad, cap, hxe, hcap, hcells⟩ := hx.lst_inv
          obtain ⟨b, off, had, hcell⟩ := hcells (by simp [bytesL, hl])
          subst had
          refine key b off l.length cap l (by rw [hxv, hxe]; simp [bytesL]) rfl (fun i cc hi => ?_) hk
          obtain ⟨_, hip⟩ := hcell i _ (bytesL_get hi)
          cases hip with
          | ip cs b off hc hr =>
            obtain ⟨_, y, hy⟩ := hc 0 _ rfl
            have := hr 0 _ y rfl hy
            cases this
            simpa using hy
      · rename_i g sz off m he
        split at hk
        case h_2 => exact hk.elim
        replace hk := getR_ok hk
        obtain ⟨r, hg, hk⟩ := hk
        replace hk := chk_ok hk
        obtain ⟨⟨hsz, hlen⟩, hk⟩ := hk
        replace hk := unB_ok hk
        obtain ⟨l, hes, hk⟩ := hk
        have hml : m = l.length := by
          have := congrArg List.length hes
          simp [bytesL] at this
          omega
        have hx := (evo st he).rv (by simp)
        generalize hxv : a.eval x = xv at hx
        cases hx with
        | gsl0 g sz hφ =>
          have : l = [] := List.eq_nil_of_length_eq_zero hml.symm
          subst this
          exact key0 _ _ hxv hk
        | gsl g sz off m b ad cap t' hφ hb ha hs hl =>
          by_cases hm0 : m = 0
          · subst hm0
            have : l = [] := List.eq_nil_of_length_eq_zero hml.symm
            subst this
            exact pr_done st (by simp only [execOp, ho, hxv, Sem.run_bind, run_convert_bytes_string c.w _ t e (some ad) 0 cap hs1 hs2 hu]; simp [Conv.bytesToString, loadCells, loadCellsFrom]; rfl) (VOk.of_RV (.s [])) hk
          · have had := ha (.inl (by omega))
            subst had
            refine key b (off * 1) m cap l hxv hml.symm (fun i cc hi => ?_) hk
            have hil : i < l.length := (List.getElem?_eq_some_iff.1 hi).1
            have hge : r.es[off + i]? = some [V.i .u8 cc.toNat] := by
              have h1 := bytesL_get hi
              rw [← hes, List.getElem?_take, if_pos (by omega), List.getElem?_drop] at h1
              exact h1
            have hcc := row_cells (st.hs.row g r hg) (by omega) hge hφ
            obtain ⟨y, hy, hv⟩ := hcc 0 _ rfl
            cases hv
            rw [hsz] at hy
            simpa using hy
      · exact hk.elim
    · exact hk.elim
  · exact hk.elim
end
end Go.AM
