/- Soundness of the operations beyond the first ones, 1. -/
import Derived.Test.YtjneljpbkjhlmaaGreatDoorAmE
import Derived.Lib.Builder
set_option linter.unusedVariables false
set_option linter.unusedSimpArgs false
set_option linter.unnecessarySimpa false
set_option linter.unusedSectionVars false
set_option linter.unusedVariables false
set_option linter.unusedSimpArgs false
namespace Go.AM
open Go

section
variable {P : Program} {M : Mach} {tt : TT} {c0 : Cfg} {h0 : H} {n : Nat} {c : Cfg} {h : H} {bb : Nat → Nat} {F : Fr} {a : Act} {o : Oper} {next : Act → World → Prop} {Q : Exit → Act → World → Prop} {K : Fr → H → Prop}

theorem xNew_ok {X : XP} {e : TypeId} {cs : List V} {xs : List Value} (st : St c0 h0 n c h bb F a) (hx : RVs c cs xs)
    (hr : (execOp a.eval o).run P c.w = .ok (.value (.pointer (some ⟨c.w.heap.size, 0, none⟩))) (c.w.alloc (.cells xs.toArray e))) (hk : xNew X n o e cs F h K) (hn : Goes c0 h0 n K next) : o.wp P a c.w next Q := by
  unfold xNew at hk
  split at hk
  case h_2 => exact hk.elim
  rename_i v r hc
  simp only [forceL_eq, forceN_eq] at hk
  obtain ⟨g, hg1, hg2⟩ := fresh st.ok st.hs
  have hk2 := newK_ok hk hg2
  generalize hcs : v :: r = cs at *
  have hp : Pushed c.w (c.w.alloc (.cells xs.toArray e)) (.cells xs.toArray e (0, 0)) := ⟨rfl, rfl, rfl, rfl⟩
  have hev := evo_pushed st.ok hp hg1 (some c.w.heap.size)
  have hl : len cs = xs.length := by rw [len_eq, hx.len]
  have hpos : 0 < len cs := by rw [← hcs]; exact Nat.succ_pos _
  have hφ : (c.name g (some c.w.heap.size) (c.w.alloc (.cells xs.toArray e))).φ g = some (some c.w.heap.size) := by simp [Cfg.name]
  have hrow : RowOk (c.name g (some c.w.heap.size) (c.w.alloc (.cells xs.toArray e))) g ⟨len cs, 0, [cs], 0⟩ := by
    refine .inr ⟨hpos, .inr ⟨c.w.heap.size, xs.toArray, e, 1, hφ, hp.new, by simp [hl], by simp, by simp [maxLen], fun i cs' hi => ?_, fun i cs' j v hi hj => ?_, fun o' hz => absurd (st.ok.zlt _ _ hz) (Nat.lt_irrefl _), by simp, fun h => absurd rfl h⟩⟩
    · cases i with
      | zero => simp at hi; rw [← hi, len_eq]
      | succ i => simp at hi
    · cases i with
      | zero =>
        simp at hi
        subst hi
        have hjl : j < xs.length := by rw [← hx.len]; exact (List.getElem?_eq_some_iff.1 hj).1
        refine ⟨cellL_at hc j v hj, xs[j], by simp [hjl], (hx.at_ j v _ hj (List.getElem?_eq_getElem hjl)).mono hev⟩
      | succ i => simp at hi
  have st' := st.newAny hp hg1 hg2 hrow
  have hrv : RV (c.name g (some c.w.heap.size) (c.w.alloc (.cells xs.toArray e))) (ptrOf X g (len cs) e) (.pointer (some ⟨c.w.heap.size, 0, none⟩)) := by
    unfold ptrOf
    split
    · refine .bp g _ _ _ hφ ?_ hpos
      show (c.w.alloc (.cells xs.toArray e)).shape? c.w.heap.size = _
      simp only [World.shape?, hp.new]
      simp [hl]
    · have := RV.gptr (c := c.name g (some c.w.heap.size) (c.w.alloc (.cells xs.toArray e))) g (len cs) 0 0 _ hφ
      simpa using this
  obtain ⟨F', hF', hK⟩ := put_ok st'.fs (VOk.of_RV hrv) hk2
  exact wp_value hr (hn _ _ bb F' _ ⟨st'.keep, st'.ok, st'.hs, hF'⟩ hK)

theorem ok_allocX {X : XP} {e : TypeId} (htt : ∀ t, TIok P t (tt t)) (ho : o.op = .alloc e) (st : St c0 h0 n c h bb F a) (hk : opAlloc tt e fun cs => xNew X n o e cs F h K) (hn : Goes c0 h0 n K next) : o.wp P a c.w next Q := by
  have ht := htt e
  have run : ∀ {zv : Value} {i : TypeInfo}, P.info? e = some i → i.zero = some zv → (execOp a.eval o).run P c.w = .ok (.value (.pointer (some ⟨c.w.heap.size, 0, none⟩))) (c.w.alloc (.cells zv.cells.toList.toArray e)) := fun h1 h2 => by
    simp [execOp, ho, Instr.alloc, zeroValue, typeInfo, h1, h2, newVar, newRow]
  unfold opAlloc at hk
  split at hk
  · rename_i z hz
    rw [hz] at ht
    obtain ⟨_, i, zv, h1, h2, h3, h4, h5⟩ := ht
    have hc : zv.cells = #[zv] := cell1_cells (c := c) h5 (h4 ▸ cv_RV c zv)
    have hr := run h1 h3
    rw [hc] at hr
    exact xNew_ok st (RVs.cvs [zv] (by simp [h4])) hr hk hn
  · rename_i z hz
    rw [hz] at ht
    obtain ⟨fs, hu, hoff, i, xs, h1, h2, h3, h4, h5⟩ := ht
    exact xNew_ok st (RVs.cvs xs.toList h4) (run h1 h3) hk hn
  · rename_i z hz
    rw [hz] at ht
    obtain ⟨fs, hu, hoff, i, xs, h1, h2, h3, h4, h5⟩ := ht
    exact xNew_ok st (RVs.cvs xs.toList h4) (run h1 h3) hk hn
  · rename_i hz
    rw [hz] at ht
    obtain ⟨fs, hu, ⟨i, h1, h2, h3⟩, _⟩ := ht
    exact xNew_ok st (RVs.cons .nils (RVs.nil c)) (run h1 h3) hk hn
  · rename_i hz
    rw [hz] at ht
    obtain ⟨_, i, h1, h2, h3⟩ := ht
    exact xNew_ok st (RVs.cons .nilp (RVs.nil c)) (run h1 h3) hk hn
  · rename_i hz
    rw [hz] at ht
    obtain ⟨_, _, _, ⟨i, h1, h2, h3⟩, _⟩ := ht
    exact xNew_ok st (RVs.cons .nilm (RVs.nil c)) (run h1 h3) hk hn
  · exact hk.elim
  · exact hk.elim

theorem ok_boxX {X : XP} {e : TypeId} {x : Operand} (htt : ∀ t, TIok P t (tt t)) (ho : o.op = .box e x) (st : St c0 h0 n c h bb F a) (hk : opBox tt F e x fun cs => xNew X n o e cs F h K) (hn : Goes c0 h0 n K next) : o.wp P a c.w next Q := by
  have run : (execOp a.eval o).run P c.w = .ok (.value (.pointer (some ⟨c.w.heap.size, 0, none⟩))) (c.w.alloc (.cells (a.eval x).cells.toList.toArray e)) := by
    simp [execOp, ho, Instr.box, newVar, newRow]
  have agg : ∀ {cs : List V}, ev F x = .agg cs → xNew X n o e cs F h K → o.wp P a c.w next Q := fun he hk => by
    have hx := (evo st he).rv (by simp)
    generalize hxv : a.eval x = xv at hx run
    cases hx with
    | agg cs xs hl hr => exact xNew_ok st ⟨hl, hr⟩ (by simpa [Value.cells] using run) hk hn
  have one : (force (ev F x) fun v => xNew X n o e [v] F h K) → o.wp P a c.w next Q := fun hk => by
    rw [force_eq] at hk
    have hk2 := hk
    unfold xNew at hk2
    split at hk2
    case h_2 => exact hk2.elim
    rename_i hcl _
    have h1 : cell1 (ev F x) = true := cellL_at hcl 0 _ rfl
    have hx := (ev_ok st.fs x).rv (fun k off he => by rw [he] at h1; cases h1)
    rw [cell1_cells h1 hx] at run
    exact xNew_ok st (RVs.cons hx (RVs.nil c)) run hk hn
  unfold opBox at hk
  split at hk
  · split at hk
    case h_2 => exact hk.elim
    rename_i cs he
    split at hk
    · exact agg he hk
    · exact hk.elim
  · split at hk
    case h_2 => exact hk.elim
    rename_i cs he
    split at hk
    · exact agg he hk
    · exact hk.elim
  · exact hk.elim
  · exact one hk

/-! ### Interfaces -/
theorem plainT_ok {t : TypeId} {ti : TI} (h : TIok P t ti) (hp : plainT ti = true) : ∃ d, P.underlying t = some d ∧ ∀ m, d ≠ .interface m := by
  cases ti with
  | no => cases hp
  | one z =>
    obtain ⟨⟨d, h1, _, _, hi, hs, hb⟩, _⟩ := h
    refine ⟨d, h1, fun m e => ?_⟩
    subst e
    cases z <;> simp only [plainT] at hp <;> first | cases hp | skip
    · cases hb rfl
    · cases hi _ _ rfl
    · cases hs _ rfl
  | st offs z => obtain ⟨fs, h1, _⟩ := h; exact ⟨_, h1, fun m e => by cases e⟩
  | ar m e z => cases hp
  | sl x y z => obtain ⟨e, h1, _⟩ := h; exact ⟨_, h1, fun m e => by cases e⟩
  | pt => obtain ⟨⟨e, h1, _⟩, _⟩ := h; exact ⟨_, h1, fun m e => by cases e⟩
  | up => cases hp
  | mp x y => cases hp

theorem pw_mkI {t : TypeId} {x : Operand} (htt : ∀ t, TIok P t (tt t)) (ho : o.op = .makeInterface t x) (st : St c0 h0 n c h bb F a) (hk : opMkI tt F h t x fun v h => put n F o.dst v fun F => K F h) : PW P o a (fun _ => True) c0 h0 n c h bb K := by
  unfold opMkI at hk
  split at hk
  case h_2 => exact hk.elim
  rename_i hp
  rw [force_eq] at hk
  split at hk
  case h_2 => exact hk.elim
  rename_i hpo
  obtain ⟨d, hu, hd⟩ := plainT_ok (htt t) hp
  have hx := port_RV hpo (ev_ok st.fs x)
  exact pw_done st (fun w => by
    cases d <;> first | exact absurd rfl (hd _) | (simp [execOp, ho, Instr.makeInterface, run_underlying hu])) (VOk.of_RV (RV.ifc t _ _ hx)) hk

theorem pw_tyA {t xt : TypeId} {x : Operand} {ok : Bool} (htt : ∀ t, TIok P t (tt t)) (ho : o.op = .typeAssert x xt t ok) (st : St c0 h0 n c h bb F a) (hk : opTyA tt F h t x ok fun v h => put n F o.dst v fun F => K F h) : PW P o a (fun _ => True) c0 h0 n c h bb K := by
  unfold opTyA at hk
  split at hk
  case h_2 => exact hk.elim
  rename_i hp
  split at hk
  case h_2 => exact hk.elim
  rename_i t' v he
  split at hk
  case h_2 => exact hk.elim
  rename_i hb
  have hb := beq_of hb
  subst hb
  obtain ⟨d, hu, hd⟩ := plainT_ok (htt t') hp
  have hx := (evo st he).rv (by simp)
  generalize hxv : a.eval x = xv at hx
  cases hx with
  | ifc _ _ y hy =>
    have run : ∀ w : World, (execOp a.eval o).run P w = .ok (.value (if ok then .tuple #[y, .bool true] else y)) w := fun w => by
      cases ok <;> cases d <;> first | exact absurd rfl (hd _) | (simp [execOp, ho, hxv, Instr.typeAssert, run_underlying hu])
    cases ok with
    | true =>
      simp only at hk
      exact pw_done st run (VOk.of_RV (RV.tup' (RVs.cons hy (RVs.cons .tt (RVs.nil c))))) hk
    | false =>
      simp only [force_eq] at hk
      exact pw_done st run (VOk.of_RV hy) hk

/-! ### Parts -/
theorem partC_ok {t : TypeId} {ti : TI} (hti : TIok P t ti) {cs : List V} {A : Array Value} (hcs : RVs c cs A.toList) {off : Nat} {K : V → Prop} (hk : loadC ti cs off K) :
    ∃ v x, (∀ w, (part t A off).run P w = .ok x w) ∧ RV c v x ∧ K v := by
  have one : ((∃ z, ti = .one z) ∨ ti = .pt ∨ (∃ a b z, ti = .sl a b z) ∨ ti = .up ∨ ∃ a b, ti = .mp a b) → (force (nth cs off) fun v => match cell1 v with | true => K v | false => False) →
      ∃ v x, (∀ w, (part t A off).run P w = .ok x w) ∧ RV c v x ∧ K v := fun h hk => by
    simp only [force_eq] at hk
    split at hk
    · rename_i h1
      obtain ⟨d, i, hu, hd1, hd2, _, _⟩ := hti.one_desc h
      have hne : nth cs off ≠ .dead := by intro e; rw [e] at h1; cases h1
      have hv := nth_get (l := cs) (n := off) rfl hne
      have hlt : off < A.toList.length := by rw [← hcs.len]; exact (List.getElem?_eq_some_iff.1 hv).1
      have hlt' : off < A.size := by simpa using hlt
      refine ⟨nth cs off, A[off], fun w => run_part_one w hu hd1 hd2 (Array.getElem?_eq_getElem hlt'), hcs.at_ off _ _ hv (by simp [hlt']), hk⟩
    · exact hk.elim
  have agg : ∀ {z : List V} {i : TypeInfo}, (∃ d, P.underlying t = some d ∧ ((∃ fs, d = .struct fs) ∨ ∃ m e, d = .array m e)) → P.info? t = some i → i.size = z.length → (forceL (cut cs off (len z)) fun l => match Nat.beq (len l) (len z) with | true => K (.agg l) | false => False) →
      ∃ v x, (∀ w, (part t A off).run P w = .ok x w) ∧ RV c v x ∧ K v := by
    rintro z i ⟨d, hu, hd⟩ hi hz hk
    simp only [forceL_eq] at hk
    split at hk
    · rename_i hl
      have hl' := beq_of hl
      simp only [len_eq, cut_eq] at hl' hk
      have hcl := congrArg (fun l : List V => l.length) (cut_eq cs off z.length)
      refine ⟨_, .agg ((A.toList.drop off).take z.length).toArray, fun w => ?_, RV.agg' ((hcs.drop off).take z.length), hk⟩
      have hagg : (isAgg t).run P w = .ok true w := by
        rcases hd with ⟨fs, rfl⟩ | ⟨m, e, rfl⟩ <;> simp [isAgg, run_underlying hu]
      simp [part, hagg, sizeOf, typeInfo, hi, hz]
      apply Array.ext'
      simp [List.take_drop, Nat.add_comm]
    · exact hk.elim
  cases ti with
  | no => exact hk.elim
  | one z => exact one (.inl ⟨z, rfl⟩) hk
  | pt => exact one (.inr (.inl rfl)) hk
  | sl a b z => exact one (.inr (.inr (.inl ⟨a, b, z, rfl⟩))) hk
  | up => exact one (.inr (.inr (.inr (.inl rfl)))) hk
  | mp a b => exact one (.inr (.inr (.inr (.inr ⟨a, b, rfl⟩)))) hk
  | st offs z =>
    obtain ⟨fs, hu, _, i, xs, hi, hsz, _⟩ := hti
    exact agg ⟨_, hu, .inl ⟨fs, rfl⟩⟩ hi hsz hk
  | ar m esz z =>
    obtain ⟨e, hu, _, i, xs, hi, hsz, _⟩ := hti
    exact agg ⟨_, hu, .inr ⟨m, e, rfl⟩⟩ hi hsz hk

theorem pw_field {t : TypeId} {x : Operand} {f : Nat} (htt : ∀ t, TIok P t (tt t)) (ho : o.op = .field t x f) (st : St c0 h0 n c h bb F a) (hk : opField P tt F h t x f fun v h => put n F o.dst v fun F => K F h) : PW P o a (fun _ => True) c0 h0 n c h bb K := by
  unfold opField at hk
  split at hk
  case h_2 => exact hk.elim
  rename_i fs hu
  split at hk
  case h_2 => exact hk.elim
  rename_i fld hf
  split at hk
  case h_2 => exact hk.elim
  rename_i cs he
  have hx := (evo st he).rv (by simp)
  generalize hxv : a.eval x = xv at hx
  cases hx with
  | agg cs xs hl hr =>
    obtain ⟨v, y, h1, h2, h3⟩ := partC_ok (A := xs.toArray) (htt fld.type) ⟨by simpa using hl, by simpa using hr⟩ hk
    exact pw_done st (fun w => by simp [execOp, ho, hxv, Instr.field, run_underlying hu, hf, asAgg, h1 w]) (VOk.of_RV h2) h3

theorem pw_idxA {t : TypeId} {x ix : Operand} (htt : ∀ t, TIok P t (tt t)) (ho : o.op = .index t x ix) (st : St c0 h0 n c h bb F a) (hk : opIdxA P tt F h t x ix fun v h => put n F o.dst v fun F => K F h) : PW P o a (fun _ => True) c0 h0 n c h bb K := by
  unfold opIdxA at hk
  split at hk
  case h_2 => exact pw_index (M := ⟨fun _ _ _ _ => False, fun _ _ _ _ _ => False, fun _ _ _ _ _ _ => False, fun _ => false, fun _ _ _ _ _ => False⟩) htt ho st (by simp only [evOp0, ho]; exact hk)
  rename_i m e hu
  split at hk
  case h_2 => exact hk.elim
  rename_i m' esz z hz
  split at hk
  case h_2 => exact hk.elim
  rename_i cs kk i he hi
  obtain ⟨⟨hb0, hb1⟩, hk⟩ := chk_ok hk
  simp only [forceNm_eq] at hk
  have ht := htt t
  rw [hz] at ht
  obtain ⟨e', hu', ⟨ie, hi1, hi2, hpos⟩, _⟩ := ht
  rw [hu] at hu'
  injection hu' with hu'
  injection hu' with _ hu'
  subst hu'
  have hx := (evo st he).rv (by simp)
  have hix := (evo st hi).int
  generalize hxv : a.eval x = xv at hx
  cases hx with
  | agg cs xs hl hr =>
    obtain ⟨v, y, h1, h2, h3⟩ := partC_ok (A := xs.toArray) (htt e) ⟨by simpa using hl, by simpa using hr⟩ hk
    exact pw_done st (fun w => by simp [execOp, ho, hxv, hix, Instr.index, run_underlying hu, asIntOf, hb0, hb1, sizeOf, typeInfo, hi1, hi2, h1 w]) (VOk.of_RV h2) h3
end
end Go.AM
/- Soundness of the operations beyond the first ones, 2: unsafe pointers of builders, slices, append. -/
set_option linter.unusedVariables false
set_option linter.unusedSimpArgs false
namespace Go.AM
open Go

/-- What a program must hold of X. -/
structure XOk (P : Program) (X : XP) : Prop where
  uP : P.underlying X.uP = some .unsafePointer
  bP : P.underlying X.bP = some (.pointer X.bT)
  bT : ∃ j, P.info? X.bT = some j ∧ j.size ≠ 0
  lies : liesAt P P.depth X.bT (2 / P.cellsOf X.bT) 0 X.bT 1 = true
  byS : ∀ e, P.underlying X.byS = some (.slice e) → e = X.u8
  u8 : P.cellsOf X.u8 = 1
  u8P : P.underlying X.u8P = some (.pointer X.u8)

section
variable {P : Program} {M : Mach} {tt : TT} {X : XP} {c0 : Cfg} {h0 : H} {n : Nat} {c : Cfg} {h : H} {bb : Nat → Nat} {F : Fr} {a : Act} {o : Oper} {next : Act → World → Prop} {Q : Exit → Act → World → Prop} {K : Fr → H → Prop}

theorem pw_convU (hX : XOk P X) {src dst : TypeId} {x : Operand} (ho : o.op = .convert src dst x) (st : St c0 h0 n c h bb F a) (hk : opConvU X F h src dst x fun v h => put n F o.dst v fun F => K F h) : PW P o a (fun w => w = c.w) c0 h0 n c h bb K := by
  unfold opConvU at hk
  split at hk
  case h_2 => exact hk.elim
  rename_i g sz ty he
  split at hk
  case h_2 => exact hk.elim
  rename_i h1 h2
  have h1 := beq_of h1
  have h2 := beq_of h2
  subst h1
  subst h2
  have hx := (evo st he).rv (by simp)
  generalize hxv : a.eval x = xv at hx
  have hx' := hx
  cases hx with
  | bp _ _ _ b hφ hs hpos =>
    obtain ⟨j, hj, hj0⟩ := hX.bT
    have run : ∀ {s d : TypeId}, s = src → d = dst → (convert s d (.pointer (some ⟨b, 0, none⟩))).run P c.w = .ok (.pointer (some ⟨b, 0, none⟩)) c.w → (execOp a.eval o).run P c.w = .ok (.value (.pointer (some ⟨b, 0, none⟩))) c.w := by
      rintro s d rfl rfl h
      simp [execOp, ho, hxv, h]
    split at hk
    · rename_i k1 k2
      have k1 := beq_of k1
      have k2 := beq_of k2
      subst k1
      subst k2
      exact pr_done st (run rfl rfl (Lib.run_to_unsafe (P := P) c.w ⟨b, 0, none⟩ hX.bP hX.uP hj hj0 hs (by simp))) (VOk.of_RV hx') hk
    · split at hk
      case h_2 => exact hk.elim
      rename_i k1 k2
      have k1 := beq_of k1
      have k2 := beq_of k2
      subst k1
      subst k2
      exact pr_done st (run rfl rfl (Lib.run_from_unsafe (P := P) c.w ⟨b, 0, none⟩ hX.uP hX.bP hj hs hX.lies)) (VOk.of_RV hx') hk

/-! ### Slices -/
theorem gsl_cut {g sz off m b cap : Nat} {ad : Addr} {t' : TypeId} (hφ : c.φ g = some (some b)) (hb : ad.block = b) (ha : 0 < m ∨ off = 0 → ad = ⟨b, off * sz, none⟩) (hs : c.w.shape? b = some (t', (off + cap) * sz)) (hm : 0 < m ∨ off = 0) {l hh : Nat} (hlh : l ≤ hh) (hhc : hh ≤ cap) :
    RV c (.gsl g sz (off + l) (hh - l)) (.slice (if cap = l then some ad else (some ad).map (·.add (l * sz))) (hh - l) (cap - l)) := by
  have had := ha hm
  subst had
  by_cases hcl : cap = l
  · rw [if_pos hcl]
    refine .gsl _ _ _ _ b _ _ t' hφ rfl (fun hp => ?_) ?_ (by omega)
    · have hl0 : l = 0 := by omega
      rw [hl0]; simp
    · rw [show off + l + (cap - l) = off + cap by omega]; exact hs
  · rw [if_neg hcl]
    simp only [Option.map_some, add_lit']
    refine .gsl _ _ _ _ b _ _ t' hφ rfl (fun hp => by rw [Nat.add_mul]) ?_ (by omega)
    rw [show off + l + (cap - l) = off + cap by omega]; exact hs

theorem run_slice3_sl {t e : TypeId} {esz : Nat} {ad : Option Addr} {len cap : Nat} {lo : Option Value} {l hh k : Nat} {ie : TypeInfo} {k1 k2 : IntKind} {i1 i2 : Int} (w : World) (hu : P.underlying t = some (.slice e)) (hi' : P.info? e = some ie) (hsz : ie.size = esz)
    (hlo : (lo = none ∧ l = 0) ∨ ∃ k i, lo = some (.int k i) ∧ 0 ≤ i ∧ l = i.toNat) (h1 : 0 ≤ i1) (h2 : 0 ≤ i2) (e1 : hh = i1.toNat) (e2 : k = i2.toNat) (hlh : l ≤ hh) (hhk : hh ≤ k) (hkc : k ≤ cap) :
    (Instr.sliceAt t (.slice ad len cap) lo (some (.int k1 i1)) (some (.int k2 i2))).run P w = .ok (.slice (if k = l then ad else ad.map (·.add (l * esz))) (hh - l) (k - l)) w := by
  have hb : (Instr.sliceBounds true len cap lo (some (.int k1 i1)) (some (.int k2 i2))).run P w = .ok (l, hh, k) w := by
    subst e1
    subst e2
    rcases hlo with ⟨rfl, rfl⟩ | ⟨k', i, rfl, hi0, rfl⟩
    · simp only [Instr.sliceBounds]
      simp [run_sliceBound (P := P) w h2 (show i2 ≤ cap by omega), run_sliceBound (P := P) w h1 (show i1 ≤ ((i2.toNat : Nat) : Int) by omega)]
    · simp only [Instr.sliceBounds]
      simp [run_sliceBound (P := P) w h2 (show i2 ≤ cap by omega), run_sliceBound (P := P) w h1 (show i1 ≤ ((i2.toNat : Nat) : Int) by omega), run_sliceBound (P := P) w hi0 (show i ≤ ((i1.toNat : Nat) : Int) by omega)]
  simp only [Instr.sliceAt, Sem.run_bind, run_underlying hu, Result.andThen_ok, Instr.slice, hb, sizeOf, typeInfo]
  simp [hi', hsz]

theorem lo_val (st : St c0 h0 n c h bb F a) {lo : Option Operand} {v : Int} (hv : (match lo.map (ev F) with
      | none => some (0 : Int)
      | some (.i _ a) => some a
      | _ => none) = some v) (h0' : 0 ≤ v) : (lo.map a.eval = none ∧ v.toNat = 0) ∨ ∃ k i, lo.map a.eval = some (.int k i) ∧ 0 ≤ i ∧ v.toNat = i.toNat := by
  cases lo with
  | none => simp at hv; subst hv; exact .inl ⟨rfl, rfl⟩
  | some l =>
    simp only [Option.map_some] at hv
    split at hv
    · rename_i h; cases h
    · rename_i k i h
      injection h with h
      injection hv with hv
      subst hv
      exact .inr ⟨k, i, by simp [(evo st h).int], h0', rfl⟩
    · cases hv

theorem pw_slX {t : TypeId} {x : Operand} {lo hi mx : Option Operand} (htt : ∀ t, TIok P t (tt t)) (ho : o.op = .slice t x lo hi mx) (st : St c0 h0 n c h bb F a) (hk : opSlX tt F h t x lo hi mx fun v h => put n F o.dst v fun F => K F h) : PW P o a (fun _ => True) c0 h0 n c h bb K := by
  have base : opSlice tt F h t x lo hi none (fun v h => put n F o.dst v fun F => K F h) → mx = none → PW P o a (fun _ => True) c0 h0 n c h bb K := fun hk2 hm => by
    clear hk
    subst hm
    exact pw_slice (M := ⟨fun _ _ _ _ => False, fun _ _ _ _ _ => False, fun _ _ _ _ _ _ => False, fun _ => false, fun _ _ _ _ _ => False⟩) htt ho st (by simp only [evOp0, ho]; exact hk2)
  have ht := htt t
  unfold opSlX at hk
  split at hk
  · rename_i k
    split at hk
    case h_2 => exact hk.elim
    rename_i esz eb ez hz
    rw [hz] at ht
    obtain ⟨e, hu, _, ie, zv, hi1, hi2, hpos, _⟩ := ht
    have fin : ∀ {ad : Option Addr} {m cap sz : Nat} {a0 b0 k0 : Int} {kk1 kk2 : IntKind}, sz = esz → a.eval x = .slice ad m cap → hi.map a.eval = some (.int kk1 b0) → a.eval k = .int kk2 k0 →
        ((lo.map a.eval = none ∧ a0.toNat = 0) ∨ ∃ k i, lo.map a.eval = some (.int k i) ∧ 0 ≤ i ∧ a0.toNat = i.toNat) → 0 ≤ a0 → a0 ≤ b0 → b0 ≤ k0 → k0.toNat ≤ cap →
        ((k0 = a0 → put n F o.dst (.emp sz) fun F => K F h) ∧ (k0 ≠ a0 → put n F o.dst .dead fun F => K F h)) → PW P o a (fun _ => True) c0 h0 n c h bb K := by
      intro ad m cap sz a0 b0 k0 kk1 kk2 hsz hxv hhi hkv hlo q0 q1 q2 q3 hk2
      clear hk
      subst hsz
      have hrun : ∀ w : World, (execOp a.eval o).run P w = .ok (.value (.slice (if k0.toNat = a0.toNat then ad else ad.map (·.add (a0.toNat * sz))) (b0.toNat - a0.toNat) (k0.toNat - a0.toNat))) w := fun w => by
        simp only [execOp, ho, Option.map_some, hhi, hkv, hxv, Sem.run_bind, run_slice3_sl w hu hi1 hi2 hlo (show 0 ≤ b0 by omega) (show 0 ≤ k0 by omega) rfl rfl (show a0.toNat ≤ b0.toNat by omega) (show b0.toNat ≤ k0.toNat by omega) q3, Result.andThen_ok, Sem.run_pure]
      by_cases hka : k0 = a0
      · refine pw_done st hrun ?_ (hk2.1 hka)
        subst hka
        have : b0 = k0 := by omega
        subst this
        simp only [Nat.sub_self, if_true]
        exact VOk.of_RV (.emp _ _)
      · exact pw_done st hrun (VOk.of_RV (.dead _)) (hk2.2 hka)
    have both : ∀ {k0 a0 : Int} {sz : Nat}, (match h.md with
          | true => match decide (k0 = a0) with
            | true => put n F o.dst (.emp sz) fun F => K F h
            | false => put n F o.dst .dead fun F => K F h
          | false => (k0 = a0 → put n F o.dst (.emp sz) fun F => K F h) ∧ (k0 ≠ a0 → put n F o.dst .dead fun F => K F h)) →
        ((k0 = a0 → put n F o.dst (.emp sz) fun F => K F h) ∧ (k0 ≠ a0 → put n F o.dst .dead fun F => K F h)) := by
      intro k0 a0 sz hk
      split at hk
      · split at hk
        · rename_i hd; exact ⟨fun _ => hk, fun hne => absurd (of_decide_eq_true hd) hne⟩
        · rename_i hd; exact ⟨fun he => absurd he (of_decide_eq_false hd), fun _ => hk⟩
      · exact hk
    split at hk
    · rename_i g sz off m lo' kk1 b0 kk2 k0 hx1 hb1 hk1
      split at hk
      case h_2 => exact hk.elim
      rename_i a0 hsz hlo
      obtain ⟨⟨q0, q1, q2, q3⟩, hk⟩ := chk_ok hk
      have hk3 := both hk
      clear hk
      have hx := (evo st hx1).rv (by simp)
      have hhi : hi.map a.eval = some (.int kk1 b0) := by
        cases hi with
        | none => cases hb1
        | some hi => simp only [Option.map_some, Option.some.injEq] at hb1 ⊢; exact (evo st hb1).int
      have hkv := (evo st hk1).int
      generalize hxv : a.eval x = xv at hx
      cases hx with
      | gsl0 g sz hφ => exact fin (beq_of hsz) hxv hhi hkv (lo_val st hlo q0) q0 q1 q2 (by omega) hk3
      | gsl g sz off m b ad cap t' hφ hb ha hs hl => exact fin (beq_of hsz) hxv hhi hkv (lo_val st hlo q0) q0 q1 q2 (by omega) hk3
    · rename_i sz es lo' kk1 b0 kk2 k0 hx1 hb1 hk1
      split at hk
      case h_2 => exact hk.elim
      rename_i a0 hsz hlo
      obtain ⟨⟨q0, q1, q2, q3⟩, hk⟩ := chk_ok hk
      have hk3 := both hk
      clear hk
      have hx := (evo st hx1).rv (by simp)
      have hhi : hi.map a.eval = some (.int kk1 b0) := by
        cases hi with
        | none => cases hb1
        | some hi => simp only [Option.map_some, Option.some.injEq] at hb1 ⊢; exact (evo st hb1).int
      have hkv := (evo st hk1).int
      obtain ⟨ad, cap, hxe, hcap, _⟩ := hx.lst_inv
      exact fin (beq_of hsz) hxe hhi hkv (lo_val st hlo q0) q0 q1 q2 (by omega) hk3
    · exact hk.elim
  · split at hk
    case h_2 => exact base hk rfl
    rename_i esz eb ez g sz off m kk b0 hz hx1 hb1
    split at hk
    · exact base hk rfl
    rename_i hmd
    split at hk
    · exact base hk rfl
    rename_i hnb
    split at hk
    case h_2 => exact hk.elim
    rename_i a0 hsz hlo
    have hsz := beq_of hsz
    subst hsz
    obtain ⟨r, hg, hk⟩ := getR_ok hk
    obtain ⟨⟨q0, q1, q2, q3, q4⟩, hk⟩ := chk_ok hk
    simp only [forceNm_eq] at hk
    rw [hz] at ht
    obtain ⟨e, hu, _, ie, zv, hi1, hi2, hpos, _⟩ := ht
    have hhi : hi.map a.eval = some (.int kk b0) := by
      cases hi with
      | none => cases hb1
      | some hi => simp only [Option.map_some, Option.some.injEq] at hb1 ⊢; exact (evo st hb1).int
    have hx := (evo st hx1).rv (by simp)
    generalize hxv : a.eval x = xv at hx
    cases hx with
    | gsl0 g sz hφ =>
      have hrow := st.hs.row g r hg
      obtain ⟨h0', _⟩ | ⟨_, ⟨_, h2, _⟩ | ⟨b, _, _, _, h1, _⟩⟩ := hrow
      · omega
      · rw [h2] at q3
        have hnb' := of_decide_eq_false hnb
        simp at q3 hnb'
        omega
      · rw [hφ] at h1; cases h1
    | gsl g sz off m b ad cap t' hφ hb ha hs hl =>
      obtain ⟨_, arr, e1, cap', hbk, hcap, hlen, hmax, _⟩ := (st.hs.row g r hg).elems (by omega) hφ
      have hcc : off + cap = cap' := by
        have : c.w.shape? b = some (e1, arr.size) := by simp [World.shape?, hbk]
        rw [this] at hs
        injection hs with hs
        injection hs with _ hs
        rw [hcap, q0] at hs
        exact (Nat.eq_of_mul_eq_mul_right hpos hs).symm
      refine pw_done st (fun w => ?_) (VOk.of_RV (gsl_cut hφ hb ha hs q4 (l := a0.toNat) (hh := b0.toNat) (by omega) (by omega))) hk
      simp only [execOp, ho, Option.map_none, hxv, Sem.run_bind, run_slice_sl w hu hi1 hi2 (lo_val st hlo q1) (.inr ⟨kk, b0, hhi, by omega, rfl⟩) (show a0.toNat ≤ b0.toNat by omega) (show b0.toNat ≤ cap by omega), Result.andThen_ok, Sem.run_pure]
end
end Go.AM
/- Soundness of the operations beyond the first ones, 3: builtins over rows. -/
set_option linter.unusedVariables false
set_option linter.unusedSimpArgs false
namespace Go.AM
open Go

theorem zeroE_eq (z : List V) (m : Nat) (r : List (List V)) : zeroE z m r = List.replicate m z ++ r := by
  induction m with
  | zero => rfl
  | succ m ih => simp [zeroE, ih, List.replicate_succ]

section
variable {P : Program} {M : Mach} {tt : TT} {X : XP} {c0 : Cfg} {h0 : H} {n : Nat} {c : Cfg} {h : H} {bb : Nat → Nat} {F : Fr} {a : Act} {o : Oper} {next : Act → World → Prop} {Q : Exit → Act → World → Prop} {K : Fr → H → Prop}

/-- A row is written in place; its slice stays one. -/
theorem St.rewrite (st : St c0 h0 n c h bb F a) {g b : Nat} {r : GRow} (hg : h g = some r) (hφ : c.φ g = some (some b)) (hpos : 0 < r.sz) {es' : List (List V)} {arr arr' : Array Value} {e : TypeId} {cap : Nat} (hb : c.w.heap[b]? = some (.cells arr e (0, 0)))
    (hs : arr'.size = arr.size) (hcap : arr.size = cap * r.sz) (hmax : cap ≤ maxLen) (hz : ∀ o, o < r.fz * r.sz → arr'[o]? = arr[o]?) (hlen : es'.length ≤ cap) (hfl : r.fz ≤ es'.length) (hZ : ∀ o, c.Z b o → o < r.fz * r.sz) (hty : r.ty ≠ 0 → e = r.ty)
    (hel : Elems c r.sz es' arr') : St c0 h0 n (c.at (c.w.setRow b arr')) (h.ins g ⟨r.sz, r.fz, es', r.ty⟩) bb F a :=
  (st.writeRow (r' := ⟨r.sz, r.fz, es', r.ty⟩) hg hφ hb hs hcap hmax hz rfl hpos hlen rfl hfl hZ hty hel (To.put st.hs hφ _) (.inl ⟨rfl, rfl⟩)).1

/-- append in place. -/
theorem ok_appX {t t' : TypeId} {x y : Operand} {esz eb : Nat} {ez : List V} (hX : XOk P X) (heb : 0 < eb) (htt : ∀ t, TIok P t (tt t)) (hz : tt t = .sl esz eb ez) (hsl : (∃ e', P.underlying t' = some (.slice e')) ∨ P.underlying t' = some .string)
    {cl : Call} (ho : o.op = .call cl) (hcl : cl.callee = .builtin .append) (hargs : cl.args = #[x, y]) (hats : cl.argTypes = #[t, t']) (st : St c0 h0 n c h bb F a)
    (hk : evAppX X t esz eb h (ev F x) (ev F y) fun v h => put n F o.dst v fun F => K F h) (hn : Goes c0 h0 n K next) : o.wp P a c.w next Q := by
  have base0 : evAppend 0 esz eb h (ev F x) (ev F y) (fun v h => put n F o.dst v fun F => K F h) → o.wp P a c.w next Q := fun hk2 => ok_append heb htt hz hsl ho hcl hargs hats st (fun h => absurd rfl h) hk2 hn
  unfold evAppX at hk
  split at hk
  · rename_i hb
    have hb := beq_of hb
    subst hb
    exact ok_append heb htt hz hsl ho hcl hargs hats st (fun _ e he => hX.byS e he) hk hn
  split at hk
  case h_2 => exact base0 hk
  rename_i g sz off n0 hex
  split at hk
  · exact base0 hk
  rename_i hmd
  have ht := htt t
  rw [hz] at ht
  obtain ⟨e, hu, _, ie, zv, hi1, hi2, hpos, hi3, hi4, hi5, hi6, hi7, _⟩ := ht
  obtain ⟨ys, news, hsrc, hrvs, hys, hk⟩ := src_ok (x := y) (t' := t') rfl hpos hsl st hk
  obtain ⟨r, hg, hk⟩ := getR_ok hk
  split at hk
  · exact base0 hk
  rename_i hb1
  simp only [Bool.and_eq_true] at hb1
  have hsz := beq_of hb1.1.1
  have hat : 0 < n0 ∨ off = 0 := by
    have h1 := hb1.1.2
    simp only [Bool.or_eq_true] at h1
    exact h1.imp (fun h => Nat.le_of_ble_eq_true h) beq_of
  have hfits := Nat.le_of_ble_eq_true hb1.2
  subst hsz
  obtain ⟨⟨hrs, hfz, hmx⟩, hk⟩ := chk_ok hk
  simp only [forceE_eq, forceH_eq, forceN_eq] at hk
  subst hi2
  have run : ∀ {r : Value} {w' : World}, (Builtin.append_ #[t, t'] o.type #[a.eval x, a.eval y]).run P c.w = .ok r w' → (execOp a.eval o).run P c.w = .ok (.value r) w' := fun h1 => by
    simp [execOp, ho, resolve, hcl, hargs, hats, invoke, builtin, h1]
  have fin : ∀ {v : V} {r : Value} {w' : World} {c' : Cfg} {h' : H}, c'.w = w' → St c0 h0 n c' h' bb F a → RV c' v r → (execOp a.eval o).run P c.w = .ok (.value r) w' → (put n F o.dst v fun F => K F h') → o.wp P a c.w next Q := by
    intro v r w' c' h' hw st' hrv hr hk
    obtain ⟨F', hF', hK⟩ := put_ok st'.fs (VOk.of_RV hrv) hk
    subst hw
    exact wp_value hr (hn _ _ bb F' _ ⟨st'.keep, st'.ok, st'.hs, hF'⟩ hK)
  have hx := (evo st hex).rv (by simp)
  generalize hxv : a.eval x = xv at hx run
  have hx0 := hx
  cases hx with
  | gsl0 g sz hφ =>
    obtain ⟨h0', _⟩ | ⟨_, ⟨_, h2, h3⟩ | ⟨b, _, _, _, h1, _⟩⟩ := st.hs.row g r hg
    · omega
    · have hy0 : ys = [] := List.eq_nil_of_length_eq_zero (by rw [h2] at hfits; simpa using hfits)
      subst hy0
      have hnews : news = [] := by have := hrvs.len; simp at this; exact List.eq_nil_of_length_eq_zero this.symm
      subst hnews
      have hsrc : Src P ie.size t' (a.eval y) 0 [] c.w := hsrc
      simp only [List.length_nil, Nat.add_zero] at hk
      have hin : St c0 h0 n c (h.ins g r) bb F a := ⟨⟨st.keep.evo, st.keep.blk, st.keep.z, fun b hb hd => st.keep.dom b hb (by
          obtain ⟨g', r', k1, k2⟩ := hd
          by_cases e' : g' = g
          · subst e'; exact ⟨g', r, hg, k2⟩
          · rw [ins_ne _ _ _ _ e'] at k1; exact ⟨g', r', k1, k2⟩)⟩, st.ok, ⟨fun g' r' hg' => by
          by_cases e' : g' = g
          · subst e'; rw [ins_self] at hg'; injection hg' with hg'; subst hg'; exact st.hs.row g' r hg
          · rw [ins_ne _ _ _ _ e'] at hg'; exact st.hs.row g' r' hg', fun g1 g2 r1 r2 b k1 k2 k3 k4 => by
          have key : ∀ x rx, (h.ins g r) x = some rx → ∃ rx', h x = some rx' := fun x rx hx => by
            by_cases e' : x = g
            · subst e'; exact ⟨r, hg⟩
            · rw [ins_ne _ _ _ _ e'] at hx; exact ⟨rx, hx⟩
          obtain ⟨_, k1⟩ := key _ _ k1
          obtain ⟨_, k2⟩ := key _ _ k2
          exact st.hs.inj _ _ _ _ _ k1 k2 k3 k4, fun N hN x hx => st.hs.nxt N (by rw [H.ins, H.upd_nx] at hN; exact hN) x hx⟩, st.fs.mono (Evo.refl c) fun b _ _ hn => ⟨rfl, fun hd => hn (by
          obtain ⟨g', r', k1, k2⟩ := hd
          by_cases e' : g' = g
          · subst e'; exact ⟨g', r, hg, k2⟩
          · rw [ins_ne _ _ _ _ e'] at k1; exact ⟨g', r', k1, k2⟩), fun _ hz => hz⟩⟩
      have hr' : (⟨r.sz, r.fz, r.es.take 0 ++ [] ++ r.es.drop 0, r.ty⟩ : GRow) = r := by cases r; simp
      rw [hr'] at hk
      refine fin rfl hin hx0 (run ?_) hk
      rcases hsrc.kind with ⟨e', hk'⟩ | hk' <;> simp [Builtin.append_, run_underlying hu, run_underlying hk', sizeOf, typeInfo, hi1, hsrc.len, hsrc.cells]
    · rw [hφ] at h1; cases h1
  | gsl g sz off n0 b ad cap t1 hφ hb ha hs hl =>
    obtain ⟨hsz, arr, e1, cap', hbk, hcap, hlen, hmax, hel, hZ, hfl, hty⟩ := (st.hs.row g r hg).elems (by omega) hφ
    have hcc : off + cap = cap' := by
      have : c.w.shape? b = some (e1, arr.size) := by simp [World.shape?, hbk]
      rw [this] at hs
      injection hs with hs
      injection hs with _ hs
      rw [hcap, hrs] at hs
      exact (Nat.eq_of_mul_eq_mul_right hpos hs).symm
    have hnl : news.length = ys.length * ie.size := hsrc.newsLen
    · have had := ha hat
      subst had
      have hfit : (off + n0) * ie.size + news.length ≤ arr.size := by
        rw [hnl, hcap, hrs, ← Nat.add_mul]; exact Nat.mul_le_mul_right _ (by omega)
      have hrun := run_append_room_src (P := P) c.w t t' o.type e ie hu hi1 b (off * ie.size) n0 cap _ ys.length news hsrc (by omega) (fun j hj => by
            have : off * ie.size + n0 * ie.size + j < arr.size := by rw [Nat.add_mul] at hfit; omega
            simp [World.cell?, hbk, this]) (fun j hj => by simp [World.frozen?, hbk])
      rw [← Nat.add_mul, setCells_wr hbk hfit hsrc.one] at hrun
      have hlt : off + n0 + ys.length ≤ r.es.length := hfits
      have hlen' : (r.es.take (off + n0) ++ ys ++ r.es.drop (off + n0 + ys.length)).length = r.es.length := by simp; omega
      have st' := st.rewrite (es' := r.es.take (off + n0) ++ ys ++ r.es.drop (off + n0 + ys.length)) hg hφ (by omega) hbk (arr' := wr arr ((off + n0) * ie.size) news) (wr_size hfit) hcap hmax (fun q hq => by
          rw [wr_get hfit, if_neg]
          rw [hrs] at hq
          have := Nat.mul_le_mul_right ie.size hfz
          omega) (by rw [hlen']; omega) (by rw [hlen']; omega) hZ hty ⟨fun i cs hi => ?_, fun i cs j v hi hj => ?_⟩
      · refine fin rfl st' ?_ (run hrun) hk
        refine .gsl _ _ _ _ b _ cap e1 (by exact hφ) rfl (fun _ => rfl) ?_ (by omega)
        rw [show (c.at (c.w.setRow b (wr arr ((off + n0) * ie.size) news))).w = c.w.setRow b (wr arr ((off + n0) * ie.size) news) from rfl]
        simp only [World.shape?, setRow_at _ _ _ _ _ _ hbk]
        rw [wr_size hfit, hcap, hrs, hcc]
      · rw [hrs] at *
        rw [List.append_assoc, List.getElem?_append] at hi
        split at hi
        · rw [List.getElem?_take] at hi
          split at hi
          · exact hel.len _ _ hi
          · cases hi
        · rw [List.getElem?_append] at hi
          split at hi
          · exact (hys _ _ hi).1
          · rw [List.getElem?_drop] at hi; exact hel.len _ _ hi
      · rw [hrs] at hel ⊢
        have htl : (r.es.take (off + n0)).length = off + n0 := by simp; omega
        have hjl : ∀ {cs : List V}, cs.length = ie.size → cs[j]? = some v → j < ie.size := fun h1 h2 => by rw [← h1]; exact (List.getElem?_eq_some_iff.1 h2).1
        rw [wr_get hfit]
        rw [List.append_assoc, List.getElem?_append, htl] at hi
        split at hi
        · rename_i hlt1
          rw [List.getElem?_take, if_pos hlt1] at hi
          have hj' := hjl (hel.len _ _ hi) hj
          have : (i + 1) * ie.size ≤ (off + n0) * ie.size := Nat.mul_le_mul_right _ (by omega)
          rw [Nat.add_mul, Nat.one_mul] at this
          rw [if_neg (by omega)]
          exact hel.at_ _ _ _ _ hi hj
        · rename_i hge1
          rw [List.getElem?_append] at hi
          split at hi
          · rename_i hlt2
            have hj' := hjl (hys _ _ hi).1 hj
            have e1 : i * ie.size = (off + n0) * ie.size + (i - (off + n0)) * ie.size := by rw [← Nat.add_mul]; congr 1; omega
            have e2 : (i - (off + n0) + 1) * ie.size ≤ ys.length * ie.size := Nat.mul_le_mul_right _ (by omega)
            rw [Nat.add_mul, Nat.one_mul] at e2
            rw [if_pos (by omega)]
            refine ⟨cellL_at (hys _ _ hi).2 j v hj, ?_⟩
            have hflat : ys.flatten[(i - (off + n0)) * ie.size + j]? = some v := by rw [flat_get (fun i cs h => (hys i cs h).1) _ _ hj', hi]; exact hj
            have hq : (i - (off + n0)) * ie.size + j < news.length := by omega
            refine ⟨news[(i - (off + n0)) * ie.size + j], ?_, hrvs.at_ _ _ _ hflat (List.getElem?_eq_getElem hq)⟩
            rw [show i * ie.size + j - (off + n0) * ie.size = (i - (off + n0)) * ie.size + j by omega]
            exact List.getElem?_eq_getElem hq
          · rename_i hge2
            rw [List.getElem?_drop] at hi
            rw [show off + n0 + ys.length + (i - (off + n0) - ys.length) = i by omega] at hi
            have hj' := hjl (hel.len _ _ hi) hj
            have : (off + n0 + ys.length) * ie.size ≤ i * ie.size := Nat.mul_le_mul_right _ (by omega)
            rw [Nat.add_mul] at this
            rw [if_neg (by omega)]
            exact hel.at_ _ _ _ _ hi hj
end
end Go.AM
