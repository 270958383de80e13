/- Regions whose order is drawn, 2: changes that go one behind the other in every order; what only reads is read again behind each change. -/
import Derived.Test.YtjneljpbkjhlmaaGreatDoorAmD
import Derived.Test.YtjneljpbkjhlmaaGreatDoorAmB
import Derived.Lib.UnsafeStr
set_option linter.unusedVariables false
set_option linter.unusedSimpArgs false
set_option linter.unnecessarySimpa false
set_option linter.unusedSectionVars false
set_option linter.unusedVariables false
set_option linter.unusedSimpArgs false
namespace Go.AM
open Go

/-- Equal values (where it says true). -/
noncomputable def bytesQ : List UInt8 → List UInt8 → Bool
  | [], [] => true
  | a :: r, b :: s => match Nat.beq a.toNat b.toNat with
    | true => bytesQ r s
    | false => false
  | _, _ => false
theorem bytesQ_eq : ∀ {a b : List UInt8}, bytesQ a b = true → a = b
  | [], [], _ => rfl
  | a :: r, b :: s, h => by
    simp only [bytesQ] at h
    split at h
    · rename_i hb
      rw [bytesQ_eq h, UInt8.toNat_inj.1 (Nat.eq_of_beq_eq_true hb)]
    · cases h
  | [], _ :: _, h => by cases h
  | _ :: _, [], h => by cases h
noncomputable def intQ : Int → Int → Bool
  | .ofNat a, .ofNat b => Nat.beq a b
  | .negSucc a, .negSucc b => Nat.beq a b
  | _, _ => false
theorem intQ_eq {a b : Int} (h : intQ a b = true) : a = b := by
  cases a <;> cases b <;> simp only [intQ] at h <;> first | (rw [Nat.eq_of_beq_eq_true h]) | cases h
mutual
noncomputable def veq : V → V → Bool
  | .dead, .dead => true
  | .un, .un => true
  | .tt, .tt => true
  | .ff, .ff => true
  | .b x, .b y => x == y
  | .i k n, .i k' m => match kq k k' with
    | true => intQ n m
    | false => false
  | .s a, .s b => bytesQ a b
  | .nils, .nils => true
  | .emp a, .emp b => Nat.beq a b
  | .lst a es, .lst b fs => match Nat.beq a b with
    | true => veqE es fs
    | false => false
  | .gsl g sz off m, .gsl g' sz' off' m' => match Nat.beq g g', Nat.beq sz sz', Nat.beq off off', Nat.beq m m' with
    | true, true, true, true => true
    | _, _, _, _ => false
  | .lptr k o, .lptr k' o' => match Nat.beq k k', Nat.beq o o' with
    | true, true => true
    | _, _ => false
  | .ip cs, .ip ds => veqL cs ds
  | .gptr g sz i o, .gptr g' sz' i' o' => match Nat.beq g g', Nat.beq sz sz', Nat.beq i i', Nat.beq o o' with
    | true, true, true, true => true
    | _, _, _, _ => false
  | .bp g sz ty, .bp g' sz' ty' => match Nat.beq g g', Nat.beq sz sz', Nat.beq ty ty' with
    | true, true, true => true
    | _, _, _ => false
  | .mp g, .mp g' => Nat.beq g g'
  | .nilm, .nilm => true
  | .nilp, .nilp => true
  | .fn f cs, .fn g ds => match Nat.beq f g with
    | true => veqL cs ds
    | false => false
  | .nilf, .nilf => true
  | .agg cs, .agg ds => veqL cs ds
  | .tup cs, .tup ds => veqL cs ds
  | .ifc t v, .ifc u w => match Nat.beq t u with
    | true => veq v w
    | false => false
  | .nili, .nili => true
  | _, _ => false
noncomputable def veqL : List V → List V → Bool
  | [], [] => true
  | v :: r, w :: s => match veq v w with
    | true => veqL r s
    | false => false
  | _, _ => false
noncomputable def veqE : List (List V) → List (List V) → Bool
  | [], [] => true
  | v :: r, w :: s => match veqL v w with
    | true => veqE r s
    | false => false
  | _, _ => false
end
mutual
theorem veq_eq : ∀ {v w : V}, veq v w = true → v = w := by
  intro v w h
  cases v <;> cases w <;> simp only [veq] at h <;> first | rfl | cases h | skip
  · simp at h; rw [h]
  · split at h
    · rename_i hk; rw [kq_eq hk, intQ_eq h]
    · cases h
  · rw [bytesQ_eq h]
  · rw [beq_of h]
  · split at h
    · rename_i hk; rw [beq_of hk, veqE_eq h]
    · cases h
  · split at h
    · rename_i h1 h2 h3 h4; rw [beq_of h1, beq_of h2, beq_of h3, beq_of h4]
    · cases h
  · split at h
    · rename_i h1 h2; rw [beq_of h1, beq_of h2]
    · cases h
  · rw [veqL_eq h]
  · split at h
    · rename_i h1 h2 h3 h4; rw [beq_of h1, beq_of h2, beq_of h3, beq_of h4]
    · cases h
  · split at h
    · rename_i h1 h2 h3; rw [beq_of h1, beq_of h2, beq_of h3]
    · cases h
  · rw [beq_of h]
  · split at h
    · rename_i hk; rw [beq_of hk, veqL_eq h]
    · cases h
  · rw [veqL_eq h]
  · rw [veqL_eq h]
  · split at h
    · rename_i hk; rw [beq_of hk, veq_eq h]
    · cases h
theorem veqL_eq : ∀ {v w : List V}, veqL v w = true → v = w := by
  intro v w h
  cases v <;> cases w <;> simp only [veqL] at h <;> first | rfl | cases h | skip
  split at h
  · rename_i hk; rw [veq_eq hk, veqL_eq h]
  · cases h
theorem veqE_eq : ∀ {v w : List (List V)}, veqE v w = true → v = w := by
  intro v w h
  cases v <;> cases w <;> simp only [veqE] at h <;> first | rfl | cases h | skip
  split at h
  · rename_i hk; rw [veqL_eq hk, veqE_eq h]
  · cases h
end

noncomputable def edgeB (o : Oper) (j : Nat) : Bool := o.after.toList.any fun e => Region.binds .any e && Nat.beq e.on j
/-- Its slot is no operand of it or of an operation ahead of it, and no other one's slot. -/
noncomputable def freshB (l : List Oper) (i : Nat) (oi : Oper) : Bool :=
  match oi.dst with
  | none => true
  | some d => (List.range (i + 1)).all fun j => match l[j]? with
    | none => true
    | some oj => !(oj.looksAt l.toArray).contains d && (Nat.beq j i || oj.dst != some d)
noncomputable def isAsgn : Op → Bool
  | .assign _ => true
  | _ => false
/-- May go as soon as it may. -/
noncomputable def goesB (l : List Oper) (i : Nat) (oi : Oper) : Bool := quietB oi.op && !isAsgn oi.op && freshB l i oi
noncomputable def wrB (l : List Oper) : Bool :=
  soundReg l && (List.range l.length).all fun j => match l[j]? with
    | none => true
    | some oj => (oj.after.toList.all fun e => !Region.binds .any e || Nat.blt e.on j) && (List.range j).all fun i => match l[i]? with
      | none => true
      | some oi => edgeB oj i || oi.apart l.toArray oj || (!goesB l i oi && !goesB l j oj)

/-- Who must go ahead of an operation, as bits. -/
noncomputable def maskL : List Edge → Nat
  | [] => 0
  | e :: r => match Region.binds .any e with
    | true => Nat.lor (Nat.shiftLeft 1 e.on) (maskL r)
    | false => maskL r
noncomputable def closeM (l : List Oper) : Nat → Nat → Nat
  | 0, s => s
  | k + 1, s => match Nat.testBit s k with
    | true => match l[k]? with
      | some o => closeM l k (Nat.lor s (maskL o.after.toList))
      | none => closeM l k s
    | false => closeM l k s
noncomputable def preds (l : List Oper) (o : Oper) : Nat := closeM l l.length (maskL o.after.toList)
theorem maskL_mem : ∀ {r : List Edge} {j : Nat}, Nat.testBit (maskL r) j = true → ∃ e ∈ r, Region.binds .any e = true ∧ e.on = j := by
  intro r
  induction r with
  | nil => intro j h; simp [maskL] at h
  | cons e r ih =>
    intro j h
    simp only [maskL] at h
    split at h
    · rename_i hb
      have h' : ((1 <<< e.on) ||| maskL r).testBit j = true := h
      rw [Nat.testBit_or, Bool.or_eq_true] at h'
      rcases h' with h' | h'
      · rw [Nat.one_shiftLeft, Nat.testBit_two_pow] at h'
        exact ⟨e, by simp, hb, by simpa using h'⟩
      · obtain ⟨e', h1, h2⟩ := ih h'
        exact ⟨e', by simp [h1], h2⟩
    · obtain ⟨e', h1, h2⟩ := ih h
      exact ⟨e', by simp [h1], h2⟩
theorem closeM_in {l : List Oper} {R : Nat → Prop} (hR : ∀ j o, l[j]? = some o → R j → ∀ e ∈ o.after, Region.binds .any e = true → R e.on) : ∀ (k s : Nat), (∀ j, Nat.testBit s j = true → R j) → ∀ j, Nat.testBit (closeM l k s) j = true → R j := by
  intro k
  induction k with
  | zero => intro s hs j hj; exact hs j hj
  | succ k ih =>
    intro s hs j hj
    simp only [closeM] at hj
    split at hj
    · rename_i hk
      split at hj
      · rename_i o ho
        refine ih _ (fun j hj => ?_) j hj
        have hj' : (s ||| maskL o.after.toList).testBit j = true := hj
        rw [Nat.testBit_or, Bool.or_eq_true] at hj'
        rcases hj' with hj' | hj'
        · exact hs j hj'
        · obtain ⟨e, h1, h2, h3⟩ := maskL_mem hj'
          exact h3 ▸ hR k o ho (hs k hk) e (by simpa using h1) h2
      · exact ih _ hs j hj
    · exact ih _ hs j hj
noncomputable def findGo (l : List Oper) (rem : List Nat) : List Nat → Option Nat
  | [] => none
  | i :: r => match l[i]? with
    | none => none
    | some o => match readyB rem o && goesB l i o with
      | true => some i
      | false => findGo l rem r
/-- The one that is ready; none where there are several. -/
noncomputable def oneReady (l : List Oper) (rem : List Nat) : List Nat → Option Nat
  | [] => none
  | i :: r => match l[i]? with
    | none => none
    | some o => match readyB rem o with
      | true => match someReady l rem r with
        | true => none
        | false => some i
      | false => oneReady l rem r
noncomputable def sameV (md : Bool) (v u : V) (K : Prop) : Prop :=
  match md with
  | false => v = u ∧ K
  | true => match veq v u with
    | true => K
    | false => False
noncomputable def stays (F : Fr) : V → Bool
  | .lptr k _ => isBox (look F k)
  | _ => true
noncomputable def again (M : Mach) (tt : TT) (n : Nat) (l : List Oper) (rem : List Nat) (pm : Nat) (F : Fr) (h : H) (K : Prop) : List Nat → Prop
  | [] => K
  | j :: r => match l[j]? with
    | none => again M tt n l rem pm F h K r
    | some oj => match mem j rem || Nat.testBit pm j || !goesB l j oj with
      | true => again M tt n l rem pm F h K r
      | false => match oj.dst with
        | none => evG M tt n l oj F h fun F' h' => again M tt n l rem pm F h K r
        | some d => evG M tt n l oj F h fun F' h' => sameV h.md (look F' d) (look F d) (match stays F' (look F' d) with
          | true => again M tt n l rem pm F h K r
          | false => False)
noncomputable def wrE (M : Mach) (tt : TT) (n : Nat) (l : List Oper) : Nat → List Nat → Fr → H → (Fr → H → Prop) → Prop
  | 0, rem, F, h, Q => match rem with
    | [] => Q F h
    | _ => False
  | fuel + 1, rem, F, h, Q => match rem with
    | [] => Q F h
    | _ => match findGo l rem rem with
      | some i => match l[i]? with
        | some o => evG M tt n l o F h fun F h => wrE M tt n l fuel (dropN i rem) F h Q
        | none => False
      | none => match oneReady l rem rem with
        | none => False
        | some i => match l[i]? with
          | none => False
          | some o => evG M tt n l o F h fun F h => forceN (preds l o) fun pm => again M tt n l (dropN i rem) pm F h (wrE M tt n l fuel (dropN i rem) F h Q) (List.range l.length)

theorem wrE_at {M : Mach} {tt : TT} {n : Nat} {l : List Oper} {fuel : Nat} {rem : List Nat} {F : Fr} {h : H} {Q : Fr → H → Prop} (hr : rem ≠ []) : wrE M tt n l (fuel + 1) rem F h Q = (match findGo l rem rem with
      | some i => match l[i]? with
        | some o => evG M tt n l o F h fun F h => wrE M tt n l fuel (dropN i rem) F h Q
        | none => False
      | none => match oneReady l rem rem with
        | none => False
        | some i => match l[i]? with
          | none => False
          | some o => evG M tt n l o F h fun F h => forceN (preds l o) fun pm => again M tt n l (dropN i rem) pm F h (wrE M tt n l fuel (dropN i rem) F h Q) (List.range l.length)) := by
  cases rem with
  | nil => exact absurd rfl hr
  | cons a r => rfl
theorem sameV_ok {md : Bool} {v u : V} {K : Prop} (h : sameV md v u K) : v = u ∧ K := by
  cases md
  · exact h
  · simp only [sameV] at h
    split at h
    · rename_i he; exact ⟨veq_eq he, h⟩
    · exact h.elim

theorem findGo_spec {l : List Oper} {rm : List Nat} : ∀ {r : List Nat} {i : Nat}, findGo l rm r = some i → i ∈ r ∧ ∃ o, l[i]? = some o ∧ readyB rm o = true ∧ goesB l i o = true := by
  intro r
  induction r with
  | nil => intro i h; cases h
  | cons j r ih =>
    intro i h
    simp only [findGo] at h
    split at h
    · cases h
    · rename_i o ho
      split at h
      · rename_i hb
        injection h with h
        subst h
        simp only [Bool.and_eq_true] at hb
        exact ⟨by simp, o, ho, hb.1, hb.2⟩
      · obtain ⟨h1, h2⟩ := ih h
        exact ⟨List.mem_cons_of_mem _ h1, h2⟩
theorem someReady_no {l : List Oper} {rm : List Nat} : ∀ {r : List Nat}, someReady l rm r = false → ∀ i ∈ r, ∀ o, l[i]? = some o → (∀ k ∈ r, (l[k]?).isSome = true) → readyB rm o = false := by
  intro r
  induction r with
  | nil => intro _ i hi; cases hi
  | cons j r ih =>
    intro h i hi o ho hall
    simp only [someReady] at h
    split at h
    · rename_i hn
      have := hall j (by simp)
      rw [hn] at this; cases this
    · rename_i oj hoj
      split at h
      · cases h
      · rename_i hb
        rcases List.mem_cons.1 hi with e | hi
        · subst e
          rw [ho] at hoj
          injection hoj with hoj
          subst hoj
          cases hr : readyB rm o
          · rfl
          · exact absurd hr (by simpa using hb)
        · exact ih h i hi o ho fun k hk => hall k (by simp [hk])
theorem oneReady_spec {l : List Oper} {rm : List Nat} : ∀ {r : List Nat} {k : Nat}, oneReady l rm r = some k → (∀ k ∈ r, (l[k]?).isSome = true) → (k ∈ r ∧ ∃ o, l[k]? = some o ∧ readyB rm o = true) ∧ ∀ i ∈ r, ∀ o, l[i]? = some o → readyB rm o = true → i = k := by
  intro r
  induction r with
  | nil => intro k h; cases h
  | cons j r ih =>
    intro k h hall
    simp only [oneReady] at h
    split at h
    · cases h
    · rename_i oj hoj
      split at h
      · rename_i hb
        split at h
        · cases h
        · rename_i hs
          injection h with h
          subst h
          refine ⟨⟨by simp, oj, hoj, hb⟩, fun i hi o ho hr => ?_⟩
          rcases List.mem_cons.1 hi with e | hi
          · exact e
          · have := someReady_no (by simpa using hs) i hi o ho fun k hk => hall k (by simp [hk])
            rw [hr] at this; cases this
      · rename_i hb
        obtain ⟨⟨h1, h2⟩, h3⟩ := ih h fun k hk => hall k (by simp [hk])
        refine ⟨⟨by simp [h1], h2⟩, fun i hi o ho hr => ?_⟩
        rcases List.mem_cons.1 hi with e | hi
        · subst e
          rw [ho] at hoj
          injection hoj with hoj
          subst hoj
          exact absurd hr (by simpa using hb)
        · exact h3 i hi o ho hr

/-! ### Two activations that agree but in the slots of some operations -/
structure Off (l : List Oper) (D : Nat → Prop) (a b : Act) : Prop where
  size : a.tmps.size = b.tmps.size
  defers : a.defers = b.defers
  at_ : ∀ t, (∀ i o, D i → l[i]? = some o → o.dst ≠ some t) → a.tmps[t]? = b.tmps[t]?
theorem Off.refl (l : List Oper) (D : Nat → Prop) (a : Act) : Off l D a a := ⟨rfl, rfl, fun _ _ => rfl⟩
theorem Off.trans {l : List Oper} {D : Nat → Prop} {a b c : Act} (h : Off l D a b) (k : Off l D b c) : Off l D a c :=
  ⟨h.size.trans k.size, h.defers.trans k.defers, fun t ht => (h.at_ t ht).trans (k.at_ t ht)⟩
theorem put_get (a : Act) (d : Option Nat) (v : Value) (t : Nat) : (a.put d v).tmps[t]? = if d = some t ∧ t < a.tmps.size then some v else a.tmps[t]? := by
  cases d with
  | none => simp [Act.put]
  | some d =>
    simp only [Act.put, Array.getElem?_setIfInBounds, Option.some.injEq]
    by_cases h : d = t
    · subst h
      by_cases hs : d < a.tmps.size <;> simp [hs]
    · simp [h]
theorem put_size (a : Act) (d : Option Nat) (v : Value) : (a.put d v).tmps.size = a.tmps.size := by cases d <;> simp [Act.put]
theorem put_defers (a : Act) (d : Option Nat) (v : Value) : (a.put d v).defers = a.defers := by cases d <;> rfl
theorem Off.put {l : List Oper} {D : Nat → Prop} {a b : Act} (h : Off l D a b) (d : Option Nat) (v : Value) : Off l D (a.put d v) (b.put d v) :=
  ⟨by rw [put_size, put_size, h.size], by rw [put_defers, put_defers, h.defers], fun t ht => by rw [put_get, put_get, h.at_ t ht, h.size]⟩
theorem Off.eq {l : List Oper} {D : Nat → Prop} {a b : Act} (h : Off l D a b) (hD : ∀ i, ¬ D i) : a = b := by
  obtain ⟨h1, h2, h3⟩ := h
  cases a; cases b
  simp only at h1 h2 h3
  subst h2
  congr
  exact Array.ext_getElem? fun t => h3 t fun i o hi => absurd hi (hD i)
theorem Off.weaken {l : List Oper} {D D' : Nat → Prop} {a b : Act} (h : Off l D a b) (hD : ∀ i, D i → D' i) : Off l D' a b :=
  ⟨h.size, h.defers, fun t ht => h.at_ t fun i o hi => ht i o (hD i hi)⟩
theorem Off.eval {l : List Oper} {D : Nat → Prop} {a b : Act} (h : Off l D a b) {o : Oper} (ho : ∀ i oi, D i → l[i]? = some oi → ∀ d, oi.dst = some d → d ∉ o.looksAt l.toArray)
    (hs : ∀ cs b, o.op ≠ .select cs b) : execOp a.eval o = execOp b.eval o ∧ Region.wanted o (yielded l.toArray a.tmps) = Region.wanted o (yielded l.toArray b.tmps) := by
  have ht : ∀ t, t ∈ o.looksAt l.toArray → a.tmps[t]? = b.tmps[t]? := fun t ht => h.at_ t fun i oi hi hoi hd => ho i oi hi hoi t hd ht
  constructor
  · refine execOp_congr o hs fun x hx => ?_
    cases x with
    | tmp t =>
      simp only [Act.eval, Array.getD_eq_getD_getElem?]
      rw [ht t (List.mem_append_left _ (List.mem_filterMap.2 ⟨.tmp t, by simpa using hx, rfl⟩))]
    | _ => rfl
  · unfold Region.wanted
    cases hg : o.guard with
    | none => rfl
    | some gw =>
      obtain ⟨g, want⟩ := gw
      simp only
      have : yielded l.toArray a.tmps g = yielded l.toArray b.tmps g := by
        unfold yielded
        cases hd : (l.toArray[g]?).bind (·.dst) with
        | none => rfl
        | some t =>
          simp only [Option.bind_some]
          rw [ht t (List.mem_append_right _ (by have h1 := hd; simp at h1; simp [hg, h1]))]
      rw [this]

section
variable {P : Program} {M : Mach} {tt : TT} {c0 : Cfg} {h0 : H} {n : Nat} {c : Cfg} {h : H} {bb : Nat → Nat} {F : Fr} {a : Act} {o : Oper} {next : Act → World → Prop} {Q : Exit → Act → World → Prop} {K : Fr → H → Prop}

theorem upon_off {a b : Act} {next next' : Act → World → Prop} (hn : ∀ v w, next (b.put o.dst v) w → next' (a.put o.dst v) w)
    (hd : ∀ x v w, next (({ b with defers := x :: b.defers } : Act).put o.dst v) w → next' (({ a with defers := x :: a.defers } : Act).put o.dst v) w) (hp : ∀ ch a w, ¬ Q (.panic ch) a w) {r : Result Next} (hr : o.upon P b next Q r) : o.upon P a next' Q r := by
  cases r with
  | ok x w =>
    cases x with
    | value v => exact hn _ _ hr
    | skip => exact hn _ _ hr
    | defer d => exact hd _ _ _ hr
    | enter f args =>
      exact Calls.mono hr fun e w' he => by
        cases e with
        | returned v => exact hn _ _ he
        | panicked ch => exact absurd he (hp _ _ _)
        | outgrown => exact he
    | row r args => exact Rows.mono hr fun v w' he => hn _ _ he
    | _ => exact hr
  | halt x w =>
    cases x with
    | panic v => exact absurd hr (hp _ _ _)
    | _ => exact hr

theorem FSim.upd {base : Nat} (hF : FSim base n c h bb F a) {d : Nat} {x : Value} (hx : d < n → SlotOk c h F bb base d (look F d) x) : FSim base n c h bb F (a.put (some d) x) := by
  refine ⟨by rw [put_size]; exact hF.size, by rw [put_defers]; exact hF.defers, fun k hk => ?_, hF.high, hF.inj⟩
  have hg : (a.put (some d) x).tmps.getD k undef = if k = d then x else a.tmps.getD k undef := by
    rw [Array.getD_eq_getD_getElem?, put_get]
    by_cases e : k = d
    · subst e; simp [hF.size, hk]
    · rw [if_neg (by rintro ⟨h1, _⟩; injection h1 with h1; exact e h1.symm), if_neg e, Array.getD_eq_getD_getElem?]
  rw [hg]
  split
  · rename_i e; subst e; exact hx hk
  · exact hF.slot k hk

/-- A value that a slot held in a frame, in another one that holds it, too. -/
theorem SlotOk.stays {base k : Nat} {F F' : Fr} {v : V} {x : Value} (hs : SlotOk c h F' bb base k v x) (hst : AM.stays F' v = true) : SlotOk c h F bb base k v x := by
  cases v with
  | lptr k' off =>
    simp only [AM.stays, isBox] at hst
    split at hst
    · rename_i fr cs hl
      intro _ _ _
      exact hs fr cs hl
    · cases hst
  | _ => exact hs

noncomputable def Held (P : Program) (w : World) (l : List Oper) (a : Act) (j : Nat) : Prop := ∃ o v, l[j]? = some o ∧ YW P (fun w' => w' = w) l.toArray o v a ∧ a.put o.dst v = a

theorem noSel {l : List Oper} (hs : Region.noSelect l.toArray = true) {i : Nat} {o : Oper} (ho : l[i]? = some o) : ∀ cs b, o.op ≠ .select cs b :=
  fun cs b => Region.noSelect_spec hs i o cs b (by simpa using ho)

/-- What is held stays so when another slot gets a value. -/
theorem Held.put {w : World} {l : List Oper} (hs : Region.noSelect l.toArray = true) {j : Nat} (hh : Held P w l a j) {dst : Option Nat} {v : Value}
    (hl : ∀ o, l[j]? = some o → (∀ d, dst = some d → d ∉ o.looksAt l.toArray) ∧ ∀ d, dst = some d → o.dst ≠ some d) : Held P w l (a.put dst v) j := by
  obtain ⟨o, u, ho, hy, he⟩ := hh
  obtain ⟨h1, h2⟩ := hl o ho
  refine ⟨o, u, ho, hy.of_same (execOp_put o (noSel hs ho) a dst v h1) (wanted_put o a dst v h1), ?_⟩
  rw [Act.put_comm a v u h2, he]

theorem freshB_spec {l : List Oper} {i : Nat} {oi : Oper} (hf : freshB l i oi = true) {d : Nat} (hd : oi.dst = some d) {j : Nat} (hji : j ≤ i) {oj : Oper} (ho : l[j]? = some oj) :
    d ∉ oj.looksAt l.toArray ∧ (j ≠ i → oj.dst ≠ some d) := by
  simp only [freshB, hd, List.all_eq_true, List.mem_range] at hf
  have := hf j (by omega)
  rw [ho] at this
  simp only [Bool.and_eq_true, Bool.not_eq_true', Bool.or_eq_true, bne_iff_ne] at this
  refine ⟨fun hm => ?_, fun hne => ?_⟩
  · have h1 := this.1
    rw [List.contains_iff_mem.2 hm] at h1
    cases h1
  · rcases this.2 with e | e
    · exact absurd (beq_of e) hne
    · exact e

theorem goesB_spec {l : List Oper} {i : Nat} {oi : Oper} (hg : goesB l i oi = true) : quietB oi.op = true ∧ freshB l i oi = true := by
  simp only [goesB, Bool.and_eq_true] at hg
  exact ⟨hg.1.1, hg.2⟩

theorem again_ok (hM : Snd P M) (htt : ∀ t, TIok P t (tt t)) {l : List Oper} (hs : Region.noSelect l.toArray = true) {rm : List Nat} {pm : Nat} {K : Prop} {D : Nat → Prop}
    (hD : ∀ j, D j → ∃ o, l[j]? = some o ∧ goesB l j o = true ∧ mem j rm = false ∧ Nat.testBit pm j = false) : ∀ (js : List Nat) {a : Act}, js.Pairwise (· < ·) → St c0 h0 n c h bb F a →
    again M tt n l rm pm F h K js → ∃ a', St c0 h0 n c h bb F a' ∧ K ∧ (∀ j, D j → j ∈ js → Held P c.w l a' j) ∧ (∀ j, D j → (∀ k ∈ js, j < k) → Held P c.w l a j → Held P c.w l a' j) ∧ Off l D a a' := by
  intro js
  induction js with
  | nil =>
    intro a _ st hk
    exact ⟨a, st, hk, fun j _ hj => (by cases hj), fun j _ _ hh => hh, .refl _ _ _⟩
  | cons j r ih =>
    intro a hp st hk
    rw [List.pairwise_cons] at hp
    obtain ⟨hlt, hp⟩ := hp
    have skip : ¬ D j → again M tt n l rm pm F h K r → ∃ a', St c0 h0 n c h bb F a' ∧ K ∧ (∀ k, D k → k ∈ j :: r → Held P c.w l a' k) ∧ (∀ k, D k → (∀ i ∈ j :: r, k < i) → Held P c.w l a k → Held P c.w l a' k) ∧ Off l D a a' := by
      intro hn hk
      obtain ⟨a', h1, h2, h3, h4, h5⟩ := ih hp st hk
      refine ⟨a', h1, h2, fun k hDk hm => ?_, fun k hDk hm => h4 k hDk fun i hi => hm i (by simp [hi]), h5⟩
      rcases List.mem_cons.1 hm with e | hm
      · subst e; exact absurd hDk hn
      · exact h3 k hDk hm
    simp only [again] at hk
    split at hk
    · rename_i hn
      refine skip (fun hDj => ?_) hk
      obtain ⟨o, ho, _⟩ := hD j hDj
      rw [hn] at ho; cases ho
    · rename_i oj hoj
      split at hk
      · rename_i hb
        refine skip (fun hDj => ?_) hk
        obtain ⟨o, ho, h1, h2, h3⟩ := hD j hDj
        rw [hoj] at ho
        injection ho with ho
        subst ho
        simp [h1, h2, h3] at hb
      · rename_i hb
        have hgo : goesB l j oj = true := by
          cases hg : goesB l j oj
          · simp [hg] at hb
          · rfl
        obtain ⟨hq, hfr⟩ := goesB_spec hgo
        split at hk
        · rename_i hd
          obtain ⟨v, F', hy, st', hk⟩ := evG_W l (fun st hk => evOp_quiet hM htt hq st hk) st hk
          obtain ⟨a', h1, h2, h3, h4, h5⟩ := ih hp st hk
          refine ⟨a', h1, h2, fun k hDk hm => ?_, fun k hDk hm => h4 k hDk fun i hi => hm i (by simp [hi]), h5⟩
          rcases List.mem_cons.1 hm with e | hm
          · subst e
            exact h4 k hDk hlt ⟨oj, v, hoj, hy, by rw [hd]; rfl⟩
          · exact h3 k hDk hm
        · rename_i d hd
          obtain ⟨v, F', hy, st', hk⟩ := evG_W l (fun st hk => evOp_quiet hM htt hq st hk) st hk
          obtain ⟨hsame, hk⟩ := sameV_ok hk
          split at hk
          case h_2 => exact hk.elim
          rename_i hst
          by_cases hDj : D j
          · have st1 : St c0 h0 n c h bb F (a.put oj.dst v) := by
              refine ⟨st.keep, st.ok, st.hs, ?_⟩
              rw [hd]
              refine st.fs.upd fun hdn => ?_
              have := st'.fs.slot d hdn
              rw [hsame] at this hst
              have hv : (a.put oj.dst v).tmps.getD d undef = v := by
                rw [Array.getD_eq_getD_getElem?, put_get, hd]
                simp [st.fs.size, hdn]
              rw [hv] at this
              exact this.stays hst
            obtain ⟨a', h1, h2, h3, h4, h5⟩ := ih hp st1 hk
            refine ⟨a', h1, h2, fun k hDk hm => ?_, fun k hDk hm hh => ?_, .trans ⟨(put_size _ _ _).symm, (put_defers _ _ _).symm, fun t ht => ?_⟩ h5⟩
            · rcases List.mem_cons.1 hm with e | hm
              · subst e
                refine h4 k hDk hlt ⟨oj, v, hoj, hy.of_same (execOp_put oj (noSel hs hoj) a oj.dst v fun d' hd' => (freshB_spec hfr hd' (Nat.le_refl _) hoj).1) (wanted_put oj a oj.dst v fun d' hd' => (freshB_spec hfr hd' (Nat.le_refl _) hoj).1), ?_⟩
                cases hd' : oj.dst with
                | none => rfl
                | some d' => simp [Act.put]
              · exact h3 k hDk hm
            · refine h4 k hDk (fun i hi => hm i (by simp [hi])) (hh.put hs fun o ho => ?_)
              have hkj := hm j (by simp)
              exact ⟨fun d' hd' => (freshB_spec hfr hd' (by omega) ho).1, fun d' hd' => (freshB_spec hfr hd' (by omega) ho).2 (by omega)⟩
            · rw [put_get, if_neg]
              rintro ⟨h1, _⟩
              exact ht j oj hDj hoj h1
          · exact skip hDj hk

/-! ### The real order beside the one that is walked -/
structure Inv (P : Program) (l : List Oper) (c0 : Cfg) (h0 : H) (n : Nat) (lr ls : Array Bool) (c : Cfg) (h : H) (bb : Nat → Nat) (F : Fr) (ar as : Act) : Prop where
  sr : lr.size = l.length
  ss : ls.size = l.length
  sub : ∀ i, lr.getD i true = true → ls.getD i true = true
  cl : ∀ j o, l[j]? = some o → ls.getD j true = true → ∀ e ∈ o.after, Region.binds .any e = true → ls.getD e.on true = true
  clr : ∀ j o, l[j]? = some o → lr.getD j true = true → ∀ e ∈ o.after, Region.binds .any e = true → lr.getD e.on true = true
  held : ∀ j, ls.getD j true = true → lr.getD j true = false → ∃ o, l[j]? = some o ∧ goesB l j o = true ∧ Held P c.w l as j
  off : Off l (fun j => ls.getD j true = true ∧ lr.getD j true = false) ar as
  st : St c0 h0 n c h bb F as

theorem lst_set {ls : Array Bool} {i j : Nat} (hi : i < ls.size) : (ls.setIfInBounds i true).getD j true = if j = i then true else ls.getD j true := by
  by_cases h : j = i
  · subst h; simp [hi]
  · rw [if_neg h, getD_set_ne true (Ne.symm h)]
theorem rem_drop {m : Nat} {ls : Array Bool} (hls : ls.size = m) {i : Nat} (hi : i ∈ rem m ls) : dropN i (rem m ls) = rem m (ls.setIfInBounds i true) := by
  obtain ⟨L, M, hLM⟩ := List.append_of_mem hi
  have hsort := rem_sorted m ls
  rw [hLM, List.pairwise_append] at hsort
  rw [rem_set hLM (by have := (mem_rem.1 hi).1; omega), hLM, dropN_split]
  intro hL
  have := hsort.2.2 i hL i (by simp)
  omega

structure WrOk (l : List Oper) : Prop where
  sel : Region.noSelect l.toArray = true
  dep : ∀ (j : Nat) (o : Oper), l[j]? = some o → ∀ e ∈ o.after, Region.binds .any e = true → e.on < j
  pair : ∀ (i j : Nat) (oi oj : Oper), i < j → l[i]? = some oi → l[j]? = some oj → edgeB oj i = true ∨ oi.apart l.toArray oj = true ∨ (goesB l i oi = false ∧ goesB l j oj = false)
theorem wrB_ok {l : List Oper} (hw : wrB l = true) : WrOk l := by
  simp only [wrB, soundReg, Bool.and_eq_true, List.all_eq_true, List.mem_range] at hw
  obtain ⟨⟨h1, _⟩, h2⟩ := hw
  refine ⟨h1, fun j o ho e he hb => ?_, fun i j oi oj hij hi hj => ?_⟩
  · have := h2 j (List.getElem?_eq_some_iff.1 ho).1
    rw [ho] at this
    simp only [Bool.and_eq_true, List.all_eq_true] at this
    have := this.1 e (by simpa using he)
    simp only [hb, Bool.not_true, Bool.false_or] at this
    exact Nat.le_of_ble_eq_true this
  · have := h2 j (List.getElem?_eq_some_iff.1 hj).1
    rw [hj] at this
    simp only [Bool.and_eq_true, List.all_eq_true, List.mem_range] at this
    have := this.2 i hij
    rw [hi] at this
    simp only [Bool.or_eq_true, Bool.and_eq_true, Bool.not_eq_true'] at this
    rcases this with (h | h) | h
    · exact .inl h
    · exact .inr (.inl h)
    · exact .inr (.inr h)
theorem edgeB_mem {o : Oper} {j : Nat} (h : edgeB o j = true) : ∃ e ∈ o.after, Region.binds .any e = true ∧ e.on = j := by
  obtain ⟨e, he, hb⟩ := List.any_eq_true.1 h
  simp only [Bool.and_eq_true] at hb
  exact ⟨e, by simpa using he, hb.1, beq_of hb.2⟩
theorem edgeB_not {o : Oper} {j : Nat} (h : ∀ e ∈ o.after, Region.binds .any e = true → e.on ≠ j) : edgeB o j = false := by
  cases hb : edgeB o j
  · rfl
  · obtain ⟨e, he, h1, h2⟩ := edgeB_mem hb
    exact absurd h2 (h e he h1)

/-- The walked order goes on as long as something may go. -/
theorem catchUp (hM : Snd P M) (htt : ∀ t, TIok P t (tt t)) {l : List Oper} (wk : WrOk l) {lr : Array Bool} {ar : Act} : ∀ (fuel : Nat) {ls : Array Bool} {F : Fr} {as : Act}, Inv P l c0 h0 n lr ls c h bb F ar as →
    wrE M tt n l fuel (rem l.length ls) F h K → ∃ ls' F' as', Inv P l c0 h0 n lr ls' c h bb F' ar as' ∧ ((rem l.length ls' = [] ∧ K F' h) ∨ ∃ fuel' i o, rem l.length ls' ≠ [] ∧ findGo l (rem l.length ls') (rem l.length ls') = none ∧ oneReady l (rem l.length ls') (rem l.length ls') = some i ∧ l[i]? = some o ∧
      evG M tt n l o F' h fun F h => forceN (preds l o) fun pm => again M tt n l (dropN i (rem l.length ls')) pm F h (wrE M tt n l fuel' (dropN i (rem l.length ls')) F h K) (List.range l.length)) := by
  intro fuel
  induction fuel with
  | zero =>
    intro ls F as iv hk
    simp only [wrE] at hk
    split at hk
    · rename_i he; exact ⟨ls, F, as, iv, .inl ⟨he, hk⟩⟩
    · exact hk.elim
  | succ fuel ih =>
    intro ls F as iv hk
    simp only [wrE] at hk
    split at hk
    · rename_i he; exact ⟨ls, F, as, iv, .inl ⟨he, hk⟩⟩
    · rename_i hne
      split at hk
      · rename_i q hq
        obtain ⟨hqm, o, ho, hrb, hgo⟩ := findGo_spec hq
        rw [ho] at hk
        obtain ⟨hqu, hfr⟩ := goesB_spec hgo
        obtain ⟨v, F', hy, st', hk⟩ := evG_W l (fun st hk => evOp_quiet hM htt hqu st hk) iv.st hk
        rw [rem_drop iv.ss hqm] at hk
        have hql := mem_rem.1 hqm
        have hq2 := hql.2
        have hset : ∀ j, (ls.setIfInBounds q true).getD j true = if j = q then true else ls.getD j true := fun j => lst_set (by rw [iv.ss]; exact hql.1)
        have hrq : lr.getD q true = false := by
          cases hr : lr.getD q true
          · rfl
          · rw [iv.sub q hr] at hq2; cases hq2
        refine ih ⟨iv.sr, by simpa using iv.ss, fun i hi => by rw [hset]; split; rfl; exact iv.sub i hi, fun j oj hoj hj e he hb => ?_, iv.clr, fun j hj hjr => ?_, ?_, st'⟩ hk
        · rw [hset] at hj ⊢
          split
          · rfl
          · rename_i hne
            split at hj
            · rename_i e'
              subst e'
              rw [ho] at hoj
              injection hoj with hoj
              subst hoj
              have hrb' := hrb
              simp only [readyB, List.all_eq_true, Bool.or_eq_true, Bool.not_eq_true'] at hrb'
              rcases hrb' e (by simpa using he) with h1 | h1
              · rw [hb] at h1; cases h1
              · cases hl : ls.getD e.on true with
                | true => rfl
                | false =>
                  have hlt := wk.dep _ _ ho e he hb
                  have := mem_iff.2 (mem_rem.2 ⟨(by have := hql.1; omega : e.on < l.length), hl⟩)
                  rw [h1] at this; cases this
            · exact iv.cl j oj hoj hj e he hb
        · rw [hset] at hj
          split at hj
          · rename_i e
            subst e
            refine ⟨o, ho, hgo, o, v, ho, hy.of_same (execOp_put o (noSel wk.sel ho) as o.dst v fun d' hd' => (freshB_spec hfr hd' (Nat.le_refl _) ho).1) (wanted_put o as o.dst v fun d' hd' => (freshB_spec hfr hd' (Nat.le_refl _) ho).1), ?_⟩
            cases hd' : o.dst with
            | none => rfl
            | some d' => simp [Act.put]
          · rename_i hjq
            obtain ⟨oj, hoj, hg, hh⟩ := iv.held j hj hjr
            refine ⟨oj, hoj, hg, hh.put wk.sel fun o' ho' => ?_⟩
            rw [hoj] at ho'
            injection ho' with ho'
            subst ho'
            rcases Nat.lt_or_gt_of_ne hjq with hlt | hgt
            · exact ⟨fun d hd => (freshB_spec hfr hd (by omega) hoj).1, fun d hd => (freshB_spec hfr hd (by omega) hoj).2 hjq⟩
            · rcases wk.pair q j o oj hgt ho hoj with he | he | he
              · obtain ⟨e, he, hb, heq⟩ := edgeB_mem he
                have := iv.cl j oj hoj hj e he hb
                rw [heq, hq2] at this; cases this
              · obtain ⟨h1, h2, h3⟩ := Oper.apart_spec he
                exact ⟨h1, h2⟩
              · rw [hgo] at he; cases he.1
        · have h1 : Off l (fun j => (ls.setIfInBounds q true).getD j true = true ∧ lr.getD j true = false) ar as := iv.off.weaken fun j hj => ⟨by rw [hset]; split; rfl; exact hj.1, hj.2⟩
          refine h1.trans ⟨(put_size _ _ _).symm, (put_defers _ _ _).symm, fun t ht => ?_⟩
          rw [put_get, if_neg]
          rintro ⟨hd, _⟩
          exact ht q o ⟨by rw [hset, if_pos rfl], hrq⟩ ho hd
      · rename_i hfg
        split at hk
        · exact hk.elim
        · rename_i i hi
          split at hk
          · exact hk.elim
          · rename_i o ho
            exact ⟨ls, F, as, iv, .inr ⟨fuel, i, o, fun e => hne (by rw [e]), hfg, hi, ho, hk⟩⟩

theorem wrE_ok (hM : Snd P M) (htt : ∀ t, TIok P t (tt t)) {l : List Oper} (wk : WrOk l) {c0 : Cfg} {h0 : H} {Q : Fr → H → Prop} : ∀ (fuel : Nat) (lr : Array Bool) {c : Cfg} {h : H} {bb : Nat → Nat} {F : Fr} {ar as : Act} {ls : Array Bool} {fs : Nat},
    (rem l.length lr).length ≤ fuel → Inv P l c0 h0 n lr ls c h bb F ar as → wrE M tt n l fs (rem l.length ls) F h Q →
    wpAny P .any l.toArray (fun e a' w' => ∃ ex F' h', exOf ex = e ∧ Good c0 h0 n F' h' a' w' ∧ (match ex with | .normal => Q F' h' | _ => False)) fuel lr ar c.w := by
  have hpanic : ∀ ch a w, ¬ (∃ ex F' h', exOf ex = Exit.panic ch ∧ Good c0 h0 n F' h' a w ∧ (match ex with | .normal => Q F' h' | _ => False)) := by
    rintro ch a w ⟨ex, F', h', h1, _⟩
    cases ex <;> cases h1
  have hsome : ∀ {ls : Array Bool}, ∀ k ∈ rem l.length ls, (l[k]?).isSome = true := fun k hk => by
    have := (mem_rem.1 hk).1
    simp [this]
  -- at the end
  have hend : ∀ {lr : Array Bool} {c : Cfg} {h : H} {bb : Nat → Nat} {F : Fr} {ar as : Act} {ls : Array Bool} {fs : Nat}, Inv P l c0 h0 n lr ls c h bb F ar as → wrE M tt n l fs (rem l.length ls) F h Q → rem l.length lr = [] →
      ∃ ex F' h', exOf ex = Exit.normal ∧ Good c0 h0 n F' h' ar c.w ∧ (match ex with | .normal => Q F' h' | _ => False) := by
    intro lr c h bb F ar as ls fs iv hk he
    have hlr : ∀ i, lr.getD i true = true := fun i => by
      cases hr : lr.getD i true with
      | true => rfl
      | false =>
        have hi : i < l.length := by
          rcases Nat.lt_or_ge i l.length with h | h
          · exact h
          · have : lr.getD i true = true := by simp [Array.getD, iv.sr, Nat.not_lt.2 h]
            rw [hr] at this; cases this
        have : i ∈ rem l.length lr := mem_rem.2 ⟨hi, hr⟩
        rw [he] at this; cases this
    have hls : rem l.length ls = [] := by
      cases hr : rem l.length ls with
      | nil => rfl
      | cons i r =>
        have : i ∈ rem l.length ls := by rw [hr]; simp
        have := (mem_rem.1 this).2
        rw [iv.sub i (hlr i)] at this; cases this
    have hQ : Q F h := by
      cases fs <;> (simp only [wrE, hls] at hk; exact hk)
    have : ar = as := iv.off.eq fun i hi => by rw [hlr i] at hi; cases hi.2
    subst this
    exact ⟨.normal, F, h, rfl, iv.st.good, hQ⟩
  -- something is ready
  have hne : ∀ {lr : Array Bool}, lr.size = l.length → Region.ready .any l.toArray lr = [] → rem l.length lr = [] := by
    intro lr hsz hrd
    cases hrem : rem l.length lr with
    | nil => rfl
    | cons i M =>
      have hi : i ∈ rem l.length lr := by rw [hrem]; simp
      have him := mem_rem.1 hi
      have hsort := rem_sorted l.length lr
      rw [hrem, List.pairwise_cons] at hsort
      have : i ∈ Region.ready .any l.toArray lr := by
        rw [mem_ready]
        refine ⟨him.2, l[i]'him.1, by simp [him.1], fun e he hb => ?_⟩
        have hlt := wk.dep i _ (List.getElem?_eq_getElem him.1) e he hb
        cases hl : lr.getD e.on true with
        | true =>
          have hes : e.on < lr.size := by omega
          simp [Array.getD, hes] at hl ⊢
          exact hl
        | false =>
          have hm : e.on ∈ rem l.length lr := mem_rem.2 ⟨by omega, hl⟩
          rw [hrem] at hm
          rcases List.mem_cons.1 hm with hm | hm
          · omega
          · have := hsort.1 _ hm; omega
      rw [hrd] at this
      cases this
  -- one step of the real order
  have hstep : ∀ (fuel : Nat) (lr : Array Bool) {c : Cfg} {h : H} {bb : Nat → Nat} {F : Fr} {ar as : Act} {ls : Array Bool} {fs : Nat},
      (∀ (lr' : Array Bool) {c : Cfg} {h : H} {bb : Nat → Nat} {F : Fr} {ar as : Act} {ls : Array Bool} {fs : Nat}, (rem l.length lr').length ≤ fuel → Inv P l c0 h0 n lr' ls c h bb F ar as → wrE M tt n l fs (rem l.length ls) F h Q →
        wpAny P .any l.toArray (fun e a' w' => ∃ ex F' h', exOf ex = e ∧ Good c0 h0 n F' h' a' w' ∧ (match ex with | .normal => Q F' h' | _ => False)) fuel lr' ar c.w) →
      (rem l.length lr).length ≤ fuel + 1 → Inv P l c0 h0 n lr ls c h bb F ar as → wrE M tt n l fs (rem l.length ls) F h Q → ∀ i ∈ Region.ready .any l.toArray lr,
      wpOp P l.toArray (fun e a' w' => ∃ ex F' h', exOf ex = e ∧ Good c0 h0 n F' h' a' w' ∧ (match ex with | .normal => Q F' h' | _ => False)) i (wpAny P .any l.toArray (fun e a' w' => ∃ ex F' h', exOf ex = e ∧ Good c0 h0 n F' h' a' w' ∧ (match ex with | .normal => Q F' h' | _ => False)) fuel (lr.setIfInBounds i true)) ar c.w := by
    intro fuel lr c h bb F ar as ls fs ih hlen iv hk i hi
    rw [mem_ready] at hi
    obtain ⟨hun, o, ho, hall⟩ := hi
    have ho : l[i]? = some o := by simpa using ho
    have hil : i < l.length := (List.getElem?_eq_some_iff.1 ho).1
    have hall : ∀ e ∈ o.after, Region.binds .any e = true → lr.getD e.on true = true := fun e he hb => by
      have h1 := hall e he hb
      have hes : e.on < lr.size := by have := wk.dep i o ho e he hb; rw [iv.sr]; omega
      simp [Array.getD, hes] at h1 ⊢
      exact h1
    have him : i ∈ rem l.length lr := mem_rem.2 ⟨hil, hun⟩
    have hsetr : ∀ j, (lr.setIfInBounds i true).getD j true = if j = i then true else lr.getD j true := fun j => lst_set (by rw [iv.sr]; exact hil)
    have hclr : ∀ j oj, l[j]? = some oj → (lr.setIfInBounds i true).getD j true = true → ∀ e ∈ oj.after, Region.binds .any e = true → (lr.setIfInBounds i true).getD e.on true = true := by
      intro j oj hoj hj e he hb
      rw [hsetr] at hj ⊢
      split
      · rfl
      · split at hj
        · rename_i e'
          subst e'
          rw [ho] at hoj
          injection hoj with hoj
          subst hoj
          exact hall e he hb
        · exact iv.clr j oj hoj hj e he hb
    have hlen' : (rem l.length (lr.setIfInBounds i true)).length ≤ fuel := by
      obtain ⟨L, N, hLN⟩ := List.append_of_mem him
      rw [rem_set hLN (by rw [iv.sr]; exact hil)]
      rw [hLN] at hlen
      simp at hlen ⊢
      omega
    -- operands agree
    have hap : ∀ {ls : Array Bool} {F : Fr} {as : Act}, Inv P l c0 h0 n lr ls c h bb F ar as → ∀ j oj, (ls.getD j true = true ∧ lr.getD j true = false) → l[j]? = some oj → ∀ d, oj.dst = some d → d ∉ o.looksAt l.toArray := by
      intro ls F as iv j oj hj hoj d hd
      obtain ⟨o', ho', hg, _⟩ := iv.held j hj.1 hj.2
      rw [hoj] at ho'
      injection ho' with ho'
      subst ho'
      rcases Nat.lt_or_ge j i with hlt | hge
      · rcases wk.pair j i oj o hlt hoj ho with he | he | he
        · obtain ⟨e, he, hb, heq⟩ := edgeB_mem he
          have := hall e he hb
          rw [heq, hj.2] at this; cases this
        · exact (Oper.apart_spec he).1 d hd
        · rw [hg] at he; cases he.1
      · exact (freshB_spec (goesB_spec hg).2 hd hge ho).1
    obtain ⟨ls, F, as, iv, hk⟩ := catchUp hM htt wk fs iv hk
    obtain ⟨hex, hwa⟩ := iv.off.eval (hap iv) (noSel wk.sel ho)
    have cases_ : ls.getD i true = true ∨ ls.getD i true = false := by cases ls.getD i true <;> simp
    rcases cases_ with hin | hout
    · -- it has been walked
      obtain ⟨o', ho', hg, o'', v, ho'', hy, hput⟩ := iv.held i hin hun
      rw [ho] at ho' ho''
      injection ho' with ho'
      injection ho'' with ho''
      subst ho'
      subst ho''
      have iv' : Inv P l c0 h0 n (lr.setIfInBounds i true) ls c h bb F (ar.put o.dst v) as := by
        refine ⟨by simpa using iv.sr, iv.ss, fun j hj => ?_, iv.cl, hclr, fun j hj hjr => ?_, ?_, iv.st⟩
        · rw [hsetr] at hj
          split at hj
          · rename_i e; subst e; exact hin
          · exact iv.sub j hj
        · rw [hsetr] at hjr
          split at hjr
          · cases hjr
          · exact iv.held j hj hjr
        · have h1 := iv.off.put o.dst v
          rw [hput] at h1
          refine ⟨h1.size, h1.defers, fun t ht => ?_⟩
          by_cases hd : o.dst = some t
          · have h2 : (as.put o.dst v).tmps[t]? = as.tmps[t]? := by rw [hput]
            rw [← h2, put_get, put_get]
            by_cases hs : t < as.tmps.size
            · rw [if_pos ⟨hd, by rw [iv.off.size]; exact hs⟩, if_pos ⟨hd, hs⟩]
            · have hs' : ¬ t < ar.tmps.size := by rw [iv.off.size]; exact hs
              rw [if_neg (fun hh => hs' hh.2), if_neg (fun hh => hs hh.2), Array.getElem?_eq_none (Nat.not_lt.1 hs'), Array.getElem?_eq_none (Nat.not_lt.1 hs)]
          · refine h1.at_ t fun j oj hj hoj hjd => ?_
            by_cases e : j = i
            · subst e
              rw [ho] at hoj
              injection hoj with hoj
              subst hoj
              exact hd hjd
            · exact ht j oj ⟨hj.1, by rw [hsetr, if_neg e]; exact hj.2⟩ hoj hjd
      have hwr : ∃ fs, wrE M tt n l fs (rem l.length ls) F h Q := by
        rcases hk with ⟨h1, h2⟩ | ⟨f', k, ok, h1, hfg, h2, h3, h4⟩
        · exact ⟨0, by simp only [wrE, h1]; exact h2⟩
        · refine ⟨f' + 1, ?_⟩
          rw [wrE_at h1]
          simp only [hfg, h2, h3]
          exact h4
      obtain ⟨fs', hk'⟩ := hwr
      have hrec := ih (lr.setIfInBounds i true) hlen' iv' hk'
      unfold wpOp
      rw [show l.toArray[i]? = some o by simpa using ho]
      simp only
      rcases hy with ⟨hw, hv⟩ | ⟨hw, hv⟩
      · rw [if_pos (by rw [hwa]; exact hw)]
        refine .inl ?_
        simp only [Oper.wp, hex, hv c.w rfl, Oper.upon]
        exact hrec
      · subst hv
        rw [if_neg (by rw [hwa, hw]; simp)]
        exact hrec
    · -- the walked order does it, too
      have hsets : ∀ j, (ls.setIfInBounds i true).getD j true = if j = i then true else ls.getD j true := fun j => lst_set (by rw [iv.ss]; exact hil)
      have hims : i ∈ rem l.length ls := mem_rem.2 ⟨hil, hout⟩
      rcases hk with ⟨h1, h2⟩ | ⟨f', k, ok, h1, hfg, h2, h3, h4⟩
      · rw [h1] at hims; cases hims
      · have hrb : readyB (rem l.length ls) o = true := by
          simp only [readyB, List.all_eq_true, Bool.or_eq_true, Bool.not_eq_true']
          intro e he
          cases hb : Region.binds .any e with
          | false => exact .inl rfl
          | true =>
            right
            cases hm : mem e.on (rem l.length ls) with
            | false => rfl
            | true =>
              have h5 := (mem_rem.1 (mem_iff.1 hm)).2
              rw [iv.sub _ (hall e (by simpa using he) hb)] at h5; cases h5
        have hik := (oneReady_spec h2 hsome).2 i hims o ho hrb
        subst hik
        rw [ho] at h3
        injection h3 with h3
        subst h3
        have hnoe : ∀ j, lr.getD j true = false → Nat.testBit (preds l o) j = false := fun j hj => by
          cases hb : Nat.testBit (preds l o) j with
          | false => rfl
          | true =>
            have := closeM_in (R := fun j => lr.getD j true = true) (fun j oj hoj hj => iv.clr j oj hoj hj) l.length (maskL o.after.toList) (fun j hj => by
              obtain ⟨e, h1, h2, h3⟩ := maskL_mem hj
              exact h3 ▸ hall e (by simpa using h1) h2) j hb
            rw [hj] at this; cases this
        have hgo := evG_ok (Q := fun e a' w' => ∃ ex F' h', exOf ex = e ∧ Good c0 h0 n F' h' a' w' ∧ (match ex with | .normal => Q F' h' | _ => False)) hM htt l iv.st h4
          (next := fun a'' w'' => ∀ ar'', Off l (fun j => ls.getD j true = true ∧ lr.getD j true = false) ar'' a'' → wpAny P .any l.toArray (fun e a' w' => ∃ ex F' h', exOf ex = e ∧ Good c0 h0 n F' h' a' w' ∧ (match ex with | .normal => Q F' h' | _ => False)) fuel (lr.setIfInBounds i true) ar'' w'') fun c' h' bb' F' a' st' hk' => by
            intro ar'' hoff
            rw [forceN_eq] at hk'
            rw [rem_drop iv.ss hims] at hk'
            obtain ⟨a'', st'', hk'', hh, _, hoff'⟩ := again_ok (D := fun j => ls.getD j true = true ∧ lr.getD j true = false) hM htt wk.sel (fun j hj => by
              obtain ⟨oj, hoj, hg, _⟩ := iv.held j hj.1 hj.2
              refine ⟨oj, hoj, hg, ?_, hnoe j hj.2⟩
              cases hm : mem j (rem l.length (ls.setIfInBounds i true)) with
              | false => rfl
              | true =>
                have h5 := (mem_rem.1 (mem_iff.1 hm)).2
                rw [hsets] at h5
                split at h5
                · cases h5
                · rw [hj.1] at h5; cases h5) _ List.pairwise_lt_range st' hk'
            refine ih (lr.setIfInBounds i true) hlen' ⟨by simpa using iv.sr, by simpa using iv.ss, fun j hj => ?_, fun j oj hoj hj e he hb => ?_, hclr, fun j hj hjr => ?_, ?_, st''⟩ hk''
            · rw [hsetr] at hj
              rw [hsets]
              split
              · rfl
              · rename_i hne; rw [if_neg hne] at hj; exact iv.sub j hj
            · rw [hsets] at hj ⊢
              split
              · rfl
              · split at hj
                · rename_i e'
                  subst e'
                  rw [ho] at hoj
                  injection hoj with hoj
                  subst hoj
                  exact iv.sub _ (hall e he hb)
                · exact iv.cl j oj hoj hj e he hb
            · rw [hsetr] at hjr
              rw [hsets] at hj
              split at hjr
              · cases hjr
              · rename_i hne
                rw [if_neg hne] at hj
                obtain ⟨oj, hoj, hg, _⟩ := iv.held j hj hjr
                exact ⟨oj, hoj, hg, hh j ⟨hj, hjr⟩ (List.mem_range.2 (List.getElem?_eq_some_iff.1 hoj).1)⟩
            · refine (hoff.trans hoff').weaken fun j hj => ?_
              rw [hsets, hsetr]
              have hne : j ≠ i := fun e => by subst e; rw [hout] at hj; cases hj.1
              rw [if_neg hne, if_neg hne]
              exact hj
        unfold wpOp
        rw [show l.toArray[i]? = some o by simpa using ho]
        simp only
        rw [hwa]
        split
        · rename_i hw
          rw [if_pos hw] at hgo
          refine .inl ?_
          unfold Oper.wp at hgo ⊢
          rw [hex]
          exact upon_off (fun v w hn => hn _ (iv.off.put _ _)) (fun x v w hn => hn _ (Off.put (a := { ar with defers := x :: ar.defers }) (b := { as with defers := x :: as.defers }) ⟨iv.off.size, congrArg (x :: ·) iv.off.defers, iv.off.at_⟩ _ _)) hpanic hgo
        · rename_i hw
          rw [if_neg hw] at hgo
          exact hgo _ (iv.off.put _ _)
  intro fuel
  induction fuel with
  | zero =>
    intro lr c h bb F ar as ls fs hlen iv hk
    have he : rem l.length lr = [] := List.eq_nil_of_length_eq_zero (by omega)
    refine ⟨?_, hend iv hk he⟩
    cases hrd : Region.ready .any l.toArray lr with
    | nil => rfl
    | cons i r =>
      have hi : i ∈ Region.ready .any l.toArray lr := by rw [hrd]; simp
      rw [mem_ready] at hi
      obtain ⟨h1, o, ho, _⟩ := hi
      have ho : l[i]? = some o := by simpa using ho
      have : i ∈ rem l.length lr := mem_rem.2 ⟨(List.getElem?_eq_some_iff.1 ho).1, h1⟩
      rw [he] at this; cases this
  | succ fuel ih =>
    intro lr c h bb F ar as ls fs hlen iv hk
    exact ⟨fun hr => hend iv hk (hne iv.sr hr), hstep fuel lr (fun lr' => ih lr') hlen iv hk⟩

theorem DrawP.wr (hM : Snd P M) (htt : ∀ t, TIok P t (tt t)) (hm : P.follows .mixedOrders = true) {id : Nat} {ops : Array Oper} {F : Fr} {h : H} {Q : Fr → H → Prop} (hq : wrB ops.toList = true) (hk : wrE M tt n ops.toList ops.toList.length (List.range ops.toList.length) F h Q) : DrawP P n id ops F h Q := by
  refine ⟨⟨fun c0 h0 a w hg => wp_region_any hm ?_⟩⟩
  obtain ⟨c, bb, rfl, st⟩ := hg.st
  have st := st.drew
  rw [← rem_start] at hk
  have hno : ∀ j, (Array.replicate ops.toList.length false).getD j true = true → ops.toList.length ≤ j := fun j hj => by
    rcases Nat.lt_or_ge j ops.toList.length with h | h
    · simp [Array.getD] at hj; simpa using hj
    · exact h
  have := wrE_ok hM htt (wrB_ok hq) (c := c.at { c.w with drawn := c.w.drawn + 1 }) ops.toList.length (Array.replicate ops.toList.length false) (ls := Array.replicate ops.toList.length false) (by rw [rem_start]; simp) (Inv.mk (by simp) (by simp) (fun _ hi => hi) (fun j o ho hj => by
      have h1 := hno j hj
      have h2 := (List.getElem?_eq_some_iff.1 ho).1
      omega) (fun j o ho hj => by
      have h1 := hno j hj
      have h2 := (List.getElem?_eq_some_iff.1 ho).1
      omega) (fun j hj hjr => by rw [hj] at hjr; cases hjr) (Off.refl _ _ _) st) hk
  simp only [Array.toArray_toList, Array.length_toList] at this
  exact this
end
end Go.AM
/- What is known of types, by a check. -/
set_option linter.unusedVariables false
set_option linter.unusedSimpArgs false
namespace Go.AM
open Go

noncomputable def bytesEq : List UInt8 → List UInt8 → Bool
  | [], [] => true
  | _, _ => false
/-- '=' of the cells of zero values. -/
noncomputable def zq : V → V → Bool
  | .ff, .ff => true
  | .i k n, .i k' n' => kq k k' && decide (n = n')
  | .s l, .s l' => bytesEq l l'
  | .nils, .nils => true
  | .nilp, .nilp => true
  | .nilm, .nilm => true
  | .nilf, .nilf => true
  | .nili, .nili => true
  | _, _ => false
theorem zq_eq {x y : V} (h : zq x y = true) : x = y := by
  unfold zq at h
  split at h <;> first | rfl | cases h | skip
  · simp only [Bool.and_eq_true, decide_eq_true_eq] at h
    rw [kq_eq h.1, h.2]
  · rename_i l l'
    cases l <;> cases l' <;> simp [bytesEq] at h
    rfl
noncomputable def zqL : List V → List V → Bool
  | [], [] => true
  | x :: xs, y :: ys => zq x y && zqL xs ys
  | _, _ => false
theorem zqL_eq {xs ys : List V} (h : zqL xs ys = true) : xs = ys := by
  induction xs generalizing ys with
  | nil => cases ys with
    | nil => rfl
    | cons y ys => cases h
  | cons x xs ih => cases ys with
    | nil => cases h
    | cons y ys =>
      simp only [zqL, Bool.and_eq_true] at h
      rw [zq_eq h.1, ih h.2]

noncomputable def oneD (z : V) : TypeDesc → Bool
  | .struct _ => false
  | .array _ _ => false
  | d => match z with
    | .i k _ => match d with
      | .int k' => kq k' k
      | _ => false
    | .s l => match d, l with
      | .string, [] => true
      | _, _ => false
    | .ff => match d with
      | .bool => true
      | _ => false
    | _ => true

noncomputable def fieldsB (P : Program) (zl : Nat) : List (Nat × Nat) → List Field → Bool
  | [], [] => true
  | (off, sz) :: r, f :: fs => Nat.beq f.offset off && (match P.info? f.type with
      | some i => Nat.beq i.size sz
      | none => false) && Nat.ble (off + sz) zl && fieldsB P zl r fs
  | _, _ => false

noncomputable def tiB (P : Program) (t : TypeId) : TI → Bool
  | .no => true
  | .one z => match P.underlying t, P.info? t with
    | some d, some i => oneD z d && Nat.beq i.size 1 && (match i.zero with
      | some zv => zq (cv zv) z && cell1 z
      | none => false)
    | _, _ => false
  | .pt => match P.underlying t, P.info? t with
    | some (.pointer e), some i => (P.info? e).isSome && Nat.beq i.size 1 && (match i.zero with
      | some (.pointer none) => true
      | _ => false)
    | _, _ => false
  | .sl esz eb ez => match P.underlying t, P.info? t with
    | some (.slice e), some i => Nat.beq i.size 1 && (match i.zero with
      | some (.slice none 0 0) => true
      | _ => false) && (match P.info? e with
      | some ie => Nat.beq ie.size esz && Nat.blt 0 esz && Nat.beq ie.bytes eb && (match ie.zero with
        | some zv => zqL (zv.cells.toList.map cv) ez && Nat.beq ez.length esz && cellL ez
        | none => false) && (match ez with
        | [.i k _] => match P.underlying e with
          | some (.int k') => kq k' k
          | _ => false
        | _ => true)
      | none => false)
    | _, _ => false
  | .st offs z => match P.underlying t, P.info? t with
    | some (.struct fs), some i => fieldsB P z.length offs fs.toList && Nat.beq i.size z.length && (match i.zero with
      | some (.agg xs) => zqL (xs.toList.map cv) z && cellL z
      | _ => false) && (!flatV z || !Nat.beq (lenP offs) (len z) || (!P.stoodInHeld t && !P.eqGuardType P.depth t && fieldFlat P 0 z fs.toList))
    | _, _ => false
  | .ar m esz z => match P.underlying t, P.info? t with
    | some (.array m' e), some i => Nat.beq m' m && Nat.blt 1 m && (match P.info? e with
      | some ie => Nat.beq ie.size esz && Nat.blt 0 esz
      | none => false) && Nat.beq i.size z.length && (match i.zero with
      | some (.agg xs) => zqL (xs.toList.map cv) z && cellL z
      | _ => false)
    | _, _ => false
  | .up => match P.underlying t, P.info? t with
    | some .unsafePointer, some i => Nat.beq i.size 1
    | _, _ => false
  | .mp kz ez => match P.underlying t, P.info? t with
    | some (.map k e), some i => Nat.beq i.size 1 && (match i.zero with
      | some (.map none) => true
      | _ => false) && (match kz, P.underlying k with
      | .i kk _, some (.int k') => kq k' kk
      | .s _, some .string => true
      | .dead, _ => true
      | _, _ => false) && (match P.info? e with
      | some ie => match ie.zero with
        | some zv => match zv, ez with
          | .agg xs, .agg zs => zqL (xs.toList.map cv) zs
          | .agg _, _ => false
          | zv, ez => zq (cv zv) ez && cell1 ez
        | none => false
      | none => false)
    | _, _ => false

theorem fieldsB_ok {P : Program} {zl : Nat} : ∀ {offs : List (Nat × Nat)} {fs : List Field}, fieldsB P zl offs fs = true → offs.length = fs.length ∧
    ∀ (f off sz : Nat), offs[f]? = some (off, sz) → (∃ fld i, fs[f]? = some fld ∧ fld.offset = off ∧ P.info? fld.type = some i ∧ i.size = sz) ∧ off + sz ≤ zl := by
  intro offs
  induction offs with
  | nil => intro fs h; cases fs with
    | nil => exact ⟨rfl, by simp⟩
    | cons x r => cases h
  | cons p r ih => intro fs h; cases fs with
    | nil => cases h
    | cons x fs =>
      obtain ⟨off, sz⟩ := p
      simp only [fieldsB, Bool.and_eq_true] at h
      obtain ⟨⟨⟨h1, h2⟩, h3⟩, h4⟩ := h
      obtain ⟨k1, k2⟩ := ih h4
      refine ⟨by simp [k1], fun f o s hf => ?_⟩
      cases f with
      | zero =>
        simp at hf
        obtain ⟨rfl, rfl⟩ := hf
        split at h2
        · rename_i i hi
          exact ⟨⟨x, i, rfl, beq_of h1, hi, beq_of h2⟩, Nat.le_of_ble_eq_true h3⟩
        · cases h2
      | succ f => simpa using k2 f o s (by simpa using hf)

theorem tiB_ok {P : Program} {t : TypeId} {ti : TI} (h : tiB P t ti = true) : TIok P t ti := by
  cases ti with
  | no => trivial
  | one z =>
    simp only [tiB] at h
    split at h
    · rename_i d i hd hi
      simp only [Bool.and_eq_true] at h
      obtain ⟨⟨h1, h2⟩, h3⟩ := h
      split at h3
      · rename_i zv hz
        simp only [Bool.and_eq_true] at h3
        refine ⟨⟨d, hd, ?_⟩, i, zv, hi, beq_of h2, hz, zq_eq h3.1, h3.2⟩
        clear hd hi h2 h3 hz
        cases d <;> simp only [oneD] at h1 <;> first | cases h1 | skip
        all_goals
          refine ⟨by simp, by simp, ?_, ?_, ?_⟩
          all_goals
            intros
            subst_vars
            simp_all
        all_goals exact (kq_eq h1)
      · cases h3
    · cases h
  | pt =>
    simp only [tiB] at h
    split at h
    · rename_i e i hd hi
      simp only [Bool.and_eq_true] at h
      obtain ⟨⟨h0, h1⟩, h2⟩ := h
      obtain ⟨j, hj⟩ := Option.isSome_iff_exists.1 h0
      refine ⟨⟨e, hd, j, hj⟩, i, hi, beq_of h1, ?_⟩
      split at h2
      · assumption
      · cases h2
    · cases h
  | up =>
    simp only [tiB] at h
    split at h
    · rename_i i hd hi; exact ⟨hd, i, hi, beq_of h⟩
    · cases h
  | mp kz ez =>
    simp only [tiB] at h
    split at h
    · rename_i k e i hd hi
      simp only [Bool.and_eq_true] at h
      obtain ⟨⟨⟨h1, h2⟩, h3⟩, h4⟩ := h
      refine ⟨k, e, hd, ⟨i, hi, beq_of h1, ?_⟩, ?_, ?_⟩
      · split at h2
        · assumption
        · cases h2
      · split at h3
        · rename_i kk m k' hk; exact .inr (.inl ⟨kk, m, rfl, by rw [hk, kq_eq h3]⟩)
        · rename_i l hk; exact .inr (.inr ⟨l, rfl, hk⟩)
        · exact .inl rfl
        · cases h3
      · split at h4
        · rename_i ie hie
          split at h4
          · rename_i zv hz
            refine ⟨ie, zv, hie, hz, ?_⟩
            split at h4
            · rename_i xs zs; exact .inl ⟨xs, rfl, by rw [zqL_eq h4]⟩
            · cases h4
            · simp only [Bool.and_eq_true] at h4; exact .inr ⟨zq_eq h4.1, h4.2⟩
          · cases h4
        · cases h4
    · cases h
  | sl esz eb ez =>
    simp only [tiB] at h
    split at h
    · rename_i e i hd hi
      simp only [Bool.and_eq_true] at h
      obtain ⟨⟨h1, h2⟩, h3⟩ := h
      split at h3
      · rename_i ie hie
        simp only [Bool.and_eq_true] at h3
        obtain ⟨⟨⟨⟨k1, k2⟩, k3⟩, k4⟩, k5⟩ := h3
        split at k4
        · rename_i zv hz
          simp only [Bool.and_eq_true] at k4
          refine ⟨e, hd, ⟨i, hi, beq_of h1, ?_⟩, ie, zv, hie, beq_of k1, Nat.le_of_ble_eq_true k2, beq_of k3, hz, zqL_eq k4.1.1, beq_of k4.1.2, k4.2, ?_⟩
          · split at h2
            · assumption
            · cases h2
          · intro k m he
            subst he
            simp only at k5
            split at k5
            · rename_i k' hk'
              rw [hk', kq_eq k5]
            · cases k5
        · cases k4
      · cases h3
    · cases h
  | st offs z =>
    simp only [tiB] at h
    split at h
    · rename_i fs i hd hi
      simp only [Bool.and_eq_true] at h
      obtain ⟨⟨⟨h1, h2⟩, h3⟩, hfl⟩ := h
      obtain ⟨k1, k2⟩ := fieldsB_ok h1
      split at h3
      · rename_i xs hz
        simp only [Bool.and_eq_true] at h3
        refine ⟨fs, hd, fun f off sz hf => ?_, i, xs, hi, beq_of h2, hz, zqL_eq h3.1, h3.2, by simpa using k1, fun f off sz hf => (k2 f off sz hf).2, fun hf he => by
          have hl : Nat.beq (lenP offs) (len z) = true := by rw [lenP_eq, len_eq, he]; exact Nat.beq_refl _
          simpa [hf, hl, and_assoc] using hfl⟩
        obtain ⟨⟨fld, i, e1, e2⟩, _⟩ := k2 f off sz hf
        exact ⟨fld, i, by simpa using e1, e2⟩
      · cases h3
    · cases h
  | ar m esz z =>
    simp only [tiB] at h
    split at h
    · rename_i m' e i hd hi
      simp only [Bool.and_eq_true] at h
      obtain ⟨⟨⟨⟨h1, h2⟩, h3⟩, h4⟩, h5⟩ := h
      have := beq_of h1
      subst this
      split at h3
      · rename_i ie hie
        simp only [Bool.and_eq_true] at h3
        split at h5
        · rename_i xs hz
          simp only [Bool.and_eq_true] at h5
          exact ⟨e, hd, ⟨ie, hie, beq_of h3.1, Nat.le_of_ble_eq_true h3.2⟩, i, xs, hi, beq_of h4, hz, zqL_eq h5.1, h5.2, Nat.le_of_ble_eq_true h2⟩
        · cases h5
      · cases h3
    · cases h

/-- All types below n are as the table says; behind it the table says nothing. -/
theorem tt_ok {P : Program} {tt : TT} (n : Nat) (h : (List.range n).all (fun t => tiB P t (tt t)) = true) (hn : ∀ t, n ≤ t → tt t = .no) : ∀ t, TIok P t (tt t) := fun t => by
  rcases Nat.lt_or_ge t n with hlt | hge
  · rw [List.all_eq_true] at h
    exact tiB_ok (h t (List.mem_range.2 hlt))
  · rw [hn t hge]; trivial

/-- Type infos by their numbers. -/
inductive TIT where
  | nil
  | node (v : TI) (l r : TIT)
noncomputable def TIT.get : TIT → Nat → TI
  | .nil, _ => .no
  | .node v l r, k => match k with
    | 0 => v
    | k + 1 => match Nat.beq (k % 2) 0 with
      | true => l.get (k / 2)
      | false => r.get (k / 2)
/-- All numbers that the table knows are below n. -/
noncomputable def TIT.low : TIT → Nat → Nat → Nat → Bool
  | .nil, _, _, _ => true
  | .node v l r, a, b, n => (match v with
    | .no => true
    | _ => Nat.blt b n) && l.low (2 * a) (b + a) n && r.low (2 * a) (b + 2 * a) n
theorem TIT.low_ok {n : Nat} : ∀ {t : TIT} {a b : Nat}, t.low a b n = true → ∀ k, n ≤ b + a * k → t.get k = .no := by
  intro t
  induction t with
  | nil => intro a b _ k _; rfl
  | node v l r ihl ihr =>
    intro a b h k hk
    simp only [TIT.low, Bool.and_eq_true] at h
    obtain ⟨⟨h1, h2⟩, h3⟩ := h
    simp only [TIT.get]
    cases k with
    | zero =>
      simp only
      split at h1
      · rfl
      · have := Nat.le_of_ble_eq_true h1
        simp only [Nat.mul_zero, Nat.add_zero] at hk
        exact absurd hk (by simp only [Nat.succ_eq_add_one] at this; omega)
    | succ k =>
      simp only
      have hd := Nat.div_add_mod k 2
      have hm := Nat.mod_lt k (show 0 < 2 by decide)
      split
      · rename_i hb
        have hb := beq_of hb
        refine ihl h2 _ ?_
        have : k = 2 * (k / 2) := by omega
        have e : a * (k + 1) = a + 2 * a * (k / 2) := by
          rw [Nat.mul_add, Nat.mul_one, Nat.add_comm]
          congr 1
          rw [Nat.mul_comm 2 a, Nat.mul_assoc, ← this]
        rw [e] at hk
        omega
      · rename_i hb
        have hb := beq_not hb
        refine ihr h3 _ ?_
        have : k = 2 * (k / 2) + 1 := by omega
        have e : a * (k + 1) = 2 * a + 2 * a * (k / 2) := by
          conv => lhs; rw [this]
          rw [show 2 * (k / 2) + 1 + 1 = 2 + 2 * (k / 2) by omega, Nat.mul_add, Nat.mul_comm a 2, ← Nat.mul_assoc, Nat.mul_comm a 2]
        rw [e] at hk
        omega

end Go.AM
/- Operations beyond the first ones, 1: blocks of any kind under the abstract heap's rows. -/
set_option linter.unusedVariables false
set_option linter.unusedSimpArgs false
namespace Go.AM
open Go

section
variable {P : Program} {M : Mach} {tt : TT} {c0 : Cfg} {h0 : H} {n : Nat} {c : Cfg} {h : H} {bb : Nat → Nat} {F : Fr} {a : Act} {o : Oper} {next : Act → World → Prop} {Q : Exit → Act → World → Prop} {K : Fr → H → Prop}

/-- A new row over a new block. -/
theorem St.newAny (st : St c0 h0 n c h bb F a) {w' : World} {ob : Obj} (p : Pushed c.w w' ob) {g : Nat} (hg : c.φ g = none) (hf : Free h g) {r : GRow} (hrow : RowOk (c.name g (some c.w.heap.size) w') g r) :
    St c0 h0 n (c.name g (some c.w.heap.size) w') (h.new g r) bb F a := by
  have to := To.new st.hs rfl hf r
  have hev := evo_pushed st.ok p hg (some c.w.heap.size)
  have hφg : (c.name g (some c.w.heap.size) w').φ g = some (some c.w.heap.size) := by simp [Cfg.name]
  have hφn : ∀ x, x ≠ g → (c.name g (some c.w.heap.size) w').φ x = c.φ x := fun x hx => by simp [Cfg.name, hx]
  have hblk : ∀ b, b < c.w.heap.size → Blk (c.name g (some c.w.heap.size) w') (h.new g r) b → Blk c h b := by
    rintro b hb ⟨g', r', hg', hφ'⟩
    by_cases he : g' = g
    · subst he; rw [hφg] at hφ'; injection hφ' with hφ'; injection hφ' with hφ'; omega
    · rw [hφn _ he] at hφ'; rw [to.ne _ he] at hg'
      exact ⟨g', r', hg', hφ'⟩
  refine st.step ⟨hev, fun b hb _ => p.old b hb, fun _ _ _ _ hz => hz, hblk⟩ (st.ok.name (by rw [p.size]; omega) fun b hb => by injection hb with hb; rw [p.size]; omega) ⟨fun g' r' hg' => ?_, fun g1 g2 r1 r2 b k1 k2 k3 k4 => ?_, fun N hN x hx => by rw [hφn x (by have := (to.nx N hN).1; omega)]; exact (to.nx N hN).2 x hx⟩
  · by_cases he : g' = g
    · subst he
      rw [to.self] at hg'
      injection hg' with hg'
      subst hg'
      exact hrow
    · rw [to.ne _ he] at hg'
      refine (st.hs.row g' r' hg').mono hev fun b hb => ⟨?_, fun _ hz => hz⟩
      exact p.old b (st.ok.φlt _ _ hb)
  · by_cases e1 : g1 = g <;> by_cases e2 : g2 = g
    · rw [e1, e2]
    · subst e1
      rw [hφg] at k3
      rw [hφn _ e2] at k4
      have := st.ok.φlt _ _ k4
      injection k3 with k3; injection k3 with k3; omega
    · subst e2
      rw [hφg] at k4
      rw [hφn _ e1] at k3
      have := st.ok.φlt _ _ k3
      injection k4 with k4; injection k4 with k4; omega
    · rw [hφn _ e1] at k3
      rw [hφn _ e2] at k4
      rw [to.ne _ e1] at k1
      rw [to.ne _ e2] at k2
      exact st.hs.inj _ _ _ _ _ k1 k2 k3 k4

/-- A row's block changes. -/
theorem St.putAny (st : St c0 h0 n c h bb F a) {g b : Nat} {r r' : GRow} (hg : h g = some r) (hφ : c.φ g = some (some b)) {w' : World} (hev : Evo c (c.at w')) (hw : ∀ b', b' ≠ b → w'.heap[b']? = c.w.heap[b']?)
    (hrow : RowOk (c.at w') g r') : St c0 h0 n (c.at w') (h.ins g r') bb F a := by
  have hin : ∀ x rx, (h.ins g r') x = some rx → x ≠ g → h x = some rx := fun x rx hx hne => by rw [ins_ne _ _ _ _ hne] at hx; exact hx
  have hex : ∀ x rx, (h.ins g r') x = some rx → ∃ rx', h x = some rx' := fun x rx hx => by
    by_cases e : x = g
    · subst e; exact ⟨r, hg⟩
    · exact ⟨rx, hin x rx hx e⟩
  refine st.step ⟨hev, fun b' hb' hnb => hw b' fun e => hnb ⟨g, r, hg, e ▸ hφ⟩, fun _ _ _ _ hz => hz, fun b' _ hd => ?_⟩ ⟨st.ok.fin, fun g' b' hb' => Nat.lt_of_lt_of_le (st.ok.φlt g' b' hb') hev.size, fun b' o' hz => Nat.lt_of_lt_of_le (st.ok.zlt b' o' hz) hev.size⟩ ⟨fun x rx hx => ?_, fun x1 x2 r1 r2 b' k1 k2 k3 k4 => ?_, fun N hN x hx => ?_⟩
  · obtain ⟨x, rx, hx, hφx⟩ := hd
    obtain ⟨rx', hx'⟩ := hex x rx hx
    exact ⟨x, rx', hx', hφx⟩
  · by_cases e : x = g
    · subst e
      rw [ins_self] at hx
      injection hx with hx
      subst hx
      exact hrow
    · refine (st.hs.row x rx (hin x rx hx e)).mono hev fun b' hb' => ⟨?_, fun _ hz => hz⟩
      exact hw b' fun e' => e (st.hs.inj x g rx r b (hin x rx hx e) hg (e' ▸ hb') hφ)
  · obtain ⟨_, k1⟩ := hex _ _ k1
    obtain ⟨_, k2⟩ := hex _ _ k2
    exact st.hs.inj _ _ _ _ _ k1 k2 k3 k4
  · rw [H.ins, H.upd_nx] at hN
    exact st.hs.nxt N hN x hx

/-- A row's block changes, and the row is forgotten. -/
theorem St.delAny (st : St c0 h0 n c h bb F a) {g b : Nat} {r : GRow} (hg : h g = some r) (hφ : c.φ g = some (some b)) {w' : World} (hev : Evo c (c.at w')) (hw : ∀ b', b' ≠ b → w'.heap[b']? = c.w.heap[b']?) :
    St c0 h0 n (c.at w') (h.del g) bb F a := by
  have hin : ∀ x rx, (h.del g) x = some rx → x ≠ g ∧ h x = some rx := fun x rx hx => by
    by_cases e : x = g
    · subst e; rw [del_self] at hx; cases hx
    · rw [del_ne _ _ _ e] at hx; exact ⟨e, hx⟩
  refine st.step ⟨hev, fun b' hb' hnb => hw b' fun e => hnb ⟨g, r, hg, e ▸ hφ⟩, fun _ _ _ _ hz => hz, fun b' _ hd => ?_⟩ ⟨st.ok.fin, fun g' b' hb' => Nat.lt_of_lt_of_le (st.ok.φlt g' b' hb') hev.size, fun b' o' hz => Nat.lt_of_lt_of_le (st.ok.zlt b' o' hz) hev.size⟩ ⟨fun x rx hx => ?_, fun x1 x2 r1 r2 b' k1 k2 k3 k4 => ?_, fun N hN x hx => ?_⟩
  · obtain ⟨x, rx, hx, hφx⟩ := hd
    exact ⟨x, rx, (hin x rx hx).2, hφx⟩
  · obtain ⟨e, hx⟩ := hin x rx hx
    refine (st.hs.row x rx hx).mono hev fun b' hb' => ⟨?_, fun _ hz => hz⟩
    exact hw b' fun e' => e (st.hs.inj x g rx r b hx hg (e' ▸ hb') hφ)
  · exact st.hs.inj _ _ _ _ _ (hin _ _ k1).2 (hin _ _ k2).2 k3 k4
  · rw [H.del, H.upd_nx] at hN
    exact st.hs.nxt N hN x hx

/-- The world behind a turn of a map's block. -/
def World.setO (w : World) (b : Nat) (ob : Obj) : World := { w with heap := w.heap.setIfInBounds b ob }
theorem evo_setMap {b : Nat} {es : Array MapEntry} {k : Nat} (hb : c.w.heap[b]? = some (.map es k)) (es' : Array MapEntry) (k' : Nat) : Evo c (c.at (World.setO c.w b (.map es' k'))) := by
  have hne : ∀ b', b' ≠ b → (World.setO c.w b (.map es' k')).heap[b']? = c.w.heap[b']? := fun b' hn => by
    simp only [World.setO]; rw [Array.getElem?_setIfInBounds_ne (Ne.symm hn)]
  have hlt : b < c.w.heap.size := (Array.getElem?_eq_some_iff.1 hb).1
  have hat : (World.setO c.w b (.map es' k')).heap[b]? = some (.map es' k') := by simp [World.setO, hlt]
  refine ⟨fun b' o hz => ?_, fun _ _ hz => hz, fun _ _ h => h, fun b' s hs => ?_, by simp [Cfg.at, World.setO], rfl, rfl, rfl⟩
  · by_cases e : b' = b
    · subst e
      simp [Cfg.at, World.cell?, hat, hb]
    · simp only [Cfg.at, World.cell?, hne b' e]
  · by_cases e : b' = b
    · subst e
      simp [World.shape?, hb] at hs
    · show World.shape? (World.setO c.w b (.map es' k')) b' = some s
      unfold World.shape? at hs ⊢
      rw [hne b' e]; exact hs
theorem setO_ne {w : World} {b b' : Nat} {ob : Obj} (hn : b' ≠ b) : (World.setO w b ob).heap[b']? = w.heap[b']? := by
  simp only [World.setO]; rw [Array.getElem?_setIfInBounds_ne (Ne.symm hn)]
theorem setO_at {w : World} {b : Nat} {ob ob' : Obj} (hb : w.heap[b]? = some ob') : (World.setO w b ob).heap[b]? = some ob := by
  simp [World.setO, (Array.getElem?_eq_some_iff.1 hb).1]
end
end Go.AM
/- Operations beyond the first ones, 2: variables that lie in the abstract heap from the beginning, interfaces, fields, builders, slices. -/
set_option linter.unusedVariables false
set_option linter.unusedSimpArgs false
namespace Go.AM
open Go

/-- What a program has of them: hp: types whose variables lie in the abstract heap at once; bT, bP: strings.Builder and its pointer; uP: unsafe.Pointer; byS: []byte; u8, u8P: its elements and their pointer; meths: methods that are called through interfaces (the dynamic type, the name, the function, and, where the receiver is loaded, its type). -/
structure XP where
  hp : List Nat
  bT : Nat
  bP : Nat
  uP : Nat
  byS : Nat
  u8 : Nat
  u8P : Nat
  meths : List (Nat × String × Nat × Option Nat)

noncomputable def ptrOf (X : XP) (g sz e : Nat) : V :=
  match Nat.beq e X.bT with
  | true => .bp g sz e
  | false => .gptr g sz 0 0
noncomputable def xNew (X : XP) (n : Nat) (o : Oper) (e : Nat) (cs : List V) (F : Fr) (h : H) (K : Fr → H → Prop) : Prop :=
  match cellL cs, cs with
  | true, _ :: _ => forceL cs fun cs => forceN (len cs) fun sz => newK h ⟨sz, 0, [cs], 0⟩ fun g h => put n F o.dst (ptrOf X g sz e) fun F => K F h
  | _, _ => False

/-- A type that is no interface's. -/
noncomputable def plainT : TI → Bool
  | .one z => match z with
    | .i _ _ => true
    | .s _ => true
    | .ff => true
    | _ => false
  | .st _ _ => true
  | .sl _ _ _ => true
  | .pt => true
  | _ => false
noncomputable def opMkI (tt : TT) (F : Fr) (h : H) (t : TypeId) (x : Operand) (KV : V → H → Prop) : Prop :=
  match plainT (tt t) with
  | true => force (ev F x) fun v => match port v with
    | true => KV (.ifc t v) h
    | false => False
  | false => False
noncomputable def opTyA (tt : TT) (F : Fr) (h : H) (t : TypeId) (x : Operand) (ok : Bool) (KV : V → H → Prop) : Prop :=
  match plainT (tt t) with
  | true => match ev F x with
    | .ifc t' v => match Nat.beq t' t with
      | true => match ok with
        | true => KV (.tup [v, .tt]) h
        | false => force v fun v => KV v h
      | false => False
    | _ => False
  | false => False
noncomputable def opField (P : Program) (tt : TT) (F : Fr) (h : H) (t : TypeId) (x : Operand) (f : Nat) (KV : V → H → Prop) : Prop :=
  match P.underlying t with
  | some (.struct fs) => match fs[f]? with
    | some fld => match ev F x with
      | .agg cs => loadC (tt fld.type) cs fld.offset fun v => KV v h
      | _ => False
    | none => False
  | _ => False
noncomputable def opIdxA (P : Program) (tt : TT) (F : Fr) (h : H) (t : TypeId) (x ix : Operand) (KV : V → H → Prop) : Prop :=
  match P.underlying t with
  | some (.array m e) => match tt t with
    | .ar m' esz _ => match ev F x, ev F ix with
      | .agg cs, .i _ a => chk h.md (0 ≤ a ∧ a < m) (forceNm h.md (a.toNat * esz) fun off => loadC (tt e) cs off fun v => KV v h)
      | _, _ => False
    | _ => False
  | _ => opIndex tt F h t x ix KV
/-- unsafe.Pointer to and fro. -/
noncomputable def opConvU (X : XP) (F : Fr) (h : H) (src dst : TypeId) (x : Operand) (KV : V → H → Prop) : Prop :=
  match ev F x with
  | .bp g sz ty => match Nat.beq ty X.bT, Nat.beq sz 2 with
    | true, true => match Nat.beq src X.bP, Nat.beq dst X.uP with
      | true, true => KV (.bp g sz ty) h
      | _, _ => match Nat.beq src X.uP, Nat.beq dst X.bP with
        | true, true => KV (.bp g sz ty) h
        | _, _ => False
    | _, _ => False
  | _ => False
noncomputable def opSlX (tt : TT) (F : Fr) (h : H) (t : TypeId) (x : Operand) (lo hi mx : Option Operand) (KV : V → H → Prop) : Prop :=
  match mx with
  | some k => match tt t with
    | .sl esz _ _ => match ev F x, lo.map (ev F), hi.map (ev F), ev F k with
      | .gsl g sz off m, lo, some (.i _ b), .i _ k => match Nat.beq sz esz, (match lo with
        | none => some (0 : Int)
        | some (.i _ a) => some a
        | _ => none) with
        | true, some a => chk h.md (0 ≤ a ∧ a ≤ b ∧ b ≤ k ∧ k ≤ m) (match h.md with
          | true => match decide (k = a) with
            | true => KV (.emp sz) h
            | false => KV .dead h
          | false => (k = a → KV (.emp sz) h) ∧ (k ≠ a → KV .dead h))
        | _, _ => False
      | .lst sz es, lo, some (.i _ b), .i _ k => match Nat.beq sz esz, (match lo with
        | none => some (0 : Int)
        | some (.i _ a) => some a
        | _ => none) with
        | true, some a => chk h.md (0 ≤ a ∧ a ≤ b ∧ b ≤ k ∧ k ≤ es.length) (match h.md with
          | true => match decide (k = a) with
            | true => KV (.emp sz) h
            | false => KV .dead h
          | false => (k = a → KV (.emp sz) h) ∧ (k ≠ a → KV .dead h))
        | _, _ => False
      | _, _, _, _ => False
    | _ => False
  | none => match tt t, ev F x, hi.map (ev F) with
    | .sl esz _ _, .gsl g sz off m, some (.i _ b) => match h.md with
      | false => opSlice tt F h t x lo hi none KV
      | true => match decide (b ≤ (m : Int)) with
        | true => opSlice tt F h t x lo hi none KV
        | false => match Nat.beq sz esz, (match lo.map (ev F) with
          | none => some (0 : Int)
          | some (.i _ a) => some a
          | _ => none) with
          | true, some a => getR h g fun r => chk h.md (r.sz = sz ∧ 0 ≤ a ∧ a ≤ b ∧ off + b.toNat ≤ r.es.length ∧ (0 < m ∨ off = 0)) (forceNm h.md (off + a.toNat) fun off => forceNm h.md (b.toNat - a.toNat) fun m => KV (.gsl g sz off m) h)
          | _, _ => False
    | _, _, _ => opSlice tt F h t x lo hi none KV
/-- append: where it fits behind what a row holds; a slice without room; else as before. Rows of bytes know their type. -/
noncomputable def evAppX (X : XP) (t esz eb : Nat) (h : H) (x y : V) (K : V → H → Prop) : Prop :=
  match Nat.beq t X.byS with
  | true => evAppend X.u8 esz eb h x y K
  | false => match x with
    | .gsl g sz off n => match h.md with
      | false => evAppend 0 esz eb h x y K
      | true => elems h y esz fun ys => getR h g fun r => match Nat.beq sz esz && (Nat.ble 1 n || Nat.beq off 0) && Nat.ble (off + n + ys.length) r.es.length with
        | false => evAppend 0 esz eb h x y K
        | true => chk h.md (r.sz = esz ∧ r.fz ≤ off + n ∧ (r.es.length) * eb ≤ 140737488355328)
          (forceE (r.es.take (off + n) ++ ys ++ r.es.drop (off + n + ys.length)) fun es => forceH (h.ins g ⟨r.sz, r.fz, es, r.ty⟩) fun h => forceN (n + ys.length) fun m => K (.gsl g sz off m) h)
    | _ => evAppend 0 esz eb h x y K
/-- builtins over rows. -/
noncomputable def zeroE (z : List V) : Nat → List (List V) → List (List V)
  | 0, r => r
  | n + 1, r => z :: zeroE z n r
noncomputable def evClr (esz : Nat) (ez : List V) (h : H) (x : V) (KV : V → H → Prop) : Prop :=
  match x with
  | .nils => KV (.tup []) h
  | .gsl g sz off m => match Nat.beq sz esz with
    | true => match m with
      | 0 => KV (.tup []) h
      | m + 1 => getR h g fun r => chk h.md (r.sz = esz ∧ r.fz ≤ off ∧ off + (m + 1) ≤ r.es.length)
          (forceEm h.md (r.es.take off ++ zeroE ez (m + 1) (r.es.drop (off + (m + 1)))) fun es => forceH (h.ins g ⟨r.sz, r.fz, es, r.ty⟩) fun h => KV (.tup []) h)
    | false => False
  | _ => False
noncomputable def evUStr (X : XP) (h : H) (x : V) (m : Int) (KV : V → H → Prop) : Prop :=
  match x, m with
  | .nilp, .ofNat 0 => KV (.s []) h
  | .gptr _ _ _ _, .ofNat 0 => KV (.s []) h
  | .gptr g sz i off, .ofNat (m + 1) => match Nat.beq sz 1, i, off with
    | true, 0, 0 => getR h g fun r => chk h.md (r.sz = 1 ∧ r.ty = X.u8 ∧ m + 1 ≤ r.es.length) (unB h.md (r.es.take (m + 1)) fun l => forceH (h.del g) fun h => KV (.s l) h)
    | _, _, _ => False
  | _, _ => False
noncomputable def evBuiX (tt : TT) (X : XP) (b : Builtin) (ats : List TypeId) (vs : List V) (h : H) (KV : V → H → Prop) : Prop :=
  match b with
  | .append => match ats, vs with
    | [t, t'], [x, y] => match tt t with
      | .sl esz eb _ => match Nat.ble 1 eb with
        | true => match tt t' with
          | .one (.s _) => evAppX X t esz eb h x y KV
          | .sl _ _ _ => evAppX X t esz eb h x y KV
          | _ => False
        | false => False
      | _ => False
    | _, _ => False
  | .clear => match ats, vs with
    | [t], [x] => match tt t with
      | .sl esz _ ez => evClr esz ez h x KV
      | _ => False
    | _, _ => False
  | .unsafeSliceData => match vs with
    | [x] => match x with
      | .nils => KV .nilp h
      | .gsl g sz off m => match m with
        | 0 => False
        | _ + 1 => KV (.gptr g sz off 0) h
      | _ => False
    | _ => False
  | .unsafeString => match ats, vs with
    | [pt, _], [x, .i .i64 m] => match Nat.beq pt X.u8P with
      | true => evUStr X h x m KV
      | false => False
    | _, _ => False
  | _ => False
end Go.AM
