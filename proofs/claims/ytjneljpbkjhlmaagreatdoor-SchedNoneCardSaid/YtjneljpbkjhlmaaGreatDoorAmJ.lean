/- From data that is read in memory to values of the machine; from a call of the machine to a law's row. -/
import Derived.Test.YtjneljpbkjhlmaaGreatDoorAmH
import Derived.OpenVars
import Derived.ChangeSame
import Derived.Test.YtjneljpbkjhlmaaGreatDoorAmI
import Derived.Below
import Derived.Carry
set_option linter.unusedVariables false
set_option linter.unusedSimpArgs false
set_option linter.unnecessarySimpa false
set_option linter.unusedSectionVars false
set_option linter.unusedVariables false
set_option linter.unusedSimpArgs false
namespace Go.AM
open Go Go.RowKit

/-- Types of plain data. -/
inductive Ty where
  | int (k : IntKind)
  | bool
  | str
  | sl (sz : Nat) (t : Ty)
  | st (n : Nat) (ts : List Ty)

/-- How many cells. -/
def Ty.sz : Ty → Nat
  | .st n _ => n
  | _ => 1
mutual
/-- Cells of a type. -/
inductive Typed : Ty → List V → Prop
  | int (k : IntKind) (n : Int) (h : (Lit.int k n).wf = true) : Typed (.int k) [.i k n]
  | bool (b : Bool) : Typed .bool [.b b]
  | str (l : List UInt8) (h : l.length ≤ maxLen) : Typed .str [.s l]
  | sl (t : Ty) (es : List (List V)) (hl : es.length ≤ maxLen) (h : ∀ cs ∈ es, Typed t cs) : Typed (.sl t.sz t) [.lst t.sz es]
  | st (n : Nat) (ts : List Ty) (vs : List V) (h : TypedL ts vs) (hn : vs.length = n) : Typed (.st n ts) vs
inductive TypedL : List Ty → List V → Prop
  | nil : TypedL [] []
  | cons (t : Ty) (ts : List Ty) (us vs : List V) (h : Typed t us) (hs : TypedL ts vs) : TypedL (t :: ts) (us ++ vs)
end

theorem Typed.len {t : Ty} {vs : List V} (h : Typed t vs) : vs.length = t.sz := by
  cases h with
  | st n ts vs h hn => exact hn
  | _ => rfl
mutual
theorem Typed.cell {t : Ty} {vs : List V} (h : Typed t vs) : ∀ v ∈ vs, cell1 v = true := by
  cases h with
  | int k n _ => intro v hv; simp at hv; subst hv; rfl
  | bool b => intro v hv; simp at hv; subst hv; rfl
  | str l _ => intro v hv; simp at hv; subst hv; rfl
  | sl t es _ _ => intro v hv; simp at hv; subst hv; rfl
  | st n ts vs h _ => exact h.cell
theorem TypedL.cell {ts : List Ty} {vs : List V} (h : TypedL ts vs) : ∀ v ∈ vs, cell1 v = true := by
  cases h with
  | nil => intro v hv; cases hv
  | cons t ts us vs h hs =>
    intro v hv
    rcases List.mem_append.1 hv with hv | hv
    · exact h.cell v hv
    · exact hs.cell v hv
end
theorem cellL_of {vs : List V} (h : ∀ v ∈ vs, cell1 v = true) : cellL vs = true := by
  induction vs with
  | nil => rfl
  | cons v r ih => simp only [cellL]; rw [h v (by simp)]; exact ih fun v hv => h v (by simp [hv])

mutual
/-- Is a type of the program laid out so? -/
def tyB (P : Program) (t : TypeId) : Ty → Bool
  | .int k => match P.underlying t with
    | some (.int k') => decide (k' = k) && Nat.beq (P.cellsOf t) 1
    | _ => false
  | .bool => match P.underlying t with
    | some .bool => Nat.beq (P.cellsOf t) 1
    | _ => false
  | .str => match P.underlying t with
    | some .string => Nat.beq (P.cellsOf t) 1
    | _ => false
  | .sl sz ty => match P.underlying t with
    | some (.slice e) => Nat.beq (P.cellsOf t) 1 && Nat.beq sz ty.sz && Nat.beq (P.cellsOf e) sz && Nat.blt 0 sz && tyB P e ty
    | _ => false
  | .st n ts => match P.underlying t with
    | some (.struct fs) => Nat.beq (P.cellsOf t) n && tyF P 0 n fs.toList ts
    | _ => false
def tyF (P : Program) (off n : Nat) : List Field → List Ty → Bool
  | [], [] => Nat.beq off n
  | f :: fs, ty :: ts => Nat.beq f.offset off && Nat.beq (P.cellsOf f.type) ty.sz && tyB P f.type ty && tyF P (off + ty.sz) n fs ts
  | _, _ => false
end

section
variable {H : Type} {enc : TypeId × Value → H} {P : Program} {W : World}

/-- What is read in a world whose cells nobody writes. -/
def cfg0 (W : World) : Cfg := ⟨W, fun b _ => b < W.heap.size, fun _ => none⟩

theorem mapM_get {α β : Type} {f : α → Option β} : ∀ {l : List α} {r : List β}, l.mapM f = some r → r.length = l.length ∧ ∀ (i : Nat) (x : α), l[i]? = some x → ∃ y, r[i]? = some y ∧ f x = some y := by
  intro l
  induction l with
  | nil => intro r h; simp at h; subst h; exact ⟨rfl, by simp⟩
  | cons x xs ih =>
    intro r h
    rw [List.mapM_cons] at h
    cases hx : f x with
    | none => simp [hx] at h
    | some y =>
      cases hr : xs.mapM f with
      | none => simp [hx, hr] at h
      | some ys =>
        simp [hx, hr] at h
        subst h
        obtain ⟨h1, h2⟩ := ih hr
        refine ⟨by simp [h1], fun i z hi => ?_⟩
        cases i with
        | zero => simp at hi; subst hi; exact ⟨y, rfl, hx⟩
        | succ i => simpa using h2 i z (by simpa using hi)

theorem choose_list {α : Type} {Q : Nat → α → Prop} : ∀ (n : Nat), (∀ i, i < n → ∃ x, Q i x) → ∃ l : List α, l.length = n ∧ ∀ i x, l[i]? = some x → Q i x := by
  intro n
  induction n with
  | zero => intro _; exact ⟨[], rfl, by simp⟩
  | succ n ih =>
    intro h
    obtain ⟨l, h1, h2⟩ := ih fun i hi => h i (by omega)
    obtain ⟨x, hx⟩ := h n (by omega)
    refine ⟨l ++ [x], by simp [h1], fun i y hi => ?_⟩
    rw [List.getElem?_append] at hi
    split at hi
    · exact h2 i y hi
    · rename_i hge
      have : i = n := by
        have := (List.getElem?_eq_some_iff.1 hi).1
        simp at this; omega
      subst this
      simp [h1] at hi
      subst hi
      exact hx

theorem addr_add (a : Addr) (n m : Nat) : (a.add n).add m = a.add (n + m) := by
  unfold Addr.add
  by_cases h : n = 0 <;> by_cases k : m = 0 <;> simp_all [Nat.add_assoc]
/-- Reading goes typed, and gives values of the machine. -/
theorem trod_RV {sp : Nat → Bool} {held : Bool} : ∀ (n : Nat) (ty : Ty) (t : TypeId) (cs : List Value) (x : DataW H × List MemPlace), tyB P t ty = true → DataW.trod enc P W 0 sp held n t cs = some x → cs.length = ty.sz →
    ∃ vs, Typed ty vs ∧ RVs (cfg0 W) vs cs := by
  intro n
  induction n with
  | zero => intro ty t cs x hb h; cases h
  | succ n ih =>
    intro ty t cs x hb h hl
    rw [DataW.trod_step] at h
    have single : ty.sz = 1 → ∃ v, cs = [v] := fun h1 => by
      match cs, (hl.trans h1) with
      | [v], _ => exact ⟨v, rfl⟩
    cases ty with
    | int k =>
      simp only [tyB] at hb
      split at hb
      case h_2 => cases hb
      rename_i k' hu
      simp only [Bool.and_eq_true, decide_eq_true_eq] at hb
      obtain ⟨rfl, _⟩ := hb
      obtain ⟨v, rfl⟩ := single rfl
      cases v <;> simp [DataW.trodStep, hu] at h
      rename_i k2 n2
      obtain ⟨⟨rfl, hw⟩, _⟩ := h
      exact ⟨_, .int _ n2 hw, RVs.cons (.i _ n2) (RVs.nil _)⟩
    | bool =>
      simp only [tyB] at hb
      split at hb
      case h_2 => cases hb
      rename_i hu
      obtain ⟨v, rfl⟩ := single rfl
      cases v <;> simp [DataW.trodStep, hu] at h
      exact ⟨_, .bool _, RVs.cons (.b _) (RVs.nil _)⟩
    | str =>
      simp only [tyB] at hb
      split at hb
      case h_2 => cases hb
      rename_i hu
      obtain ⟨v, rfl⟩ := single rfl
      cases v <;> simp [DataW.trodStep, hu] at h
      rename_i s
      refine ⟨[.s s.data.toList], .str _ (by simpa using h.1), RVs.cons ?_ (RVs.nil _)⟩
      have : s = ⟨s.data.toList.toArray⟩ := by cases s; simp
      conv => rhs; rw [this]
      exact .s _
    | sl sz ty =>
      simp only [tyB] at hb
      split at hb
      case h_2 => cases hb
      rename_i e hu
      simp only [Bool.and_eq_true] at hb
      obtain ⟨⟨⟨⟨_, h2⟩, h3⟩, h4⟩, h5⟩ := hb
      have h2 := beq_of h2
      have h3 := beq_of h3
      have h4 : 0 < sz := Nat.le_of_ble_eq_true h4
      subst h2
      obtain ⟨v, rfl⟩ := single rfl
      cases v <;> simp only [DataW.trodStep, hu] at h <;> first | cases h; done | skip
      rename_i ad len cap
      cases ad with
      | none =>
        refine ⟨[.lst ty.sz []], .sl ty [] (by simp) (by simp), RVs.cons ?_ (RVs.nil _)⟩
        cases len <;> cases cap <;> simp at h
        exact .lst0 _ _ _
      | some ad =>
        simp only at h
        split at h
        case isFalse => cases h
        rename_i hc
        obtain ⟨_, hlc, hcm⟩ := hc
        cases hm : (List.range len).mapM (fun i => (W.cells? 0 (ad.add (i * P.cellsOf e)) (P.cellsOf e)).bind (DataW.trod enc P W 0 sp held n e)) with
        | none => simp [hm] at h
        | some elems =>
          obtain ⟨g1, g2⟩ := mapM_get hm
          have hel : ∀ i, i < len → ∃ us : List V, Typed ty us ∧ ∀ (j : Nat) (v : V), us[j]? = some v → ∃ y, W.cell? (ad.add (i * ty.sz + j)) = some y ∧ RV (cfg0 W) v y := fun i hi => by
            obtain ⟨y, _, hy⟩ := g2 i i (by simp [hi])
            rw [h3] at hy
            cases hcs : W.cells? 0 (ad.add (i * ty.sz)) ty.sz with
            | none => simp [hcs] at hy
            | some us0 =>
              simp only [hcs, Option.bind_some] at hy
              obtain ⟨_, hlen, hget⟩ := World.cells?_some hcs
              obtain ⟨us, k1, k2⟩ := ih ty e us0 y h5 hy hlen
              refine ⟨us, k1, fun j v hj => ?_⟩
              have hjl : j < us0.length := by rw [← k2.len]; exact (List.getElem?_eq_some_iff.1 hj).1
              refine ⟨us0[j], ?_, k2.at_ j v _ hj (List.getElem?_eq_getElem hjl)⟩
              have h6 := hget j (by omega)
              rw [List.getElem?_eq_getElem hjl] at h6
              rw [← h6, addr_add]
          obtain ⟨es, e1, e2⟩ := choose_list len hel
          have hty : ∀ cs ∈ es, Typed ty cs := fun cs hcs => by
            obtain ⟨i, hi⟩ := List.mem_iff_getElem?.1 hcs
            exact (e2 i cs hi).1
          refine ⟨[.lst ty.sz es], .sl ty es (by omega) hty, RVs.cons ?_ (RVs.nil _)⟩
          by_cases h0 : len = 0
          · have : es = [] := List.eq_nil_of_length_eq_zero (by omega)
            subst this
            subst h0
            exact .lst0 _ _ _
          · obtain ⟨us, k1, k2⟩ := hel 0 (by omega)
            have hsp : ad.spot = none := by
              have hus : 0 < us.length := by rw [k1.len]; exact h4
              obtain ⟨y, hy, _⟩ := k2 0 us[0] (List.getElem?_eq_getElem hus)
              have := World.cell?_spot hy
              simpa [Addr.add] using this
            obtain ⟨b, off, spot⟩ := ad
            simp only at hsp
            subst hsp
            have hlen' : es.length = len := e1
            subst hlen'
            refine .lst ty.sz es b off cap (fun i cs hi => (e2 i cs hi).1.len) ⟨hlc, by omega⟩ (fun i cs hi => cellL_of (e2 i cs hi).1.cell) (fun i cs j v hi hj => ?_) (fun i cs j v x hi hj hx => ?_)
            · obtain ⟨y, hy, _⟩ := (e2 i cs hi).2 j v hj
              rw [add_lit', ← Nat.add_assoc] at hy
              exact ⟨cell_lt hy, y, hy⟩
            · obtain ⟨y, hy, hv⟩ := (e2 i cs hi).2 j v hj
              rw [add_lit', ← Nat.add_assoc] at hy
              have : some y = some x := hy.symm.trans hx
              injection this with this
              exact this ▸ hv
    | st n' ts =>
      simp only [tyB] at hb
      split at hb
      case h_2 => cases hb
      rename_i fs hu
      simp only [Bool.and_eq_true] at hb
      obtain ⟨h1, h2⟩ := hb
      have h1 := beq_of h1
      have hstep : ∃ ys, fs.toList.mapM (fun f => DataW.trod enc P W 0 sp held n f.type ((cs.drop f.offset).take (P.cellsOf f.type))) = some ys := by
        simp only [DataW.trodStep, hu] at h
        split at h
        · cases hm : fs.toList.mapM (fun f => DataW.trod enc P W 0 sp held n f.type ((cs.drop f.offset).take (P.cellsOf f.type))) with
          | none => simp [hm] at h
          | some ys => exact ⟨ys, rfl⟩
        · cases h
      obtain ⟨ys, hys⟩ := hstep
      have hl' : cs.length = n' := hl
      have key : ∀ (fl : List Field) (tl : List Ty) (off : Nat) (zs : List (DataW H × List MemPlace)), tyF P off n' fl tl = true → fl.mapM (fun f => DataW.trod enc P W 0 sp held n f.type ((cs.drop f.offset).take (P.cellsOf f.type))) = some zs →
          ∃ vs, TypedL tl vs ∧ vs.length + off = n' ∧ RVs (cfg0 W) vs (cs.drop off) := by
        intro fl
        induction fl with
        | nil =>
          intro tl off zs ht _
          cases tl with
          | nil =>
            simp only [tyF] at ht
            have := beq_of ht
            refine ⟨[], .nil, by simpa using this, ?_⟩
            rw [List.drop_eq_nil_of_le (by omega)]
            exact RVs.nil _
          | cons => cases ht
        | cons f fl ihf =>
          intro tl off zs ht hm
          cases tl with
          | nil => cases ht
          | cons ty tl =>
            simp only [tyF, Bool.and_eq_true] at ht
            obtain ⟨⟨⟨q1, q2⟩, q3⟩, q4⟩ := ht
            have q1 := beq_of q1
            have q2 := beq_of q2
            rw [List.mapM_cons] at hm
            cases hx : DataW.trod enc P W 0 sp held n f.type ((cs.drop f.offset).take (P.cellsOf f.type)) with
            | none => simp [hx] at hm
            | some y =>
              cases hr : fl.mapM (fun f => DataW.trod enc P W 0 sp held n f.type ((cs.drop f.offset).take (P.cellsOf f.type))) with
              | none => simp [hx, hr] at hm
              | some zs' =>
                obtain ⟨vs, k1, k2, k3⟩ := ihf tl (off + ty.sz) zs' q4 hr
                have hcut : ((cs.drop f.offset).take (P.cellsOf f.type)).length = ty.sz := by
                  simp; omega
                obtain ⟨us, j1, j2⟩ := ih ty f.type _ y q3 hx hcut
                refine ⟨us ++ vs, .cons ty tl us vs j1 k1, by rw [List.length_append, j1.len]; omega, ?_⟩
                have hsplit : cs.drop off = (cs.drop f.offset).take (P.cellsOf f.type) ++ cs.drop (off + ty.sz) := by
                  rw [q1, q2, ← List.drop_drop, List.take_append_drop]
                rw [hsplit]
                exact j2.append k3
      obtain ⟨vs, k1, k2, k3⟩ := key fs.toList ts 0 ys h2 hys
      exact ⟨vs, .st n' ts vs k1 (by omega), by simpa using k3⟩
end
end Go.AM
/- A law's call, from its arguments' data. -/
set_option linter.unusedVariables false
set_option linter.unusedSimpArgs false
namespace Go.AM
open Go Go.RowKit

/-- An argument of a type. -/
def Arg : Ty → V → Prop
  | .st n ts, v => ∃ vs, Typed (.st n ts) vs ∧ v = .agg vs
  | ty, v => Typed ty [v]
def Args : List Ty → List V → Prop
  | [], [] => True
  | ty :: ts, v :: vs => Arg ty v ∧ Args ts vs
  | _, _ => False
/-- Are the parameters laid out so? -/
def tyL (P : Program) : List TypeId → List Ty → Bool
  | [], [] => true
  | t :: ts, ty :: tys => tyB P t ty && tyL P ts tys
  | _, _ => false

section
variable {H : Type} {enc : TypeId × Value → H} {P : Program} {W : World}

theorem arg_RV {sp : Nat → Bool} {held : Bool} {ty : Ty} {t : TypeId} {v : Value} {d : DataW H} {p : List MemPlace} {r : Reach} {base : Nat} (hb : tyB P t ty = true) (hok : Value.okWide P W r base t v) (hd : DataW.Trod enc P W 0 sp held t v d p) :
    ∃ u, Arg ty u ∧ RV (cfg0 W) u v := by
  obtain ⟨fuel, hd⟩ := hd
  have one : (∀ cs, v ≠ .agg cs) → ty.sz = 1 → ∃ u, Typed ty [u] ∧ RV (cfg0 W) u v := fun hna hs => by
    have hc : v.cells.toList = [v] := by cases v <;> first | rfl | exact absurd rfl (hna _)
    rw [hc] at hd
    obtain ⟨vs, h1, h2⟩ := trod_RV fuel ty t [v] _ hb hd hs.symm
    match vs, h2.len with
    | [u], _ => exact ⟨u, h1, h2.head⟩
  cases ty with
  | int k =>
    simp only [tyB] at hb
    split at hb
    case h_2 => cases hb
    rename_i k' hu
    obtain ⟨n, rfl⟩ := WideShapes.okWide_int hu hok
    exact one (fun cs e => by cases e) rfl
  | bool =>
    simp only [tyB] at hb
    split at hb
    case h_2 => cases hb
    rename_i hu
    obtain ⟨n, rfl⟩ := WideShapes.okWide_bool hu hok
    exact one (fun cs e => by cases e) rfl
  | str =>
    simp only [tyB] at hb
    split at hb
    case h_2 => cases hb
    rename_i hu
    obtain ⟨n, rfl⟩ := WideShapes.okWide_string hu hok
    exact one (fun cs e => by cases e) rfl
  | sl sz ty =>
    simp only [tyB] at hb
    split at hb
    case h_2 => cases hb
    rename_i e hu
    obtain ⟨a, l, c, rfl⟩ := WideShapes.okWide_slice hu hok
    exact one (fun cs e => by cases e) rfl
  | st n ts =>
    have hb0 := hb
    simp only [tyB] at hb
    split at hb
    case h_2 => cases hb
    rename_i fs hu
    simp only [Bool.and_eq_true] at hb
    simp only [Value.okWide, hu] at hok
    obtain ⟨cs, rfl, hsz, _⟩ := hok
    have hn := beq_of hb.1
    obtain ⟨vs, h1, h2⟩ := trod_RV fuel (.st n ts) t cs.toList _ hb0 hd (by simpa [Ty.sz] using hsz.trans hn)
    exact ⟨.agg vs, ⟨vs, h1, rfl⟩, by simpa using RV.agg' h2⟩

theorem args_RV {sp : Nat → Bool} {held : Bool} : ∀ (tys : List Ty) (ts : List TypeId) (vs : List Value) (ds : List (DataW H)) (ps : List MemPlace), tyL P ts tys = true → DataW.TrodAll enc P W 0 sp held ts vs ds ps →
    (∀ (j : Nat) t v, ts[j]? = some t → vs[j]? = some v → ∃ r base, Value.okWide P W r base t v) → ∃ us, Args tys us ∧ RVs (cfg0 W) us vs
  | [], [], [], _, _, _, _, _ => ⟨[], trivial, RVs.nil _⟩
  | [], [], _ :: _, _, _, _, h, _ => by cases ‹List (DataW H)› <;> exact h.elim
  | ty :: tys, t :: ts, [], _, _, _, h, _ => by cases ‹List (DataW H)› <;> exact h.elim
  | ty :: tys, t :: ts, v :: vs, ds, ps, hb, h, ho => by
    simp only [tyL, Bool.and_eq_true] at hb
    cases ds with
    | nil => exact h.elim
    | cons d ds =>
      obtain ⟨p, q, h1, h2, _⟩ := h
      obtain ⟨r, base, ho1⟩ := ho 0 t v rfl rfl
      obtain ⟨u, k1, k2⟩ := arg_RV hb.1 ho1 h1
      obtain ⟨us, k3, k4⟩ := args_RV tys ts vs ds q hb.2 h2 fun j t v e1 e2 => ho (j + 1) t v (by simpa using e1) (by simpa using e2)
      exact ⟨u :: us, ⟨k1, k3⟩, RVs.cons k2 k4⟩
  | [], _ :: _, _, _, _, hb, _, _ => nomatch hb
  | _ :: _, [], _, _, _, hb, _, _ => nomatch hb

/-- The call, in the model's own terms. -/
theorem calls_of {f : Nat} {us : List V} {xs : List Value} {q : Value → Prop} {Q : V → Prop} (he : Ent P f) (k : ACalls P f us (.sy fun _ => none) (fun v h' => h' = .sy (fun _ => none) ∧ Q v)) (hr : RVs (cfg0 W) us xs)
    (hq : ∀ (c : Cfg) (v : V) (x : Value), RV c v x → Q v → q x) : Calls P f xs.toArray W fun e W' => ∃ x, e = .returned x ∧ q x ∧ Below W.heap.size W W' := by
  have hc : CfgOk (cfg0 W) := ⟨⟨0, fun _ _ => rfl⟩, fun g b e => (nomatch e), fun b o h => h⟩
  have hh : HSim (cfg0 W) (.sy fun _ => none) := ⟨fun g r e => (nomatch e), fun g g' r r' b e => (nomatch e), fun N e => (nomatch e)⟩
  rcases k.out (cfg0 W) xs hc hh hr with ⟨_, h⟩ | ⟨c', v, x, h', h1, _⟩
  · refine h.mono fun e w' ⟨c', v, x, h', e1, e2, _, _, e5, e6, _, e8⟩ => ⟨x, e2, hq c' v x e5 e8, ?_⟩
    subst e1
    exact ⟨e6.evo.os, e6.evo.tape, e6.evo.output, e6.evo.size, fun b hb => e6.blk b hb fun ⟨g, r, _, e⟩ => (nomatch e)⟩
  · rw [run_callFunc (cfg0 W).w he] at h1
    cases h1
end
end Go.AM
/- A law that answers true: from its call in the machine's terms to the row's contract. -/
set_option linter.unusedVariables false
set_option linter.unusedSimpArgs false
namespace Go.AM
open Go Go.RowKit

section
variable {H : Type} {enc : TypeId × Value → H} {P : Program} {W W' : World}

theorem trodAll_below (hl : laidOutB P = true) (hb : Below W.heap.size W W') : ∀ (ts : List TypeId) (vs : List Value) (ds : List (DataW H)) (ps : List MemPlace), (∀ t ∈ ts, P.readableRec t = true ∧ t < P.types.size) →
    DataW.TrodAll enc P W 0 (fun _ => true) true ts vs ds ps → (∀ x ∈ ps, x.block < W.heap.size) → DataW.TrodAll enc P W' 0 (fun b => decide (b < W.heap.size)) true ts vs ds ps ∧ ds.length = ts.length
  | [], [], [], _, _, h, _ => ⟨h, rfl⟩
  | [], [], _ :: _, _, _, h, _ => h.elim
  | [], _ :: _, ds, _, _, h, _ => by cases ds <;> exact h.elim
  | _ :: _, [], ds, _, _, h, _ => by cases ds <;> exact h.elim
  | _ :: _, _ :: _, [], _, _, h, _ => h.elim
  | t :: ts, v :: vs, d :: ds, ps, ht, ⟨p, q, h1, h2, e⟩, hlt => by
    subst e
    obtain ⟨k1, k2⟩ := trodAll_below hl hb ts vs ds q (fun t h => ht t (List.mem_cons_of_mem _ h)) h2 fun x hx => hlt x (List.mem_append_right _ hx)
    exact ⟨⟨p, q, Below.trod hl (ht t (List.mem_cons_self ..)).1 (ht t (List.mem_cons_self ..)).2 h1 hb fun x hx => hlt x (List.mem_append_left _ hx), k1, rfl⟩, by simp [k2]⟩

theorem kept_of_below (hb : Below W.heap.size W W') (may : MemPlace → Prop) : W.keptBut W' may :=
  ⟨hb.os, hb.output, fun i hi => by rw [hb.block i hi]; exact (World.keptBut_refl W may).2.2 i hi⟩

theorem law_contract {f : Nat} {fn : Func} {s : ChangeSpec} {tys : List Ty} {tb : TypeId} (he : Ent P f) (hty : tyL P fn.params.toList tys = true) (hl : laidOutB P = true) (hrd : ∀ t ∈ fn.params.toList, P.readableRec t = true ∧ t < P.types.size)
    (hv : s.vars = []) (hrt : fn.resultTypes = #[tb]) (hub : P.underlying tb = some .bool) (hs : ∀ ds : List (DataW H), ds.length = fn.params.toList.length → s.fn H ds = { results := [.lit (.bool true)], args := ds })
    (law : ∀ us, Args tys us → ACalls P f us (.sy fun _ => none) fun v h' => h' = .sy (fun _ => none) ∧ bvI v true)
    {base : Nat} {args : Array Value} {ds gs : List (DataW H)} {before : List MemPlace} (hval : ∀ (j : Nat) t v, fn.params[j]? = some t → args[j]? = some v → Value.okWide P W .any base t v)
    (hW : DataW.Whole enc P fn.params.toList s.vars false W args.toList ds gs before) :
    Calls P f args W fun e W' => ∃ v, e = .returned v ∧ s.post enc P fn false true false false W args v W' := by
  have hW0 := hW
  have hlt : ∀ x ∈ before, x.block < W.heap.size := fun x hx => hW.lt x hx
  obtain ⟨p, q, hA, hV, rfl, hfz, hnd⟩ := hW
  rw [hv] at hV
  obtain ⟨rfl, rfl⟩ := ChangeShapes.trodVars_none hV
  obtain ⟨us, h1, h2⟩ := args_RV tys fn.params.toList args.toList ds p hty hA fun j t v e1 e2 => ⟨.any, base, hval j t v (by simpa using e1) (by simpa using e2)⟩
  have hc := calls_of (q := fun x => x = .bool true) he (law us h1) h2 fun c v x hr hb => by cases hb <;> cases hr <;> rfl
  simp only [Array.toArray_toList] at hc
  refine hc.mono fun e W' ⟨x, e1, e2, hb⟩ => ⟨x, e1, ?_⟩
  subst e2
  have hbw := trodAll_below hl hb fn.params.toList args.toList ds p hrd hA fun x hx => hlt x (List.mem_append_left _ hx)
  have hsp := hs (ds ++ []) (by simpa using hbw.2)
  refine ⟨ds, [], _, [], p, [], hW0, ?_, ?_, ?_, kept_of_below hb _, fun h => nomatch h⟩
  · rw [hsp, hrt]
    exact ChangeShapes.trodAll_mk1 (shut_bool hub _)
  · rw [hsp]
    simpa using hbw.1
  · rw [hsp, hv]
    rfl
end

/-! ### What is typed, taken apart -/
theorem Typed.int_inv {k : IntKind} {vs : List V} (h : Typed (.int k) vs) : ∃ n, vs = [.i k n] := by cases h; exact ⟨_, rfl⟩
theorem Typed.bool_inv {vs : List V} (h : Typed .bool vs) : ∃ b, vs = [.b b] := by cases h; exact ⟨_, rfl⟩
theorem Typed.str_inv {vs : List V} (h : Typed .str vs) : ∃ l, vs = [.s l] ∧ l.length ≤ maxLen := by cases h; exact ⟨_, rfl, by assumption⟩
theorem Typed.sl_inv {sz : Nat} {t : Ty} {vs : List V} (h : Typed (.sl sz t) vs) : ∃ es, vs = [.lst sz es] ∧ es.length ≤ maxLen ∧ ∀ cs ∈ es, Typed t cs := by cases h; exact ⟨_, rfl, by assumption, by assumption⟩
theorem Typed.st_inv {n : Nat} {ts : List Ty} {vs : List V} (h : Typed (.st n ts) vs) : TypedL ts vs := by cases h; assumption
theorem TypedL.nil_inv {vs : List V} (h : TypedL [] vs) : vs = [] := by cases h; rfl
theorem TypedL.cons_inv {t : Ty} {ts : List Ty} {vs : List V} (h : TypedL (t :: ts) vs) : ∃ us ws, vs = us ++ ws ∧ Typed t us ∧ TypedL ts ws := by cases h; exact ⟨_, _, rfl, by assumption, by assumption⟩
theorem Args.cons_inv {t : Ty} {ts : List Ty} {vs : List V} (h : Args (t :: ts) vs) : ∃ v ws, vs = v :: ws ∧ Arg t v ∧ Args ts ws := by
  cases vs with
  | nil => exact h.elim
  | cons v ws => exact ⟨v, ws, rfl, h.1, h.2⟩
theorem Args.nil_inv {vs : List V} (h : Args [] vs) : vs = [] := by
  cases vs with
  | nil => rfl
  | cons v ws => exact h.elim
end Go.AM
