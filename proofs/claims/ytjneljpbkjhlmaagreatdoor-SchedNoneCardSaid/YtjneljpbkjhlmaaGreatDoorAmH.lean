/- Operations beyond the first ones, 4: maps whose keys are numbers or strings. -/
import Derived.Test.YtjneljpbkjhlmaaGreatDoorAmF
import Derived.MapKept
set_option linter.unusedVariables false
set_option linter.unusedSimpArgs false
set_option linter.unnecessarySimpa false
set_option linter.unusedSectionVars false
set_option linter.unusedVariables false
set_option linter.unusedSimpArgs false
namespace Go.AM
open Go

noncomputable def findK (md : Bool) (z k : V) : List (List V) → (Option V → Prop) → Prop
  | [], K => K none
  | e :: r, K => match e with
    | [k', v] => eqC z k k' fun p => withB md p fun p => match p with
      | true => K (some v)
      | false => findK md z k r K
    | _ => False
noncomputable def updK (md : Bool) (z k v : V) : List (List V) → (List (List V) → Prop) → Prop
  | [], K => K [[k, v]]
  | e :: r, K => match e with
    | [k', v'] => eqC z k k' fun p => withB md p fun p => match p with
      | true => K ([k, v] :: r)
      | false => updK md z k v r fun r => K ([k', v'] :: r)
    | _ => False
noncomputable def delK (md : Bool) (z k : V) : List (List V) → (List (List V) → Prop) → Prop
  | [], K => K []
  | e :: r, K => match e with
    | [k', v'] => eqC z k k' fun p => withB md p fun p => match p with
      | true => K r
      | false => delK md z k r fun r => K ([k', v'] :: r)
    | _ => False
noncomputable def mapR (h : H) (v : V) (K : Nat → GRow → Prop) : Prop :=
  match v with
  | .mp g => getR h g fun r => match r.sz with
    | 0 => K g r
    | _ + 1 => False
  | _ => False
noncomputable def isKZ : V → Bool
  | .i _ _ => true
  | .s _ => true
  | _ => false
noncomputable def opLook (tt : TT) (F : Fr) (h : H) (t : TypeId) (x k : Operand) (ok : Bool) (KV : V → H → Prop) : Prop :=
  match tt t with
  | .mp kz ez => match isKZ kz with
   | false => False
   | true => mapR h (ev F x) fun g r => findK h.md kz (ev F k) r.es fun res => match res, ok with
    | some v, true => KV (.tup [v, .tt]) h
    | some v, false => force v fun v => KV v h
    | none, true => KV (.tup [ez, .ff]) h
    | none, false => KV ez h
  | _ => False
noncomputable def isKeyV (z k : V) : Bool :=
  match z with
  | .i _ _ => match k with
    | .i _ _ => true
    | _ => false
  | .s _ => match k with
    | .s _ => true
    | _ => false
  | _ => false
noncomputable def opMapU (tt : TT) (F : Fr) (h : H) (t : TypeId) (x k v : Operand) (K : H → Prop) : Prop :=
  match tt t with
  | .mp kz _ => mapR h (ev F x) fun g r => force (ev F k) fun k => force (ev F v) fun v => match isKeyV kz k, port v with
    | true, true => updK h.md kz k v r.es fun es => chk h.md (es.length ≤ 140737488355328) (forceH (h.ins g ⟨0, r.fz, es, r.ty⟩) K)
    | _, _ => False
  | _ => False
noncomputable def opDel (tt : TT) (h : H) (t : TypeId) (x k : V) (KV : V → H → Prop) : Prop :=
  match tt t with
  | .mp kz _ => mapR h x fun g r => match isKeyV kz k with
    | true => delK h.md kz k r.es fun es => forceH (h.ins g ⟨0, r.fz, es, r.ty⟩) fun h => KV (.tup []) h
    | false => False
  | _ => False

/-! ### Entries -/
inductive MR (c : Cfg) : List (List V) → List MapEntry → Prop
  | nil : MR c [] []
  | cons {k v : V} {e : MapEntry} {es : List (List V)} {xs : List MapEntry} (hk : RV c k e.key) (hv : RV c v e.val) (h : MR c es xs) : MR c ([k, v] :: es) (e :: xs)
theorem MR.of {c : Cfg} : ∀ {es : List (List V)} {xs : List MapEntry}, xs.length = es.length → (∀ (i : Nat) (cs : List V), es[i]? = some cs → ∃ k v en, cs = [k, v] ∧ xs[i]? = some en ∧ RV c k en.key ∧ RV c v en.val) → MR c es xs := by
  intro es
  induction es with
  | nil => intro xs hl _; rw [List.eq_nil_of_length_eq_zero hl]; exact .nil
  | cons e es ih =>
    intro xs hl hr
    cases xs with
    | nil => cases hl
    | cons x xs =>
      obtain ⟨k, v, en, rfl, h2, h3, h4⟩ := hr 0 e rfl
      simp at h2
      subst h2
      exact .cons h3 h4 (ih (by simpa using hl) fun i cs hi => by simpa using hr (i + 1) cs (by simpa using hi))
theorem MR.to {c : Cfg} {es : List (List V)} {xs : List MapEntry} (h : MR c es xs) : xs.length = es.length ∧ ∀ (i : Nat) (cs : List V), es[i]? = some cs → ∃ k v en, cs = [k, v] ∧ xs[i]? = some en ∧ RV c k en.key ∧ RV c v en.val := by
  induction h with
  | nil => exact ⟨rfl, by simp⟩
  | cons hk hv _ ih =>
    refine ⟨by simp [ih.1], fun i cs hi => ?_⟩
    cases i with
    | zero => simp at hi; subst hi; exact ⟨_, _, _, rfl, rfl, hk, hv⟩
    | succ i => simpa using ih.2 i cs (by simpa using hi)
theorem MR.mono {c c' : Cfg} {es : List (List V)} {xs : List MapEntry} (h : MR c es xs) (e : Evo c c') : MR c' es xs := by
  induction h with
  | nil => exact .nil
  | cons hk hv _ ih => exact .cons (hk.mono e) (hv.mono e) ih

def KeyD (z : V) (d : TypeDesc) : Prop := (∃ kk m, z = .i kk m ∧ d = .int kk) ∨ ∃ l, z = .s l ∧ d = .string
theorem bytes_bq (p q : List UInt8) : ((⟨p.toArray⟩ : ByteArray) == ⟨q.toArray⟩) = decide (p = q) := by
  rw [Bool.eq_iff_iff, decide_eq_true_eq]
  show (ByteArray.beq _ _ = true) ↔ _
  unfold ByteArray.beq
  simp
theorem eqC_same {c : Cfg} {z k k' : V} {d : TypeDesc} (hz : KeyD z d) {x y : Value} {K : Bool → Prop} (hx : RV c k x) (hy : RV c k' y) (hk : eqC z k k' K) : ∃ p, Instr.sameNow d x y = some p ∧ (p = true → Instr.sameBits 10000 y x = true) ∧ K p := by
  rcases hz with ⟨kk, m, rfl, rfl⟩ | ⟨l, rfl, rfl⟩
  · simp only [eqC] at hk
    split at hk
    case h_2 => exact hk.elim
    rename_i k1 a k2 b
    split at hk
    case h_2 => exact hk.elim
    rename_i hq
    have := kq_eq hq
    subst this
    cases hx
    cases hy
    refine ⟨decide (a = b), ?_, fun hp => ?_, hk⟩
    · simp only [Instr.sameNow, if_true]
      first | rfl | (congr 1; rw [Bool.eq_iff_iff]; simp)
    · have := of_decide_eq_true hp
      subst this
      simp [Instr.sameBits]
  · simp only [eqC] at hk
    split at hk
    case h_2 => exact hk.elim
    rename_i a b
    cases hx
    cases hy
    refine ⟨decide (a = b), ?_, fun hp => ?_, hk⟩
    · simp only [Instr.sameNow]
      rw [bytes_bq]
    · have := of_decide_eq_true hp
      subst this
      simp only [Instr.sameBits]
      rw [bytes_bq]; simp

theorem findK_ok {c : Cfg} {md : Bool} {z k : V} {d : TypeDesc} (hz : KeyD z d) {x : Value} {K : Option V → Prop} : ∀ {es : List (List V)} {xs : List MapEntry} (i : Nat), (es ≠ [] → RV c k x) → MR c es xs → findK md z k es K →
    ∃ res rv, Instr.findNow d x xs i = some res ∧ K rv ∧ ((res = none ∧ rv = none) ∨ ∃ j y v, res = some (j, y) ∧ rv = some v ∧ RV c v y) := by
  intro es
  induction es with
  | nil => intro xs i _ h hk; cases h; exact ⟨none, none, rfl, hk, .inl ⟨rfl, rfl⟩⟩
  | cons e es ih =>
    intro xs i hx h hk
    cases h with
    | @cons k' v' en es0 xs hkk hv hr =>
      simp only [findK] at hk
      obtain ⟨p, h1, _, h2⟩ := eqC_same hz (hx (List.cons_ne_nil _ _)) hkk hk
      replace h2 := withB_ok h2
      cases p with
      | true => exact ⟨some (i, en.val), some v', by simp only [Instr.findNow, h1], h2, .inr ⟨_, _, _, rfl, rfl, hv⟩⟩
      | false =>
        obtain ⟨res, rv, q1, q2, q3⟩ := ih (i + 1) (fun _ => hx (List.cons_ne_nil _ _)) hr h2
        exact ⟨res, rv, by simp only [Instr.findNow, h1, q1], q2, q3⟩

theorem updK_ok {c : Cfg} {md : Bool} {z k v : V} {d : TypeDesc} (hz : KeyD z d) {x y : Value} (hx : RV c k x) (hy : RV c v y) : ∀ {es : List (List V)} {xs : List MapEntry} {K : List (List V) → Prop} (i : Nat), MR c es xs → updK md z k v es K →
    ∃ es', K es' ∧ ((Instr.findNow d x xs i = some none ∧ ∀ clk, MR c es' (xs ++ [{ key := x, val := y, born := clk }])) ∨
      ∃ j en, Instr.findNow d x xs i = some (some (i + j, en.val)) ∧ xs[j]? = some en ∧ Instr.sameBits 10000 en.key x = true ∧ MR c es' (xs.set j { en with key := x, val := y })) := by
  intro es
  induction es with
  | nil => intro xs K i h hk; cases h; exact ⟨_, hk, .inl ⟨rfl, fun clk => .cons hx hy .nil⟩⟩
  | cons e es ih =>
    intro xs K i h hk
    cases h with
    | @cons k' v' en es0 xs hkk hv hr =>
      simp only [updK] at hk
      obtain ⟨p, h1, h1b, h2⟩ := eqC_same hz hx hkk hk
      replace h2 := withB_ok h2
      cases p with
      | true => exact ⟨_, h2, .inr ⟨0, en, by simp only [Instr.findNow, h1, Nat.add_zero], rfl, h1b rfl, .cons hx hy hr⟩⟩
      | false =>
        obtain ⟨es', q1, q2⟩ := ih (i + 1) hr h2
        refine ⟨_, q1, ?_⟩
        rcases q2 with ⟨q2, q3⟩ | ⟨j, en, q2, q3, q4, q5⟩
        · exact .inl ⟨by simp only [Instr.findNow, h1, q2], fun clk => .cons hkk hv (q3 clk)⟩
        · exact .inr ⟨j + 1, en, by simp only [Instr.findNow, h1, q2]; congr 3; omega, by simpa using q3, q4, .cons hkk hv q5⟩

theorem delK_ok {c : Cfg} {md : Bool} {z k : V} {d : TypeDesc} (hz : KeyD z d) {x : Value} (hx : RV c k x) : ∀ {es : List (List V)} {xs : List MapEntry} {K : List (List V) → Prop} (i : Nat), MR c es xs → delK md z k es K →
    ∃ es', K es' ∧ es'.length ≤ es.length ∧ ((Instr.findNow d x xs i = some none ∧ MR c es' xs) ∨ ∃ j y, Instr.findNow d x xs i = some (some (i + j, y)) ∧ j < xs.length ∧ MR c es' (xs.eraseIdx j)) := by
  intro es
  induction es with
  | nil => intro xs K i h hk; cases h; exact ⟨_, hk, Nat.le_refl _, .inl ⟨rfl, .nil⟩⟩
  | cons e es ih =>
    intro xs K i h hk
    cases h with
    | @cons k' v' en es0 xs hkk hv hr =>
      simp only [delK] at hk
      obtain ⟨p, h1, _, h2⟩ := eqC_same hz hx hkk hk
      replace h2 := withB_ok h2
      cases p with
      | true => exact ⟨_, h2, by simp, .inr ⟨0, en.val, by simp only [Instr.findNow, h1, Nat.add_zero], by simp, by simpa using hr⟩⟩
      | false =>
        obtain ⟨es', q1, ql, q2⟩ := ih (i + 1) hr h2
        refine ⟨_, q1, by simp; omega, ?_⟩
        rcases q2 with ⟨q2, q3⟩ | ⟨j, y, q2, q3, q4⟩
        · exact .inl ⟨by simp only [Instr.findNow, h1, q2], .cons hkk hv q3⟩
        · exact .inr ⟨j + 1, y, by simp only [Instr.findNow, h1, q2]; congr 3; omega, by simp; omega, by simpa using MR.cons hkk hv q4⟩

section
variable {P : Program} {M : Mach} {tt : TT} {X : XP} {c0 : Cfg} {h0 : H} {n : Nat} {c : Cfg} {h : H} {bb : Nat → Nat} {F : Fr} {a : Act} {o : Oper} {next : Act → World → Prop} {Q : Exit → Act → World → Prop} {K : Fr → H → Prop}

theorem run_key {kt : TypeId} {z : V} {d : TypeDesc} (hz : KeyD z d) (hd : P.underlying kt = some d) (x : Value) (em : Bool) (w : World) : (Instr.checkKey em 10000 kt x).run P w = .ok () w := by
  have : ∀ n, (Instr.checkKey em (n + 1) kt x).run P w = .ok () w := fun n => by
    rcases hz with ⟨kk, m, rfl, rfl⟩ | ⟨l, rfl, rfl⟩ <;> simp [Instr.checkKey, run_underlying hd]
  exact this 9999
theorem run_find {kt : TypeId} {d : TypeDesc} (hd : P.underlying kt = some d) {x : Value} {xs : List MapEntry} {res : Option (Nat × Value)} (hf : Instr.findNow d x xs 0 = some res) (w : World) : (Instr.findKey kt x xs).run P w = .ok res w := by
  simp [Instr.findKey, run_underlying hd, hf]

theorem mapR_ok (st : St c0 h0 n c h bb F a) {v : V} {x : Value} (hv : VOk c F bb v x) {KR : Nat → GRow → Prop} (hk : mapR h v KR) :
    ∃ g r b ents clk, v = .mp g ∧ x = .map (some b) ∧ h g = some r ∧ r.sz = 0 ∧ c.φ g = some (some b) ∧ c.w.heap[b]? = some (.map ents clk) ∧ MR c r.es ents.toList ∧ r.es.length ≤ maxLen ∧ (∀ o, ¬ c.Z b o) ∧ KR g r := by
  unfold mapR at hk
  split at hk
  case h_2 => exact hk.elim
  rename_i g
  obtain ⟨r, hg, hk⟩ := getR_ok hk
  split at hk
  case h_2 => exact hk.elim
  rename_i hsz
  obtain ⟨_, b', ents, clk, h1, h2, h3, h4, h5, h6⟩ | ⟨h0', _⟩ := st.hs.row g r hg
  · cases hv with
    | mp _ b hφ =>
      rw [h1] at hφ
      injection hφ with hφ
      injection hφ with hφ
      subst hφ
      exact ⟨g, r, b', ents, clk, rfl, rfl, hg, hsz, h1, h2, MR.of (by simpa using h3) (by simpa using h6), h4, h5, hk⟩
  · omega

theorem pw_look {t : TypeId} {x k : Operand} {ok : Bool} (htt : ∀ t, TIok P t (tt t)) (ho : o.op = .lookup t x k ok) (st : St c0 h0 n c h bb F a) (hk : opLook tt F h t x k ok fun v h => put n F o.dst v fun F => K F h) : PW P o a (fun w => w = c.w) c0 h0 n c h bb K := by
  unfold opLook at hk
  split at hk
  case h_2 => exact hk.elim
  rename_i kz ez hz
  have ht := htt t
  rw [hz] at ht
  obtain ⟨kt, et, hu, _, hkd, ie, zv, hi, hzv, hez⟩ := ht
  split at hk
  · exact hk.elim
  rename_i hkz
  obtain ⟨d, hzd, hkt⟩ : ∃ d, KeyD kz d ∧ P.underlying kt = some d := by
    rcases hkd with h1 | ⟨kk, m, h1, h2⟩ | ⟨l, h1, h2⟩
    · subst h1; cases hkz
    · exact ⟨_, .inl ⟨kk, m, h1, rfl⟩, h2⟩
    · exact ⟨_, .inr ⟨l, h1, rfl⟩, h2⟩
  obtain ⟨g, r, b, ents, clk, _, hxv, hg, hsz, hφ, hb, hmr, _, _, hk⟩ := mapR_ok st (ev_ok st.fs x) hk
  have hkv : ∀ (es : List (List V)) (xs : List MapEntry) (K : Option V → Prop), es ≠ [] → MR c es xs → findK h.md kz (ev F k) es K → RV c (ev F k) (a.eval k) := fun es xs K hne hm hk => by
    cases hm with
    | nil => exact absurd rfl hne
    | cons _ _ _ =>
      simp only [findK] at hk
      refine (ev_ok st.fs k).rv fun p q e' => ?_
      rw [e'] at hk
      rcases hzd with ⟨kk, m, rfl, _⟩ | ⟨l, rfl, _⟩ <;> exact hk
  obtain ⟨res, rv, h1, h2, h3⟩ := findK_ok hzd (x := a.eval k) (c := c) 0 (fun hne => hkv r.es ents.toList _ hne hmr hk) hmr hk
  have hrun : (execOp a.eval o).run P c.w = .ok (.value (let p : Value × Bool := match res with | some (_, v) => (v, true) | none => (zv, false); if ok then .tuple #[p.1, .bool p.2] else p.1)) c.w := by
    have hf := run_find hkt h1 c.w
    simp only [execOp, ho, hxv, Instr.lookup, Sem.run_bind, run_underlying hu, Result.andThen_ok, MapKept.run_getObj_map hb, run_key hzd hkt, Sem.run_pure, hf]
    cases res with
    | none => simp [zeroValue, typeInfo, hi, hzv]
    | some p => obtain ⟨j, y⟩ := p; simp
  have hez' : RV c ez zv := by
    rcases hez with ⟨xs, rfl, rfl⟩ | ⟨h4, _⟩
    · exact RV.agg _ _ (by simp) fun i v x hv hx => by
        simp at hv
        obtain ⟨y, hy, rfl⟩ := hv
        rw [Array.getElem?_toList] at hx
        rw [hy] at hx
        injection hx with hx
        subst hx
        exact cv_RV c y
    · exact h4 ▸ cv_RV c zv
  rcases h3 with ⟨rfl, rfl⟩ | ⟨j, y, v, rfl, rfl, hv⟩
  · cases ok with
    | true => exact pr_done st hrun (VOk.of_RV (RV.tup' (xs := [zv, .bool false]) (RVs.cons hez' (RVs.cons .ff (RVs.nil c))))) h2
    | false => exact pr_done st hrun (VOk.of_RV hez') h2
  · cases ok with
    | true => exact pr_done st hrun (VOk.of_RV (RV.tup' (xs := [y, .bool true]) (RVs.cons hv (RVs.cons .tt (RVs.nil c))))) h2
    | false =>
      simp only [force_eq] at h2
      exact pr_done st hrun (VOk.of_RV hv) h2

/-- A map's entries turn. -/
theorem St.mapSet (st : St c0 h0 n c h bb F a) {g b : Nat} {r : GRow} (hg : h g = some r) (hφ : c.φ g = some (some b)) {ents : Array MapEntry} {clk : Nat} (hb : c.w.heap[b]? = some (.map ents clk)) (hZ : ∀ o, ¬ c.Z b o) {es' : List (List V)} {ents' : Array MapEntry} {clk' fz ty : Nat}
    (hmr : MR c es' ents'.toList) (hmx : es'.length ≤ maxLen) : St c0 h0 n (c.at (World.setO c.w b (.map ents' clk'))) (h.ins g ⟨0, fz, es', ty⟩) bb F a := by
  have hev := evo_setMap hb ents' clk'
  refine st.putAny hg hφ hev (fun b' hn => setO_ne hn) (.inl ⟨rfl, b, ents', clk', hφ, setO_at hb, ?_, hmx, hZ, ?_⟩)
  · simpa using (hmr.mono hev).to.1
  · simpa using (hmr.mono hev).to.2

theorem isKey_RV {z k : V} {x : Value} (h : isKeyV z k = true) (hv : VOk c F bb k x) : RV c k x := by
  refine hv.rv fun p q e => ?_
  subst e
  cases z <;> simp [isKeyV] at h

theorem ok_mapU {t : TypeId} {x k v : Operand} (htt : ∀ t, TIok P t (tt t)) (ho : o.op = .mapUpdate t x k v) (st : St c0 h0 n c h bb F a) (hk : opMapU tt F h t x k v fun h => put n F o.dst .dead fun F => K F h) (hn : Goes c0 h0 n K next) : o.wp P a c.w next Q := by
  unfold opMapU at hk
  split at hk
  case h_2 => exact hk.elim
  rename_i kz ez hz
  have ht := htt t
  rw [hz] at ht
  obtain ⟨kt, et, hu, _, hkd, _⟩ := ht
  obtain ⟨g, r, b, ents, clk, _, hxv, hg, hsz, hφ, hb, hmr, hmx, hZ, hk⟩ := mapR_ok st (ev_ok st.fs x) hk
  simp only [force_eq] at hk
  split at hk
  case h_2 => exact hk.elim
  rename_i hkk hpv
  obtain ⟨d, hzd, hkt⟩ : ∃ d, KeyD kz d ∧ P.underlying kt = some d := by
    rcases hkd with h1 | ⟨kk, m, h1, h2⟩ | ⟨l, h1, h2⟩
    · subst h1; cases hkk
    · exact ⟨_, .inl ⟨kk, m, h1, rfl⟩, h2⟩
    · exact ⟨_, .inr ⟨l, h1, rfl⟩, h2⟩
  have hkx := isKey_RV hkk (ev_ok st.fs k)
  have hvx := port_RV hpv (ev_ok st.fs v)
  obtain ⟨es', hk, hcase⟩ := updK_ok hzd hkx hvx 0 hmr hk
  obtain ⟨hlen, hk⟩ := chk_ok hk
  rw [forceH_eq] at hk
  have fin : ∀ {ents' : Array MapEntry} {clk' : Nat}, MR c es' ents'.toList → (execOp a.eval o).run P c.w = .ok .skip (World.setO c.w b (.map ents' clk')) → o.wp P a c.w next Q := by
    intro ents' clk' hmr' hrun
    have st' := st.mapSet (clk' := clk') (fz := r.fz) (ty := r.ty) hg hφ hb hZ hmr' (by simp only [maxLen]; omega)
    obtain ⟨F', hF', hK⟩ := put_ok st'.fs (VOk.of_RV (RV.dead undef)) hk
    unfold Oper.wp
    rw [hrun]
    exact hn _ _ bb F' _ ⟨st'.keep, st'.ok, st'.hs, hF'⟩ hK
  rcases hcase with ⟨h1, h2⟩ | ⟨j, en, h1, h2, h3, h4⟩
  · refine fin (ents' := ents.push { key := a.eval k, val := a.eval v, born := clk }) (clk' := clk + 1) (by simpa using h2 clk) ?_
    simp only [execOp, ho, hxv, Instr.mapUpdate, Sem.run_bind, run_underlying hu, Result.andThen_ok, MapKept.run_getObj_map hb, run_key hzd hkt, run_find hkt h1, MapKept.run_setObj_map _ hb, Sem.run_pure, World.setO]
  · refine fin (ents' := ents.modify j fun e => { e with key := a.eval k, val := a.eval v }) (clk' := clk) ?_ ?_
    · have hj : j < ents.size := by simpa using (List.getElem?_eq_some_iff.1 h2).1
      have hen : ents.toList[j]? = some en := h2
      have : (ents.modify j fun e => { e with key := a.eval k, val := a.eval v }).toList = ents.toList.set j { en with key := a.eval k, val := a.eval v } := by
        rw [Array.toList_modify]
        rw [List.modify_eq_set]
        rw [hen]
        rfl
      rw [this]; exact h4
    · rw [Nat.zero_add] at h1
      have hkey : (ents[j]?.map (·.key)).getD (a.eval k) = en.key := by
        have : ents[j]? = some en := by simpa using h2
        simp [this]
      simp only [execOp, ho, hxv, Instr.mapUpdate, Sem.run_bind, run_underlying hu, Result.andThen_ok, MapKept.run_getObj_map hb, run_key hzd hkt, run_find hkt h1, hkey, Instr.keyThatStays, h3, if_true, MapKept.run_setObj_map _ hb, Sem.run_pure, World.setO]
end
end Go.AM
/- Operations beyond the first ones, 5: new maps, delete, methods called through interfaces; all of them together. -/
set_option linter.unusedVariables false
set_option linter.unusedSimpArgs false
namespace Go.AM
open Go

noncomputable def findM : List (Nat × String × Nat × Option Nat) → Nat → String → Option (Nat × Option Nat)
  | [], _, _ => none
  | (t, m, f, e) :: r, t', m' => match Nat.beq t t' with
    | true => match decide (m = m') with
      | true => some (f, e)
      | false => findM r t' m'
    | false => findM r t' m'
noncomputable def opInv (X : XP) (tt : TT) (call : Nat → List V → H → (V → H → Prop) → Prop) (F : Fr) (h : H) (recv : Operand) (m : String) (args : Array Operand) (K3 : V → Fr → H → Prop) : Prop :=
  mapEv F args.toList fun vs => pub 4 vs F h fun F h => gh vs F h fun F h => mapEv F args.toList fun vs => match portL vs with
    | true => match ev F recv with
      | .ifc t v => match findM X.meths t m with
        | some (f, none) => call f (v :: vs) h fun v h => K3 v F h
        | some (f, some e) => match v with
          | .gptr g sz i off => atH h g sz i fun cs => loadC (tt e) cs off fun u => call f (u :: vs) h fun v h => K3 v F h
          | _ => False
        | none => False
      | _ => False
    | false => False

/-- A row of the table of methods is the program's. -/
noncomputable def methB (P : Program) (x : Nat × String × Nat × Option Nat) : Bool :=
  match P.info? x.1 with
  | some i => match i.methods.find? (·.name == x.2.1) with
    | some mm => mm.path.isEmpty && (match mm.func with
      | some (f, pr) => Nat.beq f x.2.2.1 && (match x.2.2.2, P.underlying x.1 with
        | none, some (.pointer _) => pr
        | none, some _ => !pr
        | some e, some (.pointer e') => !pr && Nat.beq e e'
        | _, _ => false)
      | none => false)
    | none => false
  | none => false

noncomputable def xown (X : XP) : Op → Bool
  | .alloc e => has X.hp e
  | .box e _ => has X.hp e
  | .makeMap _ _ => true
  | .lookup _ _ _ _ => true
  | .mapUpdate _ _ _ _ => true
  | .makeInterface _ _ => true
  | .typeAssert _ _ _ _ => true
  | .field _ _ _ => true
  | .index _ _ _ => true
  | .convert src dst _ => match Nat.beq src X.uP with
    | true => true
    | false => Nat.beq dst X.uP
  | .slice _ _ _ _ _ => true
  | .call c => match c.callee with
    | .invoke _ _ => true
    | .builtin b => match b with
      | .append => true
      | .clear => true
      | .delete => true
      | .unsafeSliceData => true
      | .unsafeString => true
      | _ => false
    | .value _ => false
  | _ => false
noncomputable def xop (P : Program) (tt : TT) (X : XP) (call : Nat → List V → H → (V → H → Prop) → Prop) (n : Nat) (o : Oper) (F : Fr) (h : H) (K : Fr → H → Prop) : Prop :=
  match o.op with
  | .alloc e => opAlloc tt e fun cs => xNew X n o e cs F h K
  | .box e x => opBox tt F e x fun cs => xNew X n o e cs F h K
  | .makeMap t r => match r with
    | none => newK h ⟨0, 0, [], 0⟩ fun g h => put n F o.dst (.mp g) fun F => K F h
    | some _ => False
  | .lookup t x k ok => opLook tt F h t x k ok fun v h => put n F o.dst v fun F => K F h
  | .mapUpdate t x k v => opMapU tt F h t x k v fun h => put n F o.dst .dead fun F => K F h
  | .makeInterface t x => opMkI tt F h t x fun v h => put n F o.dst v fun F => K F h
  | .typeAssert x _ t ok => opTyA tt F h t x ok fun v h => put n F o.dst v fun F => K F h
  | .field t x f => opField P tt F h t x f fun v h => put n F o.dst v fun F => K F h
  | .index t x ix => opIdxA P tt F h t x ix fun v h => put n F o.dst v fun F => K F h
  | .convert src dst x => opConvU X F h src dst x fun v h => put n F o.dst v fun F => K F h
  | .slice t x lo hi mx => opSlX tt F h t x lo hi mx fun v h => put n F o.dst v fun F => K F h
  | .call c => match c.callee with
    | .invoke r m => opInv X tt call F h r m c.args fun v F h => put n F o.dst v fun F => K F h
    | .builtin b => match b with
      | .delete => mapEv F c.args.toList fun vs => match c.argTypes.toList, vs with
        | [t, _], [x, k] => opDel tt h t x k fun v h => put n F o.dst v fun F => K F h
        | _, _ => False
      | b => mapEv F c.args.toList fun vs => evBuiX tt X b c.argTypes.toList vs h fun v h => put n F o.dst v fun F => K F h
    | .value _ => False
  | _ => False
noncomputable def extX (P : Program) (tt : TT) (X : XP) : Ext := ⟨xown X, xop P tt X⟩

section
variable {P : Program} {M : Mach} {tt : TT} {X : XP} {c0 : Cfg} {h0 : H} {n : Nat} {c : Cfg} {h : H} {bb : Nat → Nat} {F : Fr} {a : Act} {o : Oper} {next : Act → World → Prop} {Q : Exit → Act → World → Prop} {K : Fr → H → Prop}

theorem ok_makeMap {t : TypeId} (ho : o.op = .makeMap t none) (st : St c0 h0 n c h bb F a) (hk : newK h ⟨0, 0, [], 0⟩ fun g h => put n F o.dst (.mp g) fun F => K F h) (hn : Goes c0 h0 n K next) : o.wp P a c.w next Q := by
  obtain ⟨g, hg1, hg2⟩ := fresh st.ok st.hs
  have hk2 := newK_ok hk hg2
  have hp : Pushed c.w (c.w.alloc (.map #[] 0)) (.map #[] 0) := ⟨rfl, rfl, rfl, rfl⟩
  have hφ : (c.name g (some c.w.heap.size) (c.w.alloc (.map #[] 0))).φ g = some (some c.w.heap.size) := by simp [Cfg.name]
  have st' := st.newAny hp hg1 hg2 (r := ⟨0, 0, [], 0⟩) (.inl ⟨rfl, c.w.heap.size, #[], 0, hφ, hp.new, rfl, by simp [maxLen], fun o hz => absurd (st.ok.zlt _ _ hz) (Nat.lt_irrefl _), by simp⟩)
  obtain ⟨F', hF', hK⟩ := put_ok st'.fs (VOk.of_RV (RV.mp g _ hφ)) hk2
  refine wp_value (w' := c.w.alloc (.map #[] 0)) (x := .map (some c.w.heap.size)) ?_ (hn _ _ bb F' _ ⟨st'.keep, st'.ok, st'.hs, hF'⟩ hK)
  have h1 : (Instr.makeMap t none).run P c.w = .ok (.map (some c.w.heap.size)) (c.w.alloc (.map #[] 0)) := rfl
  simp [execOp, ho, h1]

theorem ok_del {t kt' : TypeId} {x k : Operand} {cl : Call} (htt : ∀ t, TIok P t (tt t)) (ho : o.op = .call cl) (hcl : cl.callee = .builtin .delete) (hargs : cl.args = #[x, k]) (hats : cl.argTypes = #[t, kt']) (st : St c0 h0 n c h bb F a)
    (hk : opDel tt h t (ev F x) (ev F k) fun v h => put n F o.dst v fun F => K F h) (hn : Goes c0 h0 n K next) : o.wp P a c.w next Q := by
  unfold opDel at hk
  split at hk
  case h_2 => exact hk.elim
  rename_i kz ez hz
  have ht := htt t
  rw [hz] at ht
  obtain ⟨kt, et, hu, _, hkd, _⟩ := ht
  obtain ⟨g, r, b, ents, clk, _, hxv, hg, hsz, hφ, hb, hmr, hmx, hZ, hk⟩ := mapR_ok st (ev_ok st.fs x) hk
  split at hk
  case h_2 => exact hk.elim
  rename_i hkk
  obtain ⟨d, hzd, hkt⟩ : ∃ d, KeyD kz d ∧ P.underlying kt = some d := by
    rcases hkd with h1 | ⟨kk, m, h1, h2⟩ | ⟨l, h1, h2⟩
    · subst h1; cases hkk
    · exact ⟨_, .inl ⟨kk, m, h1, rfl⟩, h2⟩
    · exact ⟨_, .inr ⟨l, h1, rfl⟩, h2⟩
  have hkx := isKey_RV hkk (ev_ok st.fs k)
  obtain ⟨es', hk, hl, hcase⟩ := delK_ok hzd hkx 0 hmr hk
  rw [forceH_eq] at hk
  have fin : ∀ {ents' : Array MapEntry} {clk' : Nat}, MR c es' ents'.toList → (Builtin.delete_ #[t, kt'] o.type #[a.eval x, a.eval k]).run P c.w = .ok (.tuple #[]) (World.setO c.w b (.map ents' clk')) → o.wp P a c.w next Q := by
    intro ents' clk' hmr' hrun
    have st' := st.mapSet (clk' := clk') (fz := r.fz) (ty := r.ty) hg hφ hb hZ hmr' (by omega)
    obtain ⟨F', hF', hK⟩ := put_ok st'.fs (VOk.of_RV (RV.tup' (xs := []) (RVs.nil _))) hk
    exact wp_value (w' := World.setO c.w b (.map ents' clk')) (x := .tuple #[]) (by simp [execOp, ho, resolve, hcl, hargs, hats, invoke, builtin, hrun]) (hn _ _ bb F' _ ⟨st'.keep, st'.ok, st'.hs, hF'⟩ hK)
  rcases hcase with ⟨h1, h2⟩ | ⟨j, y, h1, hj, h2⟩
  · have hf := run_find hkt h1 c.w
    refine fin (ents' := ents) (clk' := clk) h2 ?_
    simp [Builtin.delete_, hxv, run_underlying hu, MapKept.run_getObj_map hb, run_key hzd hkt, hf, MapKept.run_setObj_map _ hb, World.setO]
  · rw [Nat.zero_add] at h1
    have hf := run_find hkt h1 c.w
    refine fin (ents' := ents.eraseIdxIfInBounds j) (clk' := clk) ?_ ?_
    · have hj' : j < ents.size := by simpa using hj
      simpa [Array.eraseIdxIfInBounds, hj'] using h2
    · simp [Builtin.delete_, hxv, run_underlying hu, MapKept.run_getObj_map hb, run_key hzd hkt, hf, MapKept.run_setObj_map _ hb, World.setO]

/-! ### Methods -/
theorem findM_mem : ∀ {l : List (Nat × String × Nat × Option Nat)} {t : Nat} {m : String} {f : Nat} {e : Option Nat}, findM l t m = some (f, e) → (t, m, f, e) ∈ l := by
  intro l
  induction l with
  | nil => intro t m f e h; cases h
  | cons x r ih =>
    obtain ⟨t0, m0, f0, e0⟩ := x
    intro t m f e h
    simp only [findM] at h
    split at h
    · rename_i h1
      split at h
      · rename_i h2
        injection h with h
        injection h with h3 h4
        have h1 := beq_of h1
        have h2 := of_decide_eq_true h2
        subst h1 h2 h3 h4
        exact List.mem_cons_self
      · exact List.mem_cons_of_mem _ (ih h)
    · exact List.mem_cons_of_mem _ (ih h)

theorem run_meth {t : TypeId} {m : String} {f : Nat} {e : Option Nat} (hm : methB P (t, m, f, e) = true) (args : Array Value) (w : World) :
    (e = none → ∀ v, (callMethod (.iface t v) m args).run P w = (callFunc f (#[v] ++ args)).run P w) ∧
    (∀ et, e = some et → ∀ ad x, (loadVar et ad).run P w = .ok x w → (callMethod (.iface t (.pointer (some ad))) m args).run P w = (callFunc f (#[x] ++ args)).run P w) := by
  simp only [methB] at hm
  split at hm
  case h_2 => cases hm
  rename_i i hi
  split at hm
  case h_2 => cases hm
  rename_i mm hf
  simp only [Bool.and_eq_true, Array.isEmpty_iff] at hm
  obtain ⟨hp, hm⟩ := hm
  split at hm
  case h_2 => cases hm
  rename_i f' pr hfn
  simp only [Bool.and_eq_true] at hm
  obtain ⟨h1, h2⟩ := hm
  have h1 := beq_of h1
  subst h1
  have hmeth : ∀ v, (callMethod (.iface t v) m args).run P w = ((receiverAt t (.val v) pr (some ((m.splitOn ".").getLastD m))).run P w).andThen fun x w => (callFunc f' (#[x] ++ args)).run P w := fun v => by
    have : ∀ k, (method (k + 1) t v m).run P w = ((receiverAt t (.val v) pr (some ((m.splitOn ".").getLastD m))).run P w).andThen fun x w => .ok (f', x) w := fun k => by
      simp only [method, Sem.run_bind, typeInfo, run_program, Result.andThen_ok, hi, Sem.run_pure, hf, hp, follow, hfn]
      simp
    have hk : P.types.size + Made.depth = (P.types.size + (Made.depth - 1)) + 1 := by
      have : 0 < Made.depth := by decide
      omega
    simp only [callMethod, Sem.run_bind, run_program, Result.andThen_ok, hk, this]
    cases (receiverAt t (.val v) pr (some ((m.splitOn ".").getLastD m))).run P w <;> rfl
  refine ⟨fun he v => ?_, fun et he ad x hx => ?_⟩
  · subst he
    rw [hmeth v]
    cases hu : P.underlying t with
    | none => rw [hu] at h2; cases h2
    | some d =>
      rw [hu] at h2
      by_cases hptr : ∃ e', d = .pointer e'
      · obtain ⟨e', rfl⟩ := hptr
        simp only at h2
        subst h2
        simp [receiverAt, run_underlying hu, Place.get]
      · have hpr : pr = false := by cases d <;> first | exact absurd ⟨_, rfl⟩ hptr | simpa using h2
        subst hpr
        cases d <;> first | exact absurd ⟨_, rfl⟩ hptr | (simp [receiverAt, run_underlying hu, Place.get])
  · subst he
    rw [hmeth]
    cases hu : P.underlying t with
    | none => rw [hu] at h2; cases h2
    | some d =>
      rw [hu] at h2
      cases d <;> first | cases h2 | skip
      rename_i e'
      simp only [Bool.and_eq_true, Bool.not_eq_true'] at h2
      obtain ⟨k1, k2⟩ := h2
      have k2 := beq_of k2
      subst k1 k2
      have hw : ∀ nm, (Builtin.ssaWrapNilChk_ #[t] t #[.pointer (some ad), strVal "", strVal nm]).run P w = .ok (.pointer (some ad)) w := fun _ => rfl
      simp [receiverAt, run_underlying hu, Place.get, hw, asAddr, hx]

theorem ok_inv (hC : ∀ f vs h Q, M.call f vs h Q → ACalls P f vs h Q) (hX : ∀ x ∈ X.meths, methB P x = true) (htt : ∀ t, TIok P t (tt t)) {cl : Call} {r : Operand} {m : String} (ho : o.op = .call cl) (hcl : cl.callee = .invoke r m) (st : St c0 h0 n c h bb F a)
    (hk : opInv X tt M.call F h r m cl.args fun v F h => put n F o.dst v fun F => K F h) (hn : Goes c0 h0 n K next) : o.wp P a c.w next Q := by
  unfold opInv at hk
  obtain ⟨vs, hvs, hk⟩ := mapEv_ok st _ hk
  obtain ⟨c1, h1, F1, e1, e2, st1, hk⟩ := pub_ok 4 st hk
  obtain ⟨c1', h1', F1', e1', e2', st1, hk⟩ := gh_ok st1 hk
  replace e1 := e1'.trans e1
  obtain ⟨us, hus, hk⟩ := mapEv_ok st1 _ hk
  split at hk
  case h_2 => exact hk.elim
  rename_i hp
  split at hk
  case h_2 => exact hk.elim
  rename_i t v he
  rw [hus] at hp hk
  have hargs := portL_RVs st1 hp
  have hr := (evo st1 he).rv (by simp)
  generalize hrv : a.eval r = rv at hr
  cases hr with
  | ifc _ _ y hy =>
    have hres : (execOp a.eval o).run P c1'.w = (callMethod (.iface t y) m (cl.args.map a.eval)).run P c1'.w := by
      simp only [execOp, ho, resolve, hcl, Sem.run_bind, Sem.run_pure, Result.andThen_ok, invoke, hrv]
      have hex : (cl.args.map a.eval).extract 0 cl.args.size = cl.args.map a.eval := by
        have := Array.extract_size (xs := cl.args.map a.eval)
        simpa using this
      simp [Array.getElem?_append, hex]
    have fin : ∀ {f : Nat} {u : V} {x : Value}, RV c1' u x → (callMethod (.iface t y) m (cl.args.map a.eval)).run P c1'.w = (callFunc f (#[x] ++ cl.args.map a.eval)).run P c1'.w → M.call f (u :: cl.args.toList.map (ev F1')) h1' (fun v h => put n F1' o.dst v fun F => K F h) → o.wp P a c.w next Q := by
      intro f u x hu hrun hk
      have hall := RVs.cons hu hargs
      have hout := (hC _ _ _ _ hk).out _ _ st1.ok st1.hs hall
      have hexec : (execOp a.eval o).run P c1'.w = (callFunc f (x :: cl.args.toList.map a.eval).toArray).run P c1'.w := by
        rw [hres, hrun]
        congr 2
        apply Array.ext'
        simp
      rw [← (show c1'.w = c.w from e1)]
      rcases hout with ⟨hent, hcalls⟩ | ⟨c', v, x, h', hrun, k1, k2, k3, k4, k5⟩
      · simp only [Oper.wp, hexec, run_callFunc c1'.w hent, Oper.upon_enter]
        refine hcalls.mono fun e w' ⟨c', v, x, h', hw, hev, k1, k2, k3, k4, k5⟩ => ?_
        subst hw
        subst hev
        have st2 := st1.step k4 k1 k2
        obtain ⟨F2, hF2, hK⟩ := put_ok st2.fs (VOk.of_RV k3) k5
        exact hn c' h' bb F2 _ ⟨st2.keep, st2.ok, st2.hs, hF2⟩ hK
      · have st2 := st1.step k4 k1 k2
        obtain ⟨F2, hF2, hK⟩ := put_ok st2.fs (VOk.of_RV k3) k5
        exact wp_value (hexec.trans hrun) (hn c' h' bb F2 _ ⟨st2.keep, st2.ok, st2.hs, hF2⟩ hK)
    split at hk
    · rename_i f hf
      obtain ⟨hm1, _⟩ := run_meth (hX _ (findM_mem hf)) (cl.args.map a.eval) c1'.w
      exact fin hy (hm1 rfl y) hk
    · rename_i f e hf
      obtain ⟨_, hm2⟩ := run_meth (hX _ (findM_mem hf)) (cl.args.map a.eval) c1'.w
      split at hk
      case h_2 => exact hk.elim
      rename_i g sz i off
      obtain ⟨cs, hcs, hk⟩ := atH_ok hk
      obtain ⟨r1, hg, hsz, hi, hpos⟩ := at_inv hcs
      cases hy with
      | gptr _ _ _ _ b hφ =>
        have hcc := row_cells (st1.hs.row g r1 hg) hpos hi hφ
        rw [hsz] at hcc
        obtain ⟨u, x, q1, q2, q3⟩ := loadC_ok (htt e) hcc hk
        exact fin q2 (hm2 e rfl _ x q1) q3
    · exact hk.elim
end
end Go.AM
/- Soundness of the operations beyond the first ones, 6: clear, unsafe pieces of builders; all of them together. -/
set_option linter.unusedVariables false
set_option linter.unusedSimpArgs false
namespace Go.AM
open Go

section
variable {P : Program} {M : Mach} {tt : TT} {X : XP} {c0 : Cfg} {h0 : H} {n : Nat} {c : Cfg} {h : H} {bb : Nat → Nat} {F : Fr} {a : Act} {o : Oper} {next : Act → World → Prop} {Q : Exit → Act → World → Prop} {K : Fr → H → Prop}

theorem pw_sliceData {x : Operand} {cl : Call} (ho : o.op = .call cl) (hcl : cl.callee = .builtin .unsafeSliceData) (hargs : cl.args = #[x]) (htt : ∀ t, TIok P t (tt t)) (st : St c0 h0 n c h bb F a)
    (hk : match ev F x with
      | .nils => put n F o.dst .nilp fun F => K F h
      | .gsl g sz off m => match m with
        | 0 => False
        | _ + 1 => put n F o.dst (.gptr g sz off 0) fun F => K F h
      | _ => False) : PW P o a (fun _ => True) c0 h0 n c h bb K := by
  have hx0 := ev_ok st.fs x
  have run : ∀ {v r : Value}, a.eval x = v → (∀ w, (Builtin.unsafeSliceData_ cl.argTypes o.type #[v]).run P w = .ok r w) → ∀ w, (execOp a.eval o).run P w = .ok (.value r) w := fun h1 h2 w => by
    simp [execOp, ho, resolve, hcl, hargs, invoke, builtin, h1, h2 w]
  split at hk
  · rename_i he
    have hx := evo st he
    generalize hxv : a.eval x = xv at hx
    cases hx
    exact pw_done st (run hxv fun w => rfl) (VOk.of_RV .nilp) hk
  · rename_i g sz off m he
    split at hk
    · exact hk.elim
    have hx := (evo st he).rv (by simp)
    generalize hxv : a.eval x = xv at hx
    cases hx with
    | gsl g sz off _ b ad cap t' hφ hb ha hs hl =>
      have had := ha (.inl (by omega))
      subst had
      refine pw_done st (run hxv fun w => Lib.run_unsafeSliceData_row (P := P) w cl.argTypes o.type ⟨b, off * sz, none⟩ _ cap (by omega)) ?_ hk
      have := RV.gptr (c := c) g sz off 0 b hφ
      exact VOk.of_RV (by simpa using this)
  · exact hk.elim

theorem freeze_ne {w : World} {b b' : Nat} {n : Nat} (hn : b' ≠ b) : (w.freeze ⟨b, 0, none⟩ n).heap[b']? = w.heap[b']? := by
  unfold World.freeze
  split
  · rfl
  · simp only [Array.getElem?_modify]
    rw [if_neg (Ne.symm hn)]
theorem evo_freeze {b n : Nat} : Evo c (c.at (c.w.freeze ⟨b, 0, none⟩ n)) := by
  have hb : ∀ b' : Nat, (∃ cs e f f', c.w.heap[b']? = some (Obj.cells cs e f) ∧ (c.w.freeze ⟨b, 0, none⟩ n).heap[b']? = some (Obj.cells cs e f')) ∨ (c.w.freeze ⟨b, 0, none⟩ n).heap[b']? = c.w.heap[b']? := by
    intro b'
    by_cases e : b' = b
    · subst e
      unfold World.freeze
      split
      · exact .inr rfl
      · simp only [Array.getElem?_modify, if_true]
        cases hh : c.w.heap[b']? with
        | none => exact .inr rfl
        | some ob =>
          cases ob with
          | cells cs e f => obtain ⟨lo, hi⟩ := f; exact .inl ⟨cs, e, (lo, hi), _, rfl, rfl⟩
          | _ => exact .inr rfl
    · exact .inr (freeze_ne e)
  refine ⟨fun b' o _ => ?_, fun _ _ hz => hz, fun _ _ h => h, fun b' s hs => ?_, ?_, ?_, ?_, ?_⟩
  · rcases hb b' with ⟨cs, e, f, f', h1, h2⟩ | h1
    · simp [Cfg.at, World.cell?, h1, h2]
    · simp only [Cfg.at, World.cell?, h1]
  · show World.shape? (c.w.freeze ⟨b, 0, none⟩ n) b' = some s
    unfold World.shape? at hs ⊢
    rcases hb b' with ⟨cs, e, f, f', h1, h2⟩ | h1
    · rw [h2]; rw [h1] at hs; exact hs
    · rw [h1]; exact hs
  all_goals
    unfold World.freeze
    simp only [Cfg.at]
    split <;> simp

theorem ok_string {x y : Operand} {pt it : TypeId} {m : Int} {cl : Call} (hX : XOk P X) (htt : ∀ t, TIok P t (tt t)) (ho : o.op = .call cl) (hcl : cl.callee = .builtin .unsafeString) (hargs : cl.args = #[x, y]) (hats : cl.argTypes = #[pt, it]) (hpt : pt = X.u8P) (hy : ev F y = .i .i64 m) (st : St c0 h0 n c h bb F a)
    (hk : evUStr X h (ev F x) m fun v h => put n F o.dst v fun F => K F h) (hu80 : X.u8 ≠ 0) (hn : Goes c0 h0 n K next) : o.wp P a c.w next Q := by
  have hyv := (evo st hy).int
  have run : ∀ {v r : Value} {w' : World}, a.eval x = v → (Builtin.unsafeString_ #[pt, it] o.type #[v, .int .i64 m]).run P c.w = .ok r w' → (execOp a.eval o).run P c.w = .ok (.value r) w' := fun h1 h2 => by
    simp [execOp, ho, resolve, hcl, hargs, hats, invoke, builtin, h1, hyv, h2]
  have emp : ∀ {p : Option Addr}, a.eval x = .pointer p → m = 0 → (put n F o.dst (.s []) fun F => K F h) → o.wp P a c.w next Q := fun h1 h2 hk2 => by
    clear hk
    subst h2
    refine (pr_done st (run h1 (Lib.run_unsafeString_none (P := P) c.w pt it o.type _)) (VOk.of_RV (RV.s [])) hk2).wp hn
  unfold evUStr at hk
  generalize he : ev F x = xx at hk
  split at hk
  · have hx := evo st he
    generalize hxv : a.eval x = xv at hx
    cases hx
    exact emp hxv rfl hk
  · have hx := (evo st he).rv (by simp)
    generalize hxv : a.eval x = xv at hx
    cases hx
    exact emp hxv rfl hk
  · rename_i g sz i off m'
    split at hk
    case h_2 => exact hk.elim
    rename_i hsz
    have hsz := beq_of hsz
    subst hsz
    obtain ⟨r, hg, hk⟩ := getR_ok hk
    obtain ⟨⟨h1, h2, h3⟩, hk⟩ := chk_ok hk
    obtain ⟨l, hl, hk⟩ := unB_ok hk
    rw [forceH_eq] at hk
    have hx := (evo st he).rv (by simp)
    generalize hxv : a.eval x = xv at hx
    cases hx with
    | gptr _ _ _ _ b hφ =>
      obtain ⟨hpos, arr, e, cap, hbk, hcap, hlen, hmax, hel, hZ, hfl, hty⟩ := (st.hs.row g r hg).elems (by omega) hφ
      have hee := hty (by rw [h2]; exact hu80)
      rw [h2] at hee
      subst hee
      have hll : l.length = m' + 1 := by
        have := congrArg List.length hl
        simp [bytesL] at this
        omega
      have hcell : ∀ j x, l[j]? = some x → c.w.cell? ((⟨b, 0, none⟩ : Addr).add j) = some (.int .u8 x.toNat) := fun j x hj => by
        have hj' := (List.getElem?_eq_some_iff.1 hj).1
        have h5 := bytesL_get hj
        rw [← hl, List.getElem?_take, if_pos (by omega)] at h5
        obtain ⟨_, y, h6, h7⟩ := hel.at_ _ _ 0 _ h5 rfl
        rw [h1] at h6
        simp only [Nat.mul_one, Nat.add_zero] at h6
        rw [add_lit', Nat.zero_add]
        cases h7
        simp [World.cell?, hbk, h6]
      have hsh : c.w.shape? b = some (X.u8, arr.size) := by simp [World.shape?, hbk]
      have hrun := Lib.run_unsafeString_row (P := P) c.w pt it o.type X.u8 (hpt ▸ hX.u8P) hX.u8 b arr.size hsh l (by intro e; subst e; simp at hll) (by rw [hcap, h1]; omega) (by simp only [maxLen] at hmax; omega) hcell
      rw [hll] at hrun
      have st' := st.delAny hg hφ (evo_freeze (c := c) (b := b) (n := m' + 1)) fun b' hn => freeze_ne hn
      obtain ⟨F', hF', hK⟩ := put_ok st'.fs (VOk.of_RV (RV.s l)) hk
      refine wp_value (w' := c.w.freeze ⟨b, 0, none⟩ (m' + 1)) (x := .string ⟨l.toArray⟩) (run (by simpa using hxv) ?_) (hn _ _ bb F' _ ⟨st'.keep, st'.ok, st'.hs, hF'⟩ hK)
      exact hrun
  · exact hk.elim
end
end Go.AM
/- Soundness of the operations beyond the first ones, 7: all of them together. -/
set_option linter.unusedVariables false
set_option linter.unusedSimpArgs false
namespace Go.AM
open Go

section
variable {P : Program} {M : Mach} {tt : TT} {X : XP} {c0 : Cfg} {h0 : H} {n : Nat} {c : Cfg} {h : H} {bb : Nat → Nat} {F : Fr} {a : Act} {o : Oper} {next : Act → World → Prop} {Q : Exit → Act → World → Prop} {K : Fr → H → Prop}

theorem storeCells_zero {w : World} {b off : Nat} {arr : Array Value} {e : TypeId} {xs : List Value} (hb : w.heap[b]? = some (.cells arr e (0, 0))) (hfit : off + xs.length ≤ arr.size) (h1 : ∀ x ∈ xs, x.oneCell' = true) :
    (storeCells ⟨b, off, none⟩ xs).run P w = .ok () (w.setRow b (wr arr off xs)) := by
  have hst := run_storeCells_cells (P := P) b off xs 0 w (fun j hj => by
      have : off + j < arr.size := by omega
      simp [World.cell?, hb, this]) (fun j hj => by simp [World.frozen?, hb]) h1
  simp only [Nat.add_zero] at hst
  rw [hst, setCells_wr hb hfit h1]

theorem ok_clear {t : TypeId} {x : Operand} {esz eb : Nat} {ez : List V} {cl : Call} (ho : o.op = .call cl) (hcl : cl.callee = .builtin .clear) (hargs : cl.args = #[x]) (hats : cl.argTypes = #[t]) (htt : ∀ t, TIok P t (tt t)) (hz : tt t = .sl esz eb ez) (st : St c0 h0 n c h bb F a)
    {v : V} (hv : ev F x = v) (hk : evClr esz ez h v fun v h => put n F o.dst v fun F => K F h) (hn : Goes c0 h0 n K next) : o.wp P a c.w next Q := by
  have ht := htt t
  rw [hz] at ht
  obtain ⟨e, hu, _, ie, zv, hi1, hi2, hpos, hi3, hi4, hi5, hi6, hi7, _⟩ := ht
  have hzs : zv.cells.size = esz := by have := congrArg List.length hi5; simp at this; omega
  have run : ∀ {v : Value} {w' : World}, a.eval x = v → (Builtin.clear_ #[t] o.type #[v]).run P c.w = .ok (.tuple #[]) w' → (execOp a.eval o).run P c.w = .ok (.value (.tuple #[])) w' := fun h1 h2 => by
    simp [execOp, ho, resolve, hcl, hargs, hats, invoke, builtin, h1, h2]
  have nothing : ∀ {ad : Option Addr} {cap : Nat}, a.eval x = .slice ad 0 cap → (put n F o.dst (.tup []) fun F => K F h) → o.wp P a c.w next Q := fun {ad cap} h1 hk => by
    refine (pr_done st (run h1 ?_) (VOk.of_RV (RV.tup' (xs := []) (RVs.nil c))) hk).wp hn
    cases ad <;> simp [Builtin.clear_, run_underlying hu]
  unfold evClr at hk
  split at hk
  · have hx := evo st hv
    generalize hxv : a.eval x = xv at hx
    cases hx
    exact nothing hxv hk
  · rename_i g sz off m
    have hx := (evo st hv).rv (by simp)
    split at hk
    case h_2 => exact hk.elim
    rename_i hsz
    have hsz := beq_of hsz
    subst hsz
    cases m with
    | zero =>
      generalize hxv : a.eval x = xv at hx
      cases hx with
      | gsl0 => exact nothing hxv hk
      | gsl _ _ _ _ b ad cap => exact nothing hxv hk
    | succ m' =>
      obtain ⟨r, hg, hk⟩ := getR_ok hk
      obtain ⟨⟨h1, h2, h3⟩, hk⟩ := chk_ok hk
      rw [forceEm_eq, forceH_eq, zeroE_eq] at hk
      generalize hxv : a.eval x = xv at hx
      cases hx with
      | gsl _ _ _ _ b ad cap t' hφ hb ha hs hl =>
        have had := ha (.inl (by omega))
        subst had
        obtain ⟨_, arr, e1, cap', hbk, hcap, hlen, hmax, hel, hZ, hfl, hty⟩ := (st.hs.row g r hg).elems (by omega) hφ
        let zs : List Value := (List.replicate (m' + 1) zv.cells.toList).flatten
        have hzl : zs.length = (m' + 1) * sz := by simp [zs, hzs]
        have hfit : off * sz + zs.length ≤ arr.size := by
          rw [hzl, ← Nat.add_mul, hcap, h1]; exact Nat.mul_le_mul_right _ (by omega)
        have hrvz : RVs c (List.replicate (m' + 1) ez).flatten zs := by
          show RVs c (List.replicate (m' + 1) ez).flatten (List.replicate (m' + 1) zv.cells.toList).flatten
          generalize m' + 1 = k
          induction k with
          | zero => exact RVs.nil c
          | succ k ih => rw [List.replicate_succ, List.replicate_succ, List.flatten_cons, List.flatten_cons]; exact (RVs.cvs zv.cells.toList hi5).append ih
        have hone : ∀ x ∈ zs, x.oneCell' = true := by
          have hcl1 : ∀ x ∈ zv.cells.toList, x.oneCell' = true := cells_one (RVs.cvs (c := c) zv.cells.toList hi5) hi7
          intro x hx
          simp only [zs, List.mem_flatten, List.mem_replicate] at hx
          obtain ⟨l, ⟨_, rfl⟩, hx⟩ := hx
          exact hcl1 x hx
        have hzc : (Builtin.zeroCells zv.cells (m' + 1)).toList = zs := by
          unfold Builtin.zeroCells
          exact zero_row zv.cells (by omega) (m' + 1)
        have hrun : (Builtin.clear_ #[t] o.type #[.slice (some ⟨b, off * sz, none⟩) (m' + 1) cap]).run P c.w = .ok (.tuple #[]) (c.w.setRow b (wr arr (off * sz) zs)) := by
          have hst := storeCells_zero (P := P) hbk hfit hone
          simp only [Builtin.clear_, Sem.run_bind]
          simp [run_underlying hu, zeroValue, typeInfo, hi1, hi4, hzc, hst]
        have hlen' : (r.es.take off ++ (List.replicate (m' + 1) ez ++ r.es.drop (off + (m' + 1)))).length = r.es.length := by simp; omega
        have hzel : ∀ i cs, (List.replicate (m' + 1) ez)[i]? = some cs → cs = ez := fun i cs hi => by
          rw [List.getElem?_replicate] at hi
          split at hi
          · injection hi with hi; exact hi.symm
          · cases hi
        have st' := st.rewrite (es' := r.es.take off ++ (List.replicate (m' + 1) ez ++ r.es.drop (off + (m' + 1)))) hg hφ (by omega) hbk (arr' := wr arr (off * sz) zs) (wr_size hfit) hcap hmax (fun q hq => by
            rw [wr_get hfit, if_neg]
            rw [h1] at hq
            have := Nat.mul_le_mul_right sz h2
            omega) (by rw [hlen']; omega) (by rw [hlen']; omega) hZ hty ⟨fun i cs hi => ?_, fun i cs j v hi hj => ?_⟩
        · obtain ⟨F', hF', hK⟩ := put_ok st'.fs (VOk.of_RV (RV.tup' (xs := []) (RVs.nil _))) hk
          exact wp_value (w' := c.w.setRow b (wr arr (off * sz) zs)) (x := .tuple #[]) (run hxv hrun) (hn _ _ bb F' _ ⟨st'.keep, st'.ok, st'.hs, hF'⟩ hK)
        · rw [List.getElem?_append] at hi
          split at hi
          · rw [List.getElem?_take] at hi
            split at hi
            · exact hel.len _ _ hi
            · cases hi
          · rw [List.getElem?_append] at hi
            split at hi
            · rw [hzel _ _ hi, hi6, h1]
            · rw [List.getElem?_drop] at hi; exact hel.len _ _ hi
        · rw [h1] at hel ⊢
          have htl : (r.es.take off).length = off := by simp; omega
          have hjl : ∀ {cs : List V}, cs.length = sz → cs[j]? = some v → j < sz := fun h1 h2 => by rw [← h1]; exact (List.getElem?_eq_some_iff.1 h2).1
          rw [wr_get hfit]
          rw [List.getElem?_append, htl] at hi
          split at hi
          · rename_i hlt1
            rw [List.getElem?_take, if_pos hlt1] at hi
            have hj' := hjl (hel.len _ _ hi) hj
            have : (i + 1) * sz ≤ off * sz := Nat.mul_le_mul_right _ (by omega)
            rw [Nat.add_mul, Nat.one_mul] at this
            rw [if_neg (by omega)]
            exact hel.at_ _ _ _ _ hi hj
          · rename_i hge1
            rw [List.getElem?_append] at hi
            split at hi
            · rename_i hlt2
              simp only [List.length_replicate] at hlt2
              have hce := hzel _ _ hi
              have hj' := hjl (by rw [hce, hi6]) hj
              have e1 : i * sz = off * sz + (i - off) * sz := by rw [← Nat.add_mul]; congr 1; omega
              have e2 : (i - off + 1) * sz ≤ (m' + 1) * sz := Nat.mul_le_mul_right _ (by omega)
              rw [Nat.add_mul, Nat.one_mul] at e2
              rw [if_pos (by omega)]
              refine ⟨cellL_at hi7 j v (hce ▸ hj), ?_⟩
              have hflat : (List.replicate (m' + 1) ez).flatten[(i - off) * sz + j]? = some v := by rw [flat_get (fun i cs h => by rw [hzel i cs h, hi6]) _ _ hj', hi]; exact hj
              have hq : (i - off) * sz + j < zs.length := by omega
              refine ⟨zs[(i - off) * sz + j], ?_, hrvz.at_ _ _ _ hflat (List.getElem?_eq_getElem hq)⟩
              rw [show i * sz + j - off * sz = (i - off) * sz + j by omega]
              exact List.getElem?_eq_getElem hq
            · rename_i hge2
              simp only [List.length_replicate] at hge2
              rw [List.getElem?_drop] at hi
              rw [show off + (m' + 1) + (i - off - (List.replicate (m' + 1) ez).length) = i by simp; omega] at hi
              have hj' := hjl (hel.len _ _ hi) hj
              have : (off + (m' + 1)) * sz ≤ i * sz := Nat.mul_le_mul_right _ (by omega)
              rw [Nat.add_mul] at this
              rw [if_neg (by omega)]
              exact hel.at_ _ _ _ _ hi hj
  · exact hk.elim

theorem one_arg {cl : Call} {v : V} (h : cl.args.toList.map (ev F) = [v]) : ∃ x, cl.args = #[x] ∧ ev F x = v := by
  obtain ⟨x, h1, h2⟩ := one_len h
  exact ⟨x, by apply Array.ext'; simpa using h1, h2⟩
theorem two_arg {cl : Call} {v u : V} (h : cl.args.toList.map (ev F) = [v, u]) : ∃ x y, cl.args = #[x, y] ∧ ev F x = v ∧ ev F y = u := by
  obtain ⟨x, y, h1, h2, h3⟩ := two_len h
  exact ⟨x, y, by apply Array.ext'; simpa using h1, h2, h3⟩

theorem ok_buiX {b : Builtin} {cl : Call} (hX : XOk P X) (hu80 : X.u8 ≠ 0) (htt : ∀ t, TIok P t (tt t)) (ho : o.op = .call cl) (hcl : cl.callee = .builtin b) (st : St c0 h0 n c h bb F a)
    (hk : mapEv F cl.args.toList fun vs => evBuiX tt X b cl.argTypes.toList vs h fun v h => put n F o.dst v fun F => K F h) (hn : Goes c0 h0 n K next) : o.wp P a c.w next Q := by
  obtain ⟨vs, hvs, hk⟩ := mapEv_ok st _ hk
  cases b <;> simp only [evBuiX] at hk <;> first | exact hk.elim | skip
  · -- append
    split at hk
    case h_2 => exact hk.elim
    rename_i t t' x y hat
    split at hk
    case h_2 => exact hk.elim
    rename_i esz eb ez hz
    split at hk
    case h_2 => exact hk.elim
    rename_i heb
    obtain ⟨xo, yo, hargs, hx, hy⟩ := two_arg hvs.symm
    have hats : cl.argTypes = #[t, t'] := by apply Array.ext'; simpa using hat
    subst hx
    subst hy
    split at hk
    · rename_i s hs
      have ht := htt t'
      rw [hs] at ht
      obtain ⟨⟨d, hu, _, _, _, hd, _⟩, _⟩ := ht
      exact ok_appX hX (Nat.le_of_ble_eq_true heb) htt hz (.inr (hd s rfl ▸ hu)) ho hcl hargs hats st hk hn
    · rename_i hs
      have ht := htt t'
      rw [hs] at ht
      obtain ⟨e, hu, _⟩ := ht
      exact ok_appX hX (Nat.le_of_ble_eq_true heb) htt hz (.inl ⟨e, hu⟩) ho hcl hargs hats st hk hn
    · exact hk.elim
  · -- clear
    split at hk
    case h_2 => exact hk.elim
    rename_i t x hat
    split at hk
    case h_2 => exact hk.elim
    rename_i esz eb ez hz
    obtain ⟨xo, hargs, hx⟩ := one_arg hvs.symm
    have hats : cl.argTypes = #[t] := by apply Array.ext'; simpa using hat
    exact ok_clear ho hcl hargs hats htt hz st hx hk hn
  · -- unsafe.SliceData
    split at hk
    case h_2 => exact hk.elim
    rename_i x
    obtain ⟨xo, hargs, hx⟩ := one_arg hvs.symm
    refine (pw_sliceData ho hcl hargs htt st (by rw [hx]; exact hk)).here.wp hn
  · -- unsafe.String
    split at hk
    case h_2 => exact hk.elim
    rename_i pt it x m hat
    split at hk
    case h_2 => exact hk.elim
    rename_i hpt
    obtain ⟨xo, yo, hargs, hx, hy⟩ := two_arg hvs.symm
    have hats : cl.argTypes = #[pt, it] := by apply Array.ext'; simpa using hat
    exact ok_string hX htt ho hcl hargs hats (beq_of hpt) hy st (by rw [hx]; exact hk) hu80 hn

theorem ok_xop (hC : ∀ f vs h Q, M.call f vs h Q → ACalls P f vs h Q) (hX : XOk P X) (hu80 : X.u8 ≠ 0) (hm : ∀ x ∈ X.meths, methB P x = true) (htt : ∀ t, TIok P t (tt t)) (st : St c0 h0 n c h bb F a) (hk : xop P tt X M.call n o F h K) (hn : Goes c0 h0 n K next) : o.wp P a c.w next Q := by
  cases ho : o.op <;> simp only [xop, ho] at hk <;> first | exact hk.elim | skip
  · exact ok_allocX htt ho st hk hn
  · exact ok_boxX htt ho st hk hn
  · exact (pw_convU hX ho st hk).wp hn
  · exact (pw_mkI htt ho st hk).here.wp hn
  · split at hk
    · exact ok_makeMap ho st hk hn
    · exact hk.elim
  · exact (pw_slX htt ho st hk).here.wp hn
  · exact (pw_field htt ho st hk).here.wp hn
  · exact (pw_idxA htt ho st hk).here.wp hn
  · exact (pw_look htt ho st hk).wp hn
  · exact ok_mapU htt ho st hk hn
  · exact (pw_tyA htt ho st hk).here.wp hn
  · rename_i cl
    split at hk
    · rename_i r m hcl
      exact ok_inv hC hm htt ho hcl st hk hn
    · rename_i b hcl
      split at hk
      · obtain ⟨vs, hvs, hk⟩ := mapEv_ok st _ hk
        split at hk
        case h_2 => exact hk.elim
        rename_i t kt x k hat
        obtain ⟨xo, ko, hargs, hx, hy⟩ := two_arg hvs.symm
        have hats : cl.argTypes = #[t, kt] := by apply Array.ext'; simpa using hat
        subst hx
        subst hy
        exact ok_del htt ho hcl hargs hats st hk hn
      · exact ok_buiX hX hu80 htt ho hcl st hk hn
    · exact hk.elim

theorem pw_xop (hX : XOk P X) (htt : ∀ t, TIok P t (tt t)) (hp : pureB o.op = true) {call : Nat → List V → H → (V → H → Prop) → Prop} (st : St c0 h0 n c h bb F a) (hcv : ∀ s d x, o.op ≠ .convert s d x) (hk : xop P tt X call n o F h K) : PW P o a (fun _ => True) c0 h0 n c h bb K := by
  cases ho : o.op <;> simp only [xop, ho] at hk <;> first | exact hk.elim | (rw [ho] at hp; cases hp; done) | skip
  · exact pw_mkI htt ho st hk
  · exact pw_slX htt ho st hk
  · exact pw_field htt ho st hk
  · exact pw_idxA htt ho st hk
  · exact pw_tyA htt ho st hk
theorem pq_xop (hX : XOk P X) (hown : xown X o.op = true) (htt : ∀ t, TIok P t (tt t)) (hp : quietB o.op = true) {call : Nat → List V → H → (V → H → Prop) → Prop} (st : St c0 h0 n c h bb F a) (hk : xop P tt X call n o F h K) : PW P o a (fun w => w = c.w) c0 h0 n c h bb K := by
  cases ho : o.op <;> simp only [xop, ho] at hk <;> first | exact hk.elim | (rw [ho] at hp; cases hp; done) | skip
  · exact pw_convU hX ho st hk
  · exact (pw_mkI htt ho st hk).here
  · exact (pw_slX htt ho st hk).here
  · exact (pw_field htt ho st hk).here
  · exact (pw_idxA htt ho st hk).here
  · exact pw_look htt ho st hk
  · exact (pw_tyA htt ho st hk).here
  · rename_i cl
    split at hk
    · rename_i r m hcl; rw [ho] at hp; simp only [quietB, hcl] at hp; cases hp
    · rename_i b hcl
      rw [ho] at hp hown
      simp only [quietB, hcl] at hp
      simp only [xown, hcl] at hown
      split at hk
      · cases hp
      · obtain ⟨vs, hvs, hk⟩ := mapEv_ok st _ hk
        cases b <;> simp only at hp hown <;> first | cases hp; done | cases hown; done | skip
        simp only [evBuiX] at hk
        split at hk
        case h_2 => exact hk.elim
        rename_i x
        obtain ⟨xo, hargs, hx⟩ := one_arg hvs.symm
        exact (pw_sliceData ho hcl hargs htt st (by rw [hx]; exact hk)).here
    · exact hk.elim
end

/-- All that a machine with the extension needs of a program. -/
structure XAll (P : Program) (tt : TT) (X : XP) : Prop where
  ok : XOk P X
  u80 : X.u8 ≠ 0
  meth : ∀ x ∈ X.meths, methB P x = true
  tt : ∀ t, TIok P t (tt t)
  mix : P.follows .mixedOrders = true

theorem symX_ok {P : Program} {tt : TT} {X : XP} (hx : XAll P tt X) : Snd P (symX P (extX P tt X)) :=
  ⟨fun _ _ _ _ h => h, fun _ _ _ _ _ h => h, fun _ _ _ _ _ _ h => h, fun _ st hk hn => ok_xop (M := symX P (extX P tt X)) (fun _ _ _ _ h => h) hx.ok hx.u80 hx.meth hx.tt st hk hn,
   fun _ hp st hk => pw_xop hx.ok hx.tt hp st (fun s d x e => by rw [e] at hp; cases hp) hk, fun ho hp st hk => pq_xop hx.ok ho hx.tt hp st hk⟩
end Go.AM
