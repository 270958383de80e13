/- A machine that runs what is wholly known: calls are entered, loops unrolled; some functions by a table, functions without a text by another one. -/
import Derived.Test.YtjneljpbkjhlmaaGreatDoorAmH
set_option linter.unusedVariables false
set_option linter.unusedSimpArgs false
set_option linter.unnecessarySimpa false
set_option linter.unusedSectionVars false
set_option linter.unusedVariables false
set_option linter.unusedSimpArgs false
namespace Go.AM
open Go

/-- ct: what some functions answer, the heap being left alone; ex: functions without a text. -/
structure Tbl where
  ct : Nat → List V → Option V
  ex : Nat → List V → H → (V → H → Prop) → Prop
structure TblOk (P : Program) (T : Tbl) : Prop where
  ct : ∀ f vs v h, T.ct f vs = some v → ACalls P f vs h fun v' h' => v' = v ∧ h' = h
  ex : ∀ f vs h Q, T.ex f vs h Q → ACalls P f vs h Q

noncomputable def callY (P : Program) (tt : TT) (T : Tbl) (M : Mach) (f : Nat) (vs : List V) (h : H) (Q : V → H → Prop) : Prop :=
  match T.ct f vs with
  | some v => force v fun v => Q v h
  | none => match P.funcs[f]? with
    | some fn => match fn.body with
      | some body => match fn.name == "runtime.NumGoroutine" with
        | true => False
        | false => match Nat.ble vs.length fn.ntmps with
          | true => awp M tt fn.ntmps body (entry 0 vs) h (fin tt fn Q)
          | false => False
      | none => T.ex f vs h Q
    | none => False
noncomputable def loopY (tt : TT) (M : Mach) (n : Nat) (body : Code) (F : Fr) (h : H) (Q : Ex → Fr → H → Prop) : Prop :=
  awp M tt n body F h fun e F h => match e with
    | .normal => M.loop n body F h Q
    | .exit i => Q (.exit i) F h
    | .ret => Q .ret F h
noncomputable def drawY (tt : TT) (M : Mach) (n id : Nat) (ops : Array Oper) (F : Fr) (h : H) (Q : Fr → H → Prop) : Prop :=
  match qreg ops.toList with
  | true => evOps M tt n ops.toList ops.toList F h Q
  | false => match wrB ops.toList with
    | true => wrE M tt n ops.toList ops.toList.length (List.range ops.toList.length) F h Q
    | false => False
noncomputable def machY (P : Program) (tt : TT) (X : XP) (T : Tbl) : Nat → Mach
  | 0 => ⟨fun _ _ _ _ => False, fun _ _ _ _ _ => False, fun _ _ _ _ _ _ => False, fun _ => false, fun _ _ _ _ _ => False⟩
  | k + 1 => ⟨callY P tt T (machY P tt X T k), loopY tt (machY P tt X T k), drawY tt (machY P tt X T k), xown X, xop P tt X (callY P tt T (machY P tt X T k))⟩

theorem machY_ok {P : Program} {tt : TT} {X : XP} {T : Tbl} (hx : XAll P tt X) (hT : TblOk P T) (k : Nat) : Snd P (machY P tt X T k) := by
  induction k with
  | zero => exact ⟨fun _ _ _ _ h => h.elim, fun _ _ _ _ _ h => h.elim, fun _ _ _ _ _ _ h => h.elim, fun h => (nomatch h), fun h => (nomatch h), fun h => (nomatch h)⟩
  | succ k ih =>
    have hcall : ∀ f vs h Q, callY P tt T (machY P tt X T k) f vs h Q → ACalls P f vs h Q := fun f vs h Q hk => by
      simp only [callY] at hk
      split at hk
      · rename_i v hc
        rw [force_eq] at hk
        exact (hT.ct f vs v h hc).mono fun v' h' ⟨e1, e2⟩ => by subst e1; subst e2; exact hk
      · split at hk
        case h_2 => exact hk.elim
        rename_i fn hf
        split at hk
        · rename_i body hb
          split at hk
          case h_1 => exact hk.elim
          rename_i hn
          split at hk
          case h_2 => exact hk.elim
          rename_i hl
          exact ACalls.of ih hx.tt hf hb hn hl hk
        · exact hT.ex _ _ _ _ hk
    refine ⟨hcall, fun n body F h Q hk => LoopP.unfoldW ((awp_ok ih hx.tt body hk).mono fun e F h hq => ?_), fun n id ops F h Q hk => ?_,
      fun _ st hk hn => ok_xop (M := machY P tt X T (k + 1)) hcall hx.ok hx.u80 hx.meth hx.tt st hk hn,
      fun _ hp st hk => pw_xop hx.ok hx.tt hp st (fun s d x e => by rw [e] at hp; cases hp) hk, fun ho hp st hk => pq_xop hx.ok ho hx.tt hp st hk⟩
    · cases e with
      | normal => exact ih.loop _ _ _ _ _ hq
      | exit i => exact hq
      | ret => exact hq
    · simp only [machY, drawY] at hk
      split at hk
      · rename_i hq; exact DrawP.quiet ih hx.tt hx.mix hq hk
      · split at hk
        · rename_i hq; exact DrawP.wr ih hx.tt hx.mix hq hk
        · exact hk.elim

/-- A call in a heap that is wholly known. -/
theorem runY {P : Program} {tt : TT} {X : XP} {T : Tbl} (hx : XAll P tt X) (hT : TblOk P T) (k : Nat) {f : Nat} {vs : List V} {h : H} {Q : V → H → Prop} (hk : (machY P tt X T (k + 1)).call f vs h Q = True) : ACalls P f vs h Q :=
  (machY_ok hx hT (k + 1)).call f vs h Q (hk ▸ trivial)
end Go.AM
/- A call in a heap of its own, inside any heap. -/
set_option linter.unusedVariables false
namespace Go.AM
open Go

/-- A value that names nothing. -/
noncomputable def plainV : V → Bool
  | .tt => true
  | .ff => true
  | .b _ => true
  | .i _ _ => true
  | .s _ => true
  | _ => false
theorem RV.plain {c c' : Cfg} {v : V} {x : Value} (h : RV c v x) (hp : plainV v = true) : RV c' v x := by
  cases h <;> first | (cases hp; done) | constructor

theorem RowOk.still {c c' : Cfg} {g : Nat} {r : GRow} (h : RowOk c g r) (e : Evo c c') (hφ : c'.φ g = c.φ g) (hb : ∀ b, c.φ g = some (some b) → c'.w.heap[b]? = c.w.heap[b]? ∧ ∀ o, c'.Z b o → c.Z b o) : RowOk c' g r := by
  rcases h with ⟨h0, b, ents, clock, h1, h2, h3, h4, h5, h6⟩ | ⟨h0, h | ⟨b, arr, t, cap, h1, h2, h3, h4, h5, h6, h7, h8, h9, h10⟩⟩
  · refine .inl ⟨h0, b, ents, clock, hφ.trans h1, (hb b h1).1.trans h2, h3, h4, fun o hz => h5 o ((hb b h1).2 o hz), fun i cs hi => ?_⟩
    obtain ⟨k, v, en, e1, e2, e3, e4⟩ := h6 i cs hi
    exact ⟨k, v, en, e1, e2, e3.mono e, e4.mono e⟩
  · exact .inr ⟨h0, .inl ⟨hφ.trans h.1, h.2⟩⟩
  · refine .inr ⟨h0, .inr ⟨b, arr, t, cap, hφ.trans h1, (hb b h1).1.trans h2, h3, h4, h5, h6, fun i cs j v hi hj => ?_, fun o hz => h8 o ((hb b h1).2 o hz), h9, h10⟩⟩
    obtain ⟨q1, x, q2, q3⟩ := h7 i cs j v hi hj
    exact ⟨q1, x, q2, q3.mono e⟩

theorem ACalls.frame {P : Program} {f : Nat} {q : V → Prop} (k : ACalls P f [] (.ex .nil 0) (fun v _ => q v)) (hq : ∀ v, q v → plainV v = true) (h : H) (hn : h.nx = none) : ACalls P f [] h (fun v h' => h' = h ∧ q v) := by
  refine ⟨fun c xs hc hh hr => ?_⟩
  have hc0 : CfgOk ⟨c.w, c.Z, fun _ => none⟩ := ⟨⟨0, fun _ _ => rfl⟩, fun g b e => (nomatch e), hc.zlt⟩
  have hh0 : HSim ⟨c.w, c.Z, fun _ => none⟩ (.ex .nil 0) := ⟨fun g r e => (by cases e), fun g g' r r' b e => (by cases e), fun N _ g _ => rfl⟩
  have hr0 : RVs ⟨c.w, c.Z, fun _ => none⟩ [] xs := ⟨hr.len, by simp⟩
  have noB : ∀ b, ¬ Blk ⟨c.w, c.Z, fun _ => none⟩ (.ex .nil 0) b := fun b ⟨g, r, _, e⟩ => (nomatch e)
  have key : ∀ (c' : Cfg) (v : V) (x : Value) (h' : H), CfgOk c' → RV c' v x → Keep ⟨c.w, c.Z, fun _ => none⟩ (.ex .nil 0) c' h' → q v →
      ∃ c2 : Cfg, c2.w = c'.w ∧ CfgOk c2 ∧ HSim c2 h ∧ RV c2 v x ∧ Keep c h c2 h := fun c' v x h' k1 k2 k3 k4 => by
    have hs : c.w.heap.size ≤ c'.w.heap.size := k3.evo.size
    have evo : Evo c ⟨c'.w, c'.Z, c.φ⟩ := ⟨k3.evo.cell, k3.evo.z, fun _ _ e => e, k3.evo.shape, hs, k3.evo.os, k3.evo.tape, k3.evo.output⟩
    refine ⟨⟨c'.w, c'.Z, c.φ⟩, rfl, ⟨hc.fin, fun g b e => Nat.lt_of_lt_of_le (hc.φlt g b e) hs, k1.zlt⟩, ⟨fun g r e => ?_, fun g g' r r' b e e' => hh.inj g g' r r' b e e', fun N e => hh.nxt N e⟩, k2.plain (hq v k4), evo,
      fun b hb _ => k3.blk b hb (noB b), fun b o hb _ hz => k3.z b o hb (noB b) hz, fun b _ hd => hd⟩
    exact (hh.row g r e).still evo rfl fun b e' => ⟨k3.blk b (hc.φlt g b e') (noB b), fun o hz => k3.z b o (hc.φlt g b e') (noB b) hz⟩
  rcases k.out ⟨c.w, c.Z, fun _ => none⟩ xs hc0 hh0 hr0 with ⟨h1, h2⟩ | ⟨c', v, x, h', h1, h2, h3, h4, h5, h6⟩
  · refine .inl ⟨h1, h2.mono fun e w' ⟨c', v, x, h', e1, e2, e3, e4, e5, e6, e7⟩ => ?_⟩
    obtain ⟨c2, q1, q2, q3, q4, q5⟩ := key c' v x h' e3 e5 e6 e7
    exact ⟨c2, v, x, h, q1.trans e1, e2, q2, q3, q4, q5, rfl, e7⟩
  · obtain ⟨c2, q1, q2, q3, q4, q5⟩ := key c' v x h' h2 h4 h5 h6
    exact .inr ⟨c2, v, x, h, h1.trans (by rw [q1]), q2, q3, q4, q5, rfl, h6⟩
end Go.AM
