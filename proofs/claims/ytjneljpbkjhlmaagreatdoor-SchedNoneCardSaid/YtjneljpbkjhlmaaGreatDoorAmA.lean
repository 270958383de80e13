/- An abstract machine over the model's own code: values, an abstract heap, and an evaluator in strict continuation style. -/
import Derived.Calls
import Derived.Laws.World
import Derived.Laws.AppendOwn
set_option linter.unusedVariables false
set_option linter.unusedSimpArgs false
set_option linter.unnecessarySimpa false
set_option linter.unusedSectionVars false
set_option linter.unusedVariables false
namespace Go.AM
open Go

/-- Values. 'un': what a slot holds behind an operation that was not wanted; 'lst': a slice that is only read; 'gsl': a slice over a row of the abstract heap; 'box': the variable that a slot stands for; 'lptr': a pointer into a slot's box;
'ip': a pointer to cells that nobody writes any more; 'gptr': a pointer into a row of the abstract heap; 'bp': one to its beginning, the row's block being a variable of type ty; 'mp': a map (a row whose sz is 0, its elements being [key, value]). -/
inductive V where
  | dead
  | un
  | tt | ff
  | b (x : Bool)
  | i (k : IntKind) (n : Int)
  | s (l : List UInt8)
  | nils
  | emp (sz : Nat)
  | lst (sz : Nat) (es : List (List V))
  | gsl (g sz off len : Nat)
  | box (fr : Bool) (cs : List V)
  | lptr (k off : Nat)
  | ip (cs : List V)
  | gptr (g sz i off : Nat)
  | garr (g sz i off esz : Nat) (n : Nat)
  | bp (g sz ty : Nat)
  | mp (g : Nat)
  | nilm
  | nilp
  | fn (f : Nat) (caps : List V)
  | nilf
  | agg (cs : List V)
  | tup (cs : List V)
  | ifc (t : Nat) (v : V)
  | nili
  deriving Inhabited

/-- A row: its elements of sz cells each; the first fz are written no more; ty (not 0): the type of its block's elements. -/
structure GRow where
  sz : Nat
  fz : Nat
  es : List (List V)
  ty : Nat

/-- Rows by their numbers. -/
inductive Tr where
  | nil
  | node (v : Option GRow) (l r : Tr)
  | ov (k : Nat) (v : Option GRow) (t : Tr)
def Tr.get : Tr → Nat → Option GRow
  | .nil, _ => none
  | .node v l r, k => match k with
    | 0 => v
    | k + 1 => match Nat.beq (k % 2) 0 with
      | true => l.get (k / 2)
      | false => r.get (k / 2)
  | .ov k v t, x => match Nat.beq x k with
    | true => v
    | false => t.get x
def Tr.set : Nat → Tr → Nat → Option GRow → Tr
  | 0, t, k, v => .ov k v t
  | n + 1, t, k, v => match t with
    | .ov k' v' t' => .ov k v (.ov k' v' t')
    | .nil => match k with
      | 0 => .node v .nil .nil
      | k + 1 => match Nat.beq (k % 2) 0 with
        | true => .node none (Tr.set n .nil (k / 2) v) .nil
        | false => .node none .nil (Tr.set n .nil (k / 2) v)
    | .node o l r => match k with
      | 0 => .node v l r
      | k + 1 => match Nat.beq (k % 2) 0 with
        | true => .node o (Tr.set n l (k / 2) v) r
        | false => .node o l (Tr.set n r (k / 2) v)
theorem Tr.get_set (n : Nat) : ∀ (t : Tr) (k : Nat) (v : Option GRow) (x : Nat), (Tr.set n t k v).get x = if x = k then v else t.get x := by
  induction n with
  | zero =>
    intro t k v x
    simp only [Tr.set, Tr.get]
    by_cases h : x = k
    · subst h; simp
    · have : Nat.beq x k = false := by cases hb : Nat.beq x k; rfl; exact absurd (Nat.eq_of_beq_eq_true hb) h
      simp only [this, if_neg h]
  | succ n ih =>
    intro t k v x
    have ov : ∀ t', (Tr.ov k v t').get x = if x = k then v else t'.get x := by
      intro t'
      simp only [Tr.get]
      by_cases h : x = k
      · subst h; simp
      · have : Nat.beq x k = false := by cases hb : Nat.beq x k; rfl; exact absurd (Nat.eq_of_beq_eq_true hb) h
        simp only [this, if_neg h]
    have half : ∀ (a b : Nat), Nat.beq (a % 2) 0 = Nat.beq (b % 2) 0 → (a / 2 = b / 2 ↔ a + 1 = b + 1) := by
      intro a b h
      have h1 : a % 2 = 0 ∨ a % 2 = 1 := by omega
      have h2 : b % 2 = 0 ∨ b % 2 = 1 := by omega
      rcases h1 with h1 | h1 <;> rcases h2 with h2 | h2 <;> simp [h1, h2] at h <;> omega
    cases t with
    | ov k' v' t' => exact ov _
    | nil =>
      simp only [Tr.set]
      cases k with
      | zero =>
        cases x with
        | zero => simp [Tr.get]
        | succ x => cases hx : Nat.beq (x % 2) 0 <;> simp [Tr.get, hx]
      | succ k =>
        cases hk : Nat.beq (k % 2) 0
        all_goals
          simp only [hk]
          cases x with
          | zero => simp [Tr.get]
          | succ x =>
            simp only [Tr.get]
            cases hx : Nat.beq (x % 2) 0
            all_goals
              simp only [hx, ih, Tr.get]
              first
                | (have := half x k (by rw [hk, hx]); simp only [this]; done)
                | (rw [if_neg]; intro e; injection e with e; subst e; rw [hk] at hx; cases hx)
    | node o l r =>
      simp only [Tr.set]
      cases k with
      | zero =>
        cases x with
        | zero => simp [Tr.get]
        | succ x => cases hx : Nat.beq (x % 2) 0 <;> simp [Tr.get, hx]
      | succ k =>
        cases hk : Nat.beq (k % 2) 0
        all_goals
          simp only [hk]
          cases x with
          | zero => simp [Tr.get]
          | succ x =>
            simp only [Tr.get]
            cases hx : Nat.beq (x % 2) 0
            all_goals
              simp only [hx, ih, Tr.get]
              first
                | (have := half x k (by rw [hk, hx]); simp only [this]; done)
                | (rw [if_neg]; intro e; injection e with e; subst e; rw [hk] at hx; cases hx)

/-- The abstract heap: its rows by their names. 'sy': of which nothing more is known; 'ex': all of it is known, nx is the next name. -/
inductive H where
  | sy (m : Nat → Option GRow)
  | ex (t : Tr) (nx : Nat)
def H.get : H → Nat → Option GRow
  | .sy m, g => m g
  | .ex t _, g => t.get g
instance : CoeFun H (fun _ => Nat → Option GRow) := ⟨H.get⟩
def H.nx : H → Option Nat
  | .sy _ => none
  | .ex _ n => some n
/-- Is all of it known? -/
def H.md : H → Bool
  | .sy _ => false
  | .ex _ _ => true
def H.upd (h : H) (g : Nat) (o : Option GRow) : H :=
  match h with
  | .sy m => .sy fun x => if x = g then o else m x
  | .ex t n => .ex (Tr.set 24 t g o) n
def H.ins (h : H) (g : Nat) (r : GRow) : H := h.upd g (some r)
def H.del (h : H) (g : Nat) : H := h.upd g none
/-- A new row; and the next name is another one. -/
def H.new (h : H) (g : Nat) (r : GRow) : H :=
  match h with
  | .sy m => .sy fun x => if x = g then some r else m x
  | .ex t n => .ex (Tr.set 24 t g (some r)) (Nat.succ n)
/-- The cells of element i of row g, whose elements take sz cells. -/
def H.at (h : H) (g sz i : Nat) : Option (List V) := match h.get g with
  | some r => match Nat.beq r.sz sz with
    | true => match Nat.ble 1 sz with
      | true => r.es[i]?
      | false => none
    | false => none
  | none => none
/-- As above; and it may be written. -/
def H.wat (h : H) (g sz i : Nat) : Option (List V) := match h.get g with
  | some r => match Nat.beq r.sz sz with
    | true => match Nat.ble 1 sz with
      | true => match Nat.ble r.fz i with
        | true => r.es[i]?
        | false => none
      | false => none
    | false => none
  | none => none
/-- Element i of row g holds other cells. -/
def H.put (h : H) (g i : Nat) (cs : List V) : H := match h.get g with
  | some r => h.upd g (some { r with es := r.es.set i cs })
  | none => h

theorem H.upd_get (h : H) (g : Nat) (o : Option GRow) (x : Nat) : (h.upd g o) x = if x = g then o else h x := by
  cases h with
  | sy m => rfl
  | ex t n => exact Tr.get_set 24 t g o x
theorem H.new_get (h : H) (g : Nat) (r : GRow) (x : Nat) : (h.new g r) x = if x = g then some r else h x := by
  cases h with
  | sy m => rfl
  | ex t n => exact Tr.get_set 24 t g (some r) x
theorem H.upd_nx (h : H) (g : Nat) (o : Option GRow) : (h.upd g o).nx = h.nx := by cases h <;> rfl
theorem H.new_nx (h : H) (g : Nat) (r : GRow) : (h.new g r).nx = h.nx.map Nat.succ := by cases h <;> rfl
theorem H.put_nx (h : H) (g i : Nat) (cs : List V) : (h.put g i cs).nx = h.nx := by
  unfold H.put; split
  · exact H.upd_nx _ _ _
  · rfl
theorem H.put_get {h : H} {g : Nat} {r : GRow} (hg : h g = some r) (i : Nat) (cs : List V) : h.put g i cs = h.ins g { r with es := r.es.set i cs } := by
  unfold H.put; rw [hg]; rfl

abbrev Fr := List (Nat × V)

/-- What the machine knows of a type. -/
inductive TI where
  | no
  | one (z : V)
  | st (offs : List (Nat × Nat)) (z : List V)
  | ar (n esz : Nat) (z : List V)
  | sl (esz ebytes : Nat) (ez : List V)
  | pt
  | up
  | mp (kz : V) (ez : V)
  deriving Inhabited

inductive Ex where
  | normal
  | exit (id : Nat)
  | ret

/-! ### Forcing -/
def force (v : V) (K : V → Prop) : Prop :=
  match v with
  | .dead => K .dead
  | .un => K .un
  | .tt => K .tt
  | .ff => K .ff
  | .b x => K (.b x)
  | .i k n => K (.i k n)
  | .s l => K (.s l)
  | .nils => K .nils
  | .emp sz => K (.emp sz)
  | .lst sz es => K (.lst sz es)
  | .gsl g sz off len => K (.gsl g sz off len)
  | .box fr cs => K (.box fr cs)
  | .lptr k off => K (.lptr k off)
  | .ip cs => K (.ip cs)
  | .gptr g sz i off => K (.gptr g sz i off)
  | .garr g sz i off esz n => K (.garr g sz i off esz n)
  | .bp g sz ty => K (.bp g sz ty)
  | .mp g => K (.mp g)
  | .nilm => K .nilm
  | .nilp => K .nilp
  | .fn f caps => K (.fn f caps)
  | .nilf => K .nilf
  | .agg cs => K (.agg cs)
  | .tup cs => K (.tup cs)
  | .ifc t v => K (.ifc t v)
  | .nili => K .nili
theorem force_eq (v : V) (K : V → Prop) : force v K = K v := by cases v <;> rfl

def forceL : List V → (List V → Prop) → Prop
  | [], K => K []
  | v :: r, K => force v fun v => forceL r fun r => K (v :: r)
theorem forceL_eq (l : List V) : ∀ K : List V → Prop, forceL l K = K l := by
  induction l with
  | nil => intro K; rfl
  | cons v r ih => intro K; simp only [forceL, force_eq, ih]

def forceF : Fr → (Fr → Prop) → Prop
  | [], K => K []
  | (k, v) :: r, K => forceF r fun r => K ((k, v) :: r)
theorem forceF_eq (l : Fr) : ∀ K : Fr → Prop, forceF l K = K l := by
  induction l with
  | nil => intro K; rfl
  | cons x r ih => obtain ⟨k, v⟩ := x; intro K; simp only [forceF, ih]

/-! ### Slots -/
def look : Fr → Nat → V
  | [], _ => .dead
  | (k, v) :: r, d => match Nat.beq k d with
    | true => v
    | false => look r d
def setF : Fr → Nat → V → Fr
  | [], d, v => [(d, v)]
  | (k, x) :: r, d, v => match Nat.beq k d with
    | true => (k, v) :: r
    | false => match Nat.ble d k with
      | true => (d, v) :: (k, x) :: r
      | false => (k, x) :: setF r d v
theorem beq_ne {k d : Nat} (h : k ≠ d) : Nat.beq k d = false := by
  cases hb : Nat.beq k d
  · rfl
  · exact absurd (Nat.eq_of_beq_eq_true hb) h
theorem beq_of {k d : Nat} (h : Nat.beq k d = true) : k = d := Nat.eq_of_beq_eq_true h
theorem beq_not {k d : Nat} (h : Nat.beq k d = false) : k ≠ d := Nat.ne_of_beq_eq_false h
theorem look_setF_same (F : Fr) (d : Nat) (v : V) : look (setF F d v) d = v := by
  induction F with
  | nil => simp [setF, look]
  | cons x r ih =>
    obtain ⟨k, x⟩ := x
    simp only [setF]
    split
    · rename_i h; simp only [look, h]
    · split
      · simp [look]
      · rename_i h _ _; simp only [look, h, ih]
theorem look_setF_ne (F : Fr) (d e : Nat) (v : V) (hne : e ≠ d) : look (setF F d v) e = look F e := by
  induction F with
  | nil => simp only [setF, look, beq_ne hne.symm]
  | cons x r ih =>
    obtain ⟨k, x⟩ := x
    simp only [setF]
    split
    · rename_i h
      have hk : k = d := by simpa using h
      subst hk
      simp only [look, beq_ne hne.symm]
    · split
      · simp only [look, beq_ne hne.symm]
      · simp only [look, ih]
/-- The slots of a list alone are kept. -/
def has : List Nat → Nat → Bool
  | [], _ => false
  | k :: r, d => match Nat.beq k d with
    | true => true
    | false => has r d
def keep (ks : List Nat) : Fr → Fr
  | [] => []
  | (k, v) :: r => match has ks k with
    | true => (k, v) :: keep ks r
    | false => keep ks r
theorem look_keep (ks : List Nat) (F : Fr) (d : Nat) : look (keep ks F) d = .dead ∨ look (keep ks F) d = look F d := by
  induction F with
  | nil => exact .inl rfl
  | cons x r ih =>
    obtain ⟨k, x⟩ := x
    simp only [keep]
    by_cases hk : Nat.beq k d = true
    · split
      · exact .inr (by simp only [look, hk])
      · rename_i hh
        have hkd : k = d := by simpa using hk
        subst hkd
        left
        clear ih
        induction r with
        | nil => rfl
        | cons y r ih =>
          obtain ⟨k', y⟩ := y
          simp only [keep]
          split
          · rename_i hh'
            have : Nat.beq k' k = false := by
              cases hb : Nat.beq k' k
              · rfl
              · have : k' = k := by simpa using hb
                subst this
                rw [hh] at hh'; cases hh'
            simp only [look, this, ih]
          · exact ih
    · have hk' : Nat.beq k d = false := by cases hb : Nat.beq k d <;> simp_all
      split
      · simp only [look, hk']; exact ih
      · simp only [look, hk']; exact ih

/-! ### Reading operands -/
def cv : Value → V
  | .bool true => .tt
  | .bool false => .ff
  | .int k n => .i k n
  | .string s => .s s.data.toList
  | .slice none 0 0 => .nils
  | .pointer none => .nilp
  | .map none => .nilm
  | .nilFunc => .nilf
  | .nilIface => .nili
  | _ => .dead
/-- 'look', as the kernel reckons it fastest. -/
noncomputable def lookR (F : Fr) (d : Nat) : V :=
  @List.rec (Nat × V) (fun _ => V) .dead (fun x _ ih => @Bool.rec (fun _ => V) ih x.2 (Nat.beq x.1 d)) F
theorem lookR_eq (F : Fr) (d : Nat) : lookR F d = look F d := by
  induction F with
  | nil => rfl
  | cons x r ih =>
    obtain ⟨k, v⟩ := x
    show @Bool.rec (fun _ => V) (lookR r d) v (Nat.beq k d) = _
    simp only [look]
    cases Nat.beq k d
    · exact ih
    · rfl
/-- 'setF', handed on in normal form. -/
noncomputable def setK (F : Fr) (d : Nat) (v : V) : (Fr → Prop) → Prop :=
  @List.rec (Nat × V) (fun _ => (Fr → Prop) → Prop) (fun K => K [(d, v)])
    (fun x r ih K => @Bool.rec (fun _ => Prop) (@Bool.rec (fun _ => Prop) (ih fun r => K (x :: r)) (K ((d, v) :: x :: r)) (Nat.ble d x.1)) (K ((x.1, v) :: r)) (Nat.beq x.1 d)) F
theorem setK_eq (F : Fr) (d : Nat) (v : V) : ∀ K : Fr → Prop, setK F d v K = K (setF F d v) := by
  induction F with
  | nil => intro K; rfl
  | cons x r ih =>
    obtain ⟨k, x⟩ := x
    intro K
    show @Bool.rec (fun _ => Prop) (@Bool.rec (fun _ => Prop) (setK r d v fun r => K ((k, x) :: r)) (K ((d, v) :: (k, x) :: r)) (Nat.ble d k)) (K ((k, v) :: r)) (Nat.beq k d) = _
    simp only [setF]
    cases Nat.beq k d
    · cases Nat.ble d k
      · exact ih _
      · rfl
    · rfl
noncomputable def ev (F : Fr) : Operand → V
  | .tmp t => match lookR F t with
    | .box _ _ => .lptr t 0
    | v => v
  | .const v => cv v
  | .func f => .fn f []
  | .global _ => .dead

/-- May a value leave the frame? -/
def port : V → Bool
  | .lptr _ _ => false
  | .box _ _ => false
  | .dead => false
  | .un => false
  | _ => true
def portL : List V → Bool
  | [] => true
  | v :: r => match port v with
    | true => portL r
    | false => false
/-- One cell, and it may lie in memory. -/
def cell1 : V → Bool
  | .lptr _ _ => false
  | .box _ _ => false
  | .dead => false
  | .un => false
  | .agg _ => false
  | .tup _ => false
  | .garr _ _ _ _ _ _ => false
  | _ => true
def cellL : List V → Bool
  | [] => true
  | v :: r => match cell1 v with
    | true => cellL r
    | false => false
/-- The cells of a value. -/
def cellsOf : V → List V
  | .agg cs => cs
  | v => [v]

def len : List V → Nat
  | [] => 0
  | _ :: r => Nat.succ (len r)
theorem len_eq (l : List V) : len l = l.length := by induction l <;> simp_all [len]
def nth : List V → Nat → V
  | [], _ => .dead
  | v :: _, 0 => v
  | _ :: r, n + 1 => nth r n
theorem nth_eq (l : List V) : ∀ n v, l[n]? = some v → nth l n = v := by
  induction l with
  | nil => intro n v h; simp at h
  | cons x r ih => intro n v h; cases n <;> simp_all [nth]
def cut : List V → Nat → Nat → List V
  | l, 0, n => match n, l with
    | 0, _ => []
    | _ + 1, [] => []
    | n + 1, v :: r => v :: cut r 0 n
  | [], _ + 1, _ => []
  | _ :: r, off + 1, n => cut r off n
theorem cut_eq (l : List V) : ∀ off n, cut l off n = (l.drop off).take n := by
  induction l with
  | nil => intro off n; cases off <;> cases n <;> simp [cut]
  | cons x r ih =>
    intro off n
    cases off with
    | zero => cases n <;> simp [cut, ih]
    | succ off => simp [cut, ih]
/-- l with the cells from off on replaced. -/
def splice : List V → Nat → List V → List V
  | l, _, [] => l
  | [], _, _ => []
  | _ :: r, 0, c :: cs => c :: splice r 0 cs
  | x :: r, off + 1, cs => x :: splice r off cs
theorem splice_length (l : List V) : ∀ off cs, (splice l off cs).length = l.length := by
  induction l with
  | nil => intro off cs; cases cs <;> simp [splice]
  | cons x r ih => intro off cs; cases cs <;> cases off <;> simp [splice, ih]

/-- A value of type info loaded out of cells, at off. -/
def loadC (ti : TI) (cs : List V) (off : Nat) (K : V → Prop) : Prop :=
  match ti with
  | .no => False
  | .st _ z | .ar _ _ z => forceL (cut cs off (len z)) fun l => match Nat.beq (len l) (len z) with
    | true => K (.agg l)
    | false => False
  | _ => force (nth cs off) fun v => match cell1 v with
    | true => K v
    | false => False

def drop : List V → Nat → List V
  | l, 0 => l
  | [], _ + 1 => []
  | _ :: r, n + 1 => drop r n
theorem drop_eq (l : List V) : ∀ n, drop l n = l.drop n := by
  induction l with
  | nil => intro n; cases n <;> simp [drop]
  | cons x r ih => intro n; cases n <;> simp [drop, ih]

end Go.AM
/- The meaning of the abstract machine's states in the model's worlds. -/
set_option linter.unusedVariables false
namespace Go.AM
open Go

/-- A configuration: the world, the cells that nobody writes any more, and where the rows of the abstract heap lie ('some none': a row without memory, a nil slice). -/
structure Cfg where
  w : World
  Z : Nat → Nat → Prop
  φ : Nat → Option (Option Nat)

inductive RV (c : Cfg) : V → Value → Prop
  | dead (x : Value) : RV c .dead x
  | un : RV c .un undef
  | tt : RV c .tt (.bool true)
  | ff : RV c .ff (.bool false)
  | b (x : Bool) : RV c (.b x) (.bool x)
  | i (k : IntKind) (n : Int) : RV c (.i k n) (.int k n)
  | s (l : List UInt8) : RV c (.s l) (.string ⟨l.toArray⟩)
  | nils : RV c .nils (.slice none 0 0)
  | emp (sz : Nat) (a : Option Addr) : RV c (.emp sz) (.slice a 0 0)
  | lst0 (sz : Nat) (a : Option Addr) (cap : Nat) : RV c (.lst sz []) (.slice a 0 cap)
  | lst (sz : Nat) (es : List (List V)) (b off cap : Nat) (hsz : ∀ (i : Nat) (cs : List V), es[i]? = some cs → cs.length = sz) (hcap : es.length ≤ cap ∧ es.length ≤ maxLen) (hcl : ∀ (i : Nat) (cs : List V), es[i]? = some cs → cellL cs = true)
      (hc : ∀ (i : Nat) (cs : List V) (j : Nat) (v : V), es[i]? = some cs → cs[j]? = some v → c.Z b (off + i * sz + j) ∧ ∃ x, c.w.cell? ⟨b, off + i * sz + j, none⟩ = some x)
      (hr : ∀ (i : Nat) (cs : List V) (j : Nat) (v : V) (x : Value), es[i]? = some cs → cs[j]? = some v → c.w.cell? ⟨b, off + i * sz + j, none⟩ = some x → RV c v x) :
      RV c (.lst sz es) (.slice (some ⟨b, off, none⟩) es.length cap)
  | gsl0 (g sz : Nat) (h : c.φ g = some none) : RV c (.gsl g sz 0 0) (.slice none 0 0)
  | gsl (g sz off len b : Nat) (ad : Addr) (cap : Nat) (e : TypeId) (h : c.φ g = some (some b)) (hb : ad.block = b) (ha : 0 < len ∨ off = 0 → ad = ⟨b, off * sz, none⟩)
      (hs : c.w.shape? b = some (e, (off + cap) * sz)) (hl : len ≤ cap) : RV c (.gsl g sz off len) (.slice (some ad) len cap)
  | ip (cs : List V) (b off : Nat)
      (hc : ∀ (j : Nat) (v : V), cs[j]? = some v → c.Z b (off + j) ∧ ∃ x, c.w.cell? ⟨b, off + j, none⟩ = some x)
      (hr : ∀ (j : Nat) (v : V) (x : Value), cs[j]? = some v → c.w.cell? ⟨b, off + j, none⟩ = some x → RV c v x) : RV c (.ip cs) (.pointer (some ⟨b, off, none⟩))
  | gptr (g sz i off b : Nat) (h : c.φ g = some (some b)) : RV c (.gptr g sz i off) (.pointer (some ⟨b, i * sz + off, none⟩))
  | garr (g sz i off esz n b : Nat) (h : c.φ g = some (some b)) : RV c (.garr g sz i off esz n) (.pointer (some ⟨b, i * sz + off + n * esz, none⟩))
  | bp (g sz ty b : Nat) (h : c.φ g = some (some b)) (hs : c.w.shape? b = some (ty, sz)) (h0 : 0 < sz) : RV c (.bp g sz ty) (.pointer (some ⟨b, 0, none⟩))
  | mp (g b : Nat) (h : c.φ g = some (some b)) : RV c (.mp g) (.map (some b))
  | nilm : RV c .nilm (.map none)
  | nilp : RV c .nilp (.pointer none)
  | fn (f : Nat) (caps : List V) (xs : List Value) (hl : caps.length = xs.length) (hr : ∀ (i : Nat) (v : V) (x : Value), caps[i]? = some v → xs[i]? = some x → RV c v x) :
      RV c (.fn f caps) (.func (.func f) #[] xs.toArray)
  | nilf : RV c .nilf .nilFunc
  | agg (cs : List V) (xs : List Value) (hl : cs.length = xs.length) (hr : ∀ (i : Nat) (v : V) (x : Value), cs[i]? = some v → xs[i]? = some x → RV c v x) : RV c (.agg cs) (.agg xs.toArray)
  | tup (cs : List V) (xs : List Value) (hl : cs.length = xs.length) (hr : ∀ (i : Nat) (v : V) (x : Value), cs[i]? = some v → xs[i]? = some x → RV c v x) : RV c (.tup cs) (.tuple xs.toArray)
  | ifc (t : Nat) (v : V) (x : Value) (h : RV c v x) : RV c (.ifc t v) (.iface t x)
  | nili : RV c .nili .nilIface

structure RVs (c : Cfg) (vs : List V) (xs : List Value) : Prop where
  len : vs.length = xs.length
  at_ : ∀ (i : Nat) (v : V) (x : Value), vs[i]? = some v → xs[i]? = some x → RV c v x

theorem RVs.nil (c : Cfg) : RVs c [] [] := ⟨rfl, by simp⟩
theorem RVs.cons {c : Cfg} {v : V} {x : Value} {vs : List V} {xs : List Value} (h : RV c v x) (hs : RVs c vs xs) : RVs c (v :: vs) (x :: xs) :=
  ⟨by simp [hs.len], fun i v' x' h1 h2 => by
    cases i with
    | zero => simp at h1 h2; subst h1; subst h2; exact h
    | succ i => exact hs.at_ i v' x' (by simpa using h1) (by simpa using h2)⟩
theorem RVs.append {c : Cfg} {vs us : List V} {xs ys : List Value} (h : RVs c vs xs) (k : RVs c us ys) : RVs c (vs ++ us) (xs ++ ys) :=
  ⟨by simp [h.len, k.len], fun i v x h1 h2 => by
    rw [List.getElem?_append] at h1 h2
    split at h1
    · rename_i hi
      rw [if_pos (h.len ▸ hi)] at h2
      exact h.at_ i v x h1 h2
    · rename_i hi
      rw [if_neg (h.len ▸ hi)] at h2
      exact k.at_ _ v x h1 (h.len ▸ h2)⟩
theorem RVs.head {c : Cfg} {v : V} {x : Value} {vs : List V} {xs : List Value} (h : RVs c (v :: vs) (x :: xs)) : RV c v x := h.at_ 0 v x rfl rfl
theorem RVs.tail {c : Cfg} {v : V} {x : Value} {vs : List V} {xs : List Value} (h : RVs c (v :: vs) (x :: xs)) : RVs c vs xs :=
  ⟨by simpa using h.len, fun i v' x' h1 h2 => h.at_ (i + 1) v' x' (by simpa using h1) (by simpa using h2)⟩
theorem RVs.nil_inv {c : Cfg} {xs : List Value} (h : RVs c [] xs) : xs = [] := List.eq_nil_of_length_eq_zero (by simpa using h.len.symm)
theorem RVs.cons_inv {c : Cfg} {v : V} {vs : List V} {xs : List Value} (h : RVs c (v :: vs) xs) : ∃ x r, xs = x :: r ∧ RV c v x ∧ RVs c vs r := by
  cases xs with
  | nil => have := h.len; simp at this
  | cons x r => exact ⟨x, r, rfl, h.head, h.tail⟩
theorem RVs.drop {c : Cfg} {vs : List V} {xs : List Value} (h : RVs c vs xs) (n : Nat) : RVs c (vs.drop n) (xs.drop n) :=
  ⟨by simp [h.len], fun i v x h1 h2 => h.at_ (n + i) v x (by simpa using h1) (by simpa using h2)⟩
theorem RVs.take {c : Cfg} {vs : List V} {xs : List Value} (h : RVs c vs xs) (n : Nat) : RVs c (vs.take n) (xs.take n) :=
  ⟨by simp [h.len], fun i v x h1 h2 => by
    rw [List.getElem?_take] at h1 h2
    split at h1
    · rename_i hi; rw [if_pos hi] at h2; exact h.at_ i v x h1 h2
    · cases h1⟩

theorem RV.fn' {c : Cfg} {f : Nat} {caps : List V} {xs : List Value} (h : RVs c caps xs) : RV c (.fn f caps) (.func (.func f) #[] xs.toArray) := .fn f caps xs h.len h.at_
theorem RV.agg' {c : Cfg} {cs : List V} {xs : List Value} (h : RVs c cs xs) : RV c (.agg cs) (.agg xs.toArray) := .agg cs xs h.len h.at_
theorem RV.tup' {c : Cfg} {cs : List V} {xs : List Value} (h : RVs c cs xs) : RV c (.tup cs) (.tuple xs.toArray) := .tup cs xs h.len h.at_

/-- What only grows. -/
structure Evo (c c' : Cfg) : Prop where
  cell : ∀ b o, c.Z b o → c'.w.cell? ⟨b, o, none⟩ = c.w.cell? ⟨b, o, none⟩
  z : ∀ b o, c.Z b o → c'.Z b o
  φ : ∀ g x, c.φ g = some x → c'.φ g = some x
  shape : ∀ b s, c.w.shape? b = some s → c'.w.shape? b = some s
  size : c.w.heap.size ≤ c'.w.heap.size
  os : c'.w.os = c.w.os
  tape : c'.w.tape = c.w.tape
  output : c'.w.output = c.w.output
theorem Evo.refl (c : Cfg) : Evo c c := ⟨fun _ _ _ => rfl, fun _ _ h => h, fun _ _ h => h, fun _ _ h => h, Nat.le_refl _, rfl, rfl, rfl⟩
theorem Evo.trans {a b c : Cfg} (h : Evo a b) (k : Evo b c) : Evo a c :=
  ⟨fun x o hz => (k.cell x o (h.z x o hz)).trans (h.cell x o hz), fun x o hz => k.z x o (h.z x o hz), fun g x hg => k.φ g x (h.φ g x hg),
   fun b s hb => k.shape b s (h.shape b s hb), Nat.le_trans h.size k.size, k.os.trans h.os, k.tape.trans h.tape, k.output.trans h.output⟩

theorem RV.mono {c c' : Cfg} {v : V} {x : Value} (h : RV c v x) (e : Evo c c') : RV c' v x := by
  induction h with
  | dead x => exact .dead x
  | un => exact .un
  | tt => exact .tt
  | ff => exact .ff
  | b x => exact .b x
  | i k n => exact .i k n
  | s l => exact .s l
  | nils => exact .nils
  | emp sz a => exact .emp sz a
  | lst0 sz a cap => exact .lst0 sz a cap
  | lst sz es b off cap hsz hcap hcl hc hr ih =>
    refine .lst sz es b off cap hsz hcap hcl (fun i cs j v h1 h2 => ?_) (fun i cs j v x h1 h2 h3 => ?_)
    · obtain ⟨hz, x, hx⟩ := hc i cs j v h1 h2
      exact ⟨e.z _ _ hz, x, (e.cell _ _ hz).trans hx⟩
    · obtain ⟨hz, _⟩ := hc i cs j v h1 h2
      exact ih i cs j v x h1 h2 ((e.cell _ _ hz).symm.trans h3)
  | gsl0 g sz h => exact .gsl0 g sz (e.φ _ _ h)
  | gsl g sz off len b ad cap t h hb ha hs hl => exact .gsl g sz off len b ad cap t (e.φ _ _ h) hb ha (e.shape _ _ hs) hl
  | ip cs b off hc hr ih =>
    refine .ip cs b off (fun j v h2 => ?_) (fun j v x h2 h3 => ?_)
    · obtain ⟨hz, x, hx⟩ := hc j v h2
      exact ⟨e.z _ _ hz, x, (e.cell _ _ hz).trans hx⟩
    · obtain ⟨hz, _⟩ := hc j v h2
      exact ih j v x h2 ((e.cell _ _ hz).symm.trans h3)
  | gptr g sz i off b h => exact .gptr g sz i off b (e.φ _ _ h)
  | garr g sz i off esz n b h => exact .garr g sz i off esz n b (e.φ _ _ h)
  | bp g sz ty b h hs h0 => exact .bp g sz ty b (e.φ _ _ h) (e.shape _ _ hs) h0
  | mp g b h => exact .mp g b (e.φ _ _ h)
  | nilm => exact .nilm
  | nilp => exact .nilp
  | fn f caps xs hl hr ih => exact .fn f caps xs hl ih
  | nilf => exact .nilf
  | agg cs xs hl hr ih => exact .agg cs xs hl ih
  | tup cs xs hl hr ih => exact .tup cs xs hl ih
  | ifc t v x h ih => exact .ifc t v x ih
  | nili => exact .nili
theorem RVs.mono {c c' : Cfg} {vs : List V} {xs : List Value} (h : RVs c vs xs) (e : Evo c c') : RVs c' vs xs := ⟨h.len, fun i v x h1 h2 => (h.at_ i v x h1 h2).mono e⟩

/-- A map, as it lies. -/
def MapOk (c : Cfg) (g : Nat) (r : GRow) : Prop :=
  ∃ b ents clock, c.φ g = some (some b) ∧ c.w.heap[b]? = some (.map ents clock) ∧ ents.size = r.es.length ∧ r.es.length ≤ maxLen ∧ (∀ o, ¬ c.Z b o) ∧
    ∀ (i : Nat) (cs : List V), r.es[i]? = some cs → ∃ k v en, cs = [k, v] ∧ ents[i]? = some en ∧ RV c k en.key ∧ RV c v en.val
/-- A row of the abstract heap, as it lies. -/
def RowOk (c : Cfg) (g : Nat) (r : GRow) : Prop :=
  (r.sz = 0 ∧ MapOk c g r) ∨ 0 < r.sz ∧ ((c.φ g = some none ∧ r.es = [] ∧ r.fz = 0) ∨
  ∃ b arr e cap, c.φ g = some (some b) ∧ c.w.heap[b]? = some (.cells arr e (0, 0)) ∧ arr.size = cap * r.sz ∧ r.es.length ≤ cap ∧ cap ≤ maxLen ∧
    (∀ (i : Nat) (cs : List V), r.es[i]? = some cs → cs.length = r.sz) ∧
    (∀ (i : Nat) (cs : List V) (j : Nat) (v : V), r.es[i]? = some cs → cs[j]? = some v → cell1 v = true ∧ ∃ x, arr[i * r.sz + j]? = some x ∧ RV c v x) ∧
    (∀ o, c.Z b o → o < r.fz * r.sz) ∧ r.fz ≤ r.es.length ∧ (r.ty ≠ 0 → e = r.ty))

/-- A block that the abstract heap holds. -/
def Blk (c : Cfg) (h : H) (b : Nat) : Prop := ∃ g r, h g = some r ∧ c.φ g = some (some b)

structure HSim (c : Cfg) (h : H) : Prop where
  row : ∀ g r, h g = some r → RowOk c g r
  inj : ∀ g g' r r' b, h g = some r → h g' = some r' → c.φ g = some (some b) → c.φ g' = some (some b) → g = g'
  nxt : ∀ N, h.nx = some N → ∀ g, N ≤ g → c.φ g = none

structure CfgOk (c : Cfg) : Prop where
  fin : ∃ N, ∀ g, N ≤ g → c.φ g = none
  φlt : ∀ g b, c.φ g = some (some b) → b < c.w.heap.size
  zlt : ∀ b o, c.Z b o → b < c.w.heap.size

/-- What a call may do to what was there. -/
structure Keep (c : Cfg) (h : H) (c' : Cfg) (h' : H) : Prop where
  evo : Evo c c'
  blk : ∀ b, b < c.w.heap.size → ¬ Blk c h b → c'.w.heap[b]? = c.w.heap[b]?
  z : ∀ b o, b < c.w.heap.size → ¬ Blk c h b → c'.Z b o → c.Z b o
  dom : ∀ b, b < c.w.heap.size → Blk c' h' b → Blk c h b
theorem Keep.refl (c : Cfg) (h : H) : Keep c h c h := ⟨.refl c, fun _ _ _ => rfl, fun _ _ _ _ h => h, fun _ _ h => h⟩
theorem Keep.trans {c c1 c2 : Cfg} {h h1 h2 : H} (k : Keep c h c1 h1) (l : Keep c1 h1 c2 h2) : Keep c h c2 h2 := by
  have hs := k.evo.size
  refine ⟨k.evo.trans l.evo, fun b hb hn => ?_, fun b o hb hn hz => ?_, fun b hb hd => ?_⟩
  · have hn1 : ¬ Blk c1 h1 b := fun hd => hn (k.dom b hb hd)
    exact (l.blk b (by omega) hn1).trans (k.blk b hb hn)
  · have hn1 : ¬ Blk c1 h1 b := fun hd => hn (k.dom b hb hd)
    exact k.z b o hb hn (l.z b o (by omega) hn1 hz)
  · exact k.dom b hb (l.dom b (by omega) hd)

/-- What a slot of a frame holds. -/
def SlotOk (c : Cfg) (h : H) (F : Fr) (bb : Nat → Nat) (base : Nat) (k : Nat) : V → Value → Prop
  | .box fr cs, x => x = .pointer (some ⟨bb k, 0, none⟩) ∧ base ≤ bb k ∧ ¬ Blk c h (bb k) ∧
      ∃ arr e, c.w.heap[bb k]? = some (.cells arr e (0, 0)) ∧ arr.size = cs.length ∧ cellL cs = true ∧ (∀ (j : Nat) (v : V), cs[j]? = some v → ∃ y, arr[j]? = some y ∧ RV c v y) ∧
        (if fr then ∀ (j : Nat) (v : V), cs[j]? = some v → c.Z (bb k) j else ∀ o, ¬ c.Z (bb k) o)
  | .lptr k' off, x => ∀ fr cs, look F k' = .box fr cs → x = .pointer (some ⟨bb k', off, none⟩)
  | v, x => RV c v x

structure FSim (base n : Nat) (c : Cfg) (h : H) (bb : Nat → Nat) (F : Fr) (a : Act) : Prop where
  size : a.tmps.size = n
  defers : a.defers = []
  slot : ∀ k, k < n → SlotOk c h F bb base k (look F k) (a.tmps.getD k undef)
  high : ∀ k, n ≤ k → look F k = .dead
  inj : ∀ k k' fr cs fr' cs', look F k = .box fr cs → look F k' = .box fr' cs' → bb k = bb k' → k = k'

/-- Everything together: F, h mean a, w; and since c0, h0 nothing else was touched. -/
def Good (c0 : Cfg) (h0 : H) (n : Nat) (F : Fr) (h : H) (a : Act) (w : World) : Prop :=
  ∃ c bb, c.w = w ∧ Keep c0 h0 c h ∧ CfgOk c ∧ HSim c h ∧ FSim c0.w.heap.size n c h bb F a

def exOf : Ex → Exit
  | .normal => .normal
  | .exit id => .exit id
  | .ret => .ret

/-- The code goes from F, h to Q. -/
structure AW (P : Program) (n : Nat) (code : Code) (F : Fr) (h : H) (Q : Ex → Fr → H → Prop) : Prop where
  out : ∀ (c0 : Cfg) (h0 : H) (a : Act) (w : World), Good c0 h0 n F h a w → code.wp P (fun e a' w' => ∃ ex F' h', exOf ex = e ∧ Good c0 h0 n F' h' a' w' ∧ Q ex F' h') a w
/-- A loop at its head. -/
def WL (P : Program) (c : Code) (Q : Exit → Act → World → Prop) (a : Act) (w : World) : Prop :=
  ∀ (b : Frame) (k : List Item) (cs : List Frame), ∃ e a' w', Q e a' w' ∧ Arrives P (lone (b.at a (.code c :: .inLoop c :: k)) cs w) b k cs e a' w'
/-- A loop, to be walked by its rules. -/
structure LoopP (P : Program) (n : Nat) (body : Code) (F : Fr) (h : H) (Q : Ex → Fr → H → Prop) : Prop where
  out : ∀ (c0 : Cfg) (h0 : H) (a : Act) (w : World), Good c0 h0 n F h a w → WL P body (fun e a' w' => ∃ ex F' h', exOf ex = e ∧ Good c0 h0 n F' h' a' w' ∧ Q ex F' h') a w
/-- A region whose order is drawn, to be walked by its rules. -/
structure DrawP (P : Program) (n : Nat) (id : Nat) (ops : Array Oper) (F : Fr) (h : H) (Q : Fr → H → Prop) : Prop where
  out : AW P n (.region id ops true) F h fun e F h => match e with
    | .normal => Q F h
    | _ => False

/-- f has a text of its own. -/
def Ent (P : Program) (f : Nat) : Prop := ∃ fn, P.funcs[f]? = some fn ∧ fn.body.isSome = true ∧ (fn.name == "runtime.NumGoroutine") = false

/-- A call of f, in abstract terms. -/
structure ACalls (P : Program) (f : Nat) (vs : List V) (h : H) (Q : V → H → Prop) : Prop where
  out : ∀ (c : Cfg) (xs : List Value), CfgOk c → HSim c h → RVs c vs xs →
    (Ent P f ∧ Calls P f xs.toArray c.w fun e w' => ∃ c' v x h', c'.w = w' ∧ e = .returned x ∧ CfgOk c' ∧ HSim c' h' ∧ RV c' v x ∧ Keep c h c' h' ∧ Q v h') ∨
    ∃ c' v x h', (callFunc f xs.toArray).run P c.w = .ok (.value x) c'.w ∧ CfgOk c' ∧ HSim c' h' ∧ RV c' v x ∧ Keep c h c' h' ∧ Q v h'

theorem ACalls.mono {P : Program} {f : Nat} {vs : List V} {h : H} {Q Q' : V → H → Prop} (k : ACalls P f vs h Q) (hq : ∀ v h', Q v h' → Q' v h') : ACalls P f vs h Q' :=
  ⟨fun c xs hc hh hr => (k.out c xs hc hh hr).imp (fun ⟨e, k⟩ => ⟨e, k.mono fun e w' ⟨c', v, x, h', h1, h2, h3, h4, h5, h6, h7⟩ => ⟨c', v, x, h', h1, h2, h3, h4, h5, h6, hq v h' h7⟩⟩)
    fun ⟨c', v, x, h', h1, h3, h4, h5, h6, h7⟩ => ⟨c', v, x, h', h1, h3, h4, h5, h6, hq v h' h7⟩⟩

end Go.AM
/- The evaluator: what is owed for a piece of code to end in Q. -/
set_option linter.unusedVariables false
namespace Go.AM
open Go

abbrev TT := Nat → TI

noncomputable def put (n : Nat) (F : Fr) (dst : Option Nat) (v : V) (K : Fr → Prop) : Prop :=
  match dst with
  | none => K F
  | some d => match Nat.ble (Nat.succ d) n with
    | true => force v fun v => setK F d v K
    | false => False

noncomputable def noRef (d : Nat) : Fr → Bool
  | [] => true
  | (_, v) :: r => match v with
    | .lptr k _ => match Nat.beq k d with
      | true => false
      | false => noRef d r
    | _ => noRef d r
noncomputable def putBox (n : Nat) (F : Fr) (dst : Option Nat) (cs : List V) (K : Fr → Prop) : Prop :=
  match dst with
  | none => False
  | some d => match Nat.ble (Nat.succ d) n with
    | true => match noRef d F with
      | true => match cellL cs with
        | true => forceL cs fun cs => setK F d (.box false cs) K
        | false => False
      | false => False
    | false => False

/-! Of a heap that is known the goal is reckoned to its end ('md'); else it stands still where something is asked. -/
/-- A value that is a truth. -/
inductive bvI : V → Bool → Prop
  | b (x : Bool) : bvI (.b x) x
  | tt : bvI .tt true
  | ff : bvI .ff false
noncomputable def withB (md : Bool) (x : Bool) (K : Bool → Prop) : Prop :=
  match md with
  | false => (x = true → K true) ∧ (x = false → K false)
  | true => match x with
    | true => K true
    | false => K false
noncomputable def chk (md : Bool) (p : Prop) [Decidable p] (K : Prop) : Prop :=
  match md with
  | false => p ∧ K
  | true => match decide p with
    | true => K
    | false => False
noncomputable def imp (md : Bool) (p : Prop) (K : Prop) : Prop :=
  match md with
  | false => p → K
  | true => K
noncomputable def forceN (n : Nat) (K : Nat → Prop) : Prop :=
  match n with
  | 0 => K 0
  | m + 1 => K (Nat.succ m)
noncomputable def mkI (md : Bool) (k : IntKind) (n : Int) (K : V → Prop) : Prop :=
  match md with
  | false => K (.i k n)
  | true => match n with
    | .ofNat m => forceN m fun m => K (.i k (.ofNat m))
    | .negSucc m => forceN m fun m => K (.i k (.negSucc m))
noncomputable def mkB (md : Bool) (x : Bool) (K : V → Prop) : Prop :=
  match md with
  | false => K (.b x)
  | true => match x with
    | true => K .tt
    | false => K .ff
noncomputable def forceS : List UInt8 → (List UInt8 → Prop) → Prop
  | [], K => K []
  | c :: r, K => forceS r fun r => K (c :: r)
noncomputable def mkS (md : Bool) (l : List UInt8) (K : V → Prop) : Prop :=
  match md with
  | false => K (.s l)
  | true => forceS l fun l => K (.s l)
noncomputable def forceE : List (List V) → (List (List V) → Prop) → Prop
  | [], K => K []
  | c :: r, K => forceE r fun r => K (c :: r)
noncomputable def atL (md : Bool) (es : List (List V)) (i : Nat) (K : List V → Prop) : Prop :=
  match md with
  | false => ∀ cs, es[i]? = some cs → K cs
  | true => match es[i]? with
    | some cs => K cs
    | none => False
noncomputable def atS (md : Bool) (l : List UInt8) (i : Nat) (K : UInt8 → Prop) : Prop :=
  match md with
  | false => ∀ c, l[i]? = some c → K c
  | true => match l[i]? with
    | some c => K c
    | none => False
noncomputable def getR (h : H) (g : Nat) (K : GRow → Prop) : Prop :=
  match h with
  | .sy m => ∃ r, m g = some r ∧ K r
  | .ex t _ => match t.get g with
    | some r => K r
    | none => False
noncomputable def atH (h : H) (g sz i : Nat) (K : List V → Prop) : Prop :=
  match h with
  | .sy m => ∃ cs, (H.sy m).at g sz i = some cs ∧ K cs
  | .ex t n => match (H.ex t n).at g sz i with
    | some cs => K cs
    | none => False
noncomputable def watH (h : H) (g sz i : Nat) (K : List V → Prop) : Prop :=
  match h with
  | .sy m => ∃ cs, (H.sy m).wat g sz i = some cs ∧ K cs
  | .ex t n => match (H.ex t n).wat g sz i with
    | some cs => K cs
    | none => False
noncomputable def forceT (t : Tr) (K : Tr → Prop) : Prop :=
  match t with
  | .nil => K .nil
  | .node v l r => K (.node v l r)
  | .ov k v t => K (.ov k v t)
noncomputable def forceH (h : H) (K : H → Prop) : Prop :=
  match h with
  | .sy m => K (.sy m)
  | .ex t n => forceT t fun t => forceN n fun n => K (.ex t n)
/-- A new row of the abstract heap. -/
noncomputable def newK (h : H) (r : GRow) (K : Nat → H → Prop) : Prop :=
  match h with
  | .sy m => ∀ g, m g = none → K g ((H.sy m).new g r)
  | .ex t n => forceE r.es fun es => forceH ((H.ex t n).new n ⟨r.sz, r.fz, es, r.ty⟩) fun h => K n h
/-- Row g goes on as a new row. -/
noncomputable def newD (h : H) (g : Nat) (r : GRow) (K : Nat → H → Prop) : Prop :=
  match h with
  | .sy m => ∀ g', g' ≠ g → m g' = none → K g' (((H.sy m).del g).new g' r)
  | .ex t n => forceE r.es fun es => forceH (((H.ex t n).del g).new n ⟨r.sz, r.fz, es, r.ty⟩) fun h => K n h
noncomputable def putH (h : H) (g i : Nat) (cs : List V) (K : H → Prop) : Prop :=
  match h with
  | .sy m => K ((H.sy m).put g i cs)
  | .ex t n => match t.get g with
    | some r => forceE (r.es.set i cs) fun es => forceH ((H.ex t n).ins g ⟨r.sz, r.fz, es, r.ty⟩) K
    | none => False
theorem withB_ok {md x : Bool} {K : Bool → Prop} (h : withB md x K) : K x := by
  cases md <;> cases x
  · exact h.2 rfl
  · exact h.1 rfl
  · exact h
  · exact h
theorem chk_ok {md : Bool} {p : Prop} [Decidable p] {K : Prop} (h : chk md p K) : p ∧ K := by
  cases md
  · exact h
  · simp only [chk] at h
    split at h
    · rename_i hd; exact ⟨of_decide_eq_true hd, h⟩
    · exact h.elim
theorem imp_ok {md : Bool} {p K : Prop} (h : imp md p K) (hp : p) : K := by
  cases md
  · exact h hp
  · exact h
theorem forceN_eq (n : Nat) (K : Nat → Prop) : forceN n K = K n := by cases n <;> rfl
theorem mkI_eq (md : Bool) (k : IntKind) (n : Int) (K : V → Prop) : mkI md k n K = K (.i k n) := by
  cases md
  · rfl
  · cases n <;> simp only [mkI, forceN_eq]
theorem mkB_ok {md x : Bool} {K : V → Prop} (h : mkB md x K) : ∃ v, bvI v x ∧ K v := by
  cases md
  · exact ⟨_, .b x, h⟩
  · cases x
    · exact ⟨_, .ff, h⟩
    · exact ⟨_, .tt, h⟩
theorem forceS_eq (l : List UInt8) : ∀ K, forceS l K = K l := by
  induction l with
  | nil => intro K; rfl
  | cons c r ih => intro K; simp only [forceS, ih]
theorem mkS_eq (md : Bool) (l : List UInt8) (K : V → Prop) : mkS md l K = K (.s l) := by
  cases md
  · rfl
  · simp only [mkS, forceS_eq]
theorem forceE_eq (l : List (List V)) : ∀ K, forceE l K = K l := by
  induction l with
  | nil => intro K; rfl
  | cons c r ih => intro K; simp only [forceE, ih]
theorem atL_ok {md : Bool} {es : List (List V)} {i : Nat} {K : List V → Prop} (h : atL md es i K) {cs : List V} (hi : es[i]? = some cs) : K cs := by
  cases md
  · exact h cs hi
  · simp only [atL, hi] at h; exact h
theorem atS_ok {md : Bool} {l : List UInt8} {i : Nat} {K : UInt8 → Prop} (h : atS md l i K) {c : UInt8} (hi : l[i]? = some c) : K c := by
  cases md
  · exact h c hi
  · simp only [atS, hi] at h; exact h
theorem getR_ok {h : H} {g : Nat} {K : GRow → Prop} (hk : getR h g K) : ∃ r, h g = some r ∧ K r := by
  cases h with
  | sy m => exact hk
  | ex t n =>
    simp only [getR] at hk
    split at hk
    · rename_i r hr; exact ⟨r, hr, hk⟩
    · exact hk.elim
theorem atH_ok {h : H} {g sz i : Nat} {K : List V → Prop} (hk : atH h g sz i K) : ∃ cs, h.at g sz i = some cs ∧ K cs := by
  cases h with
  | sy m => exact hk
  | ex t n =>
    simp only [atH] at hk
    split at hk
    · rename_i r hr; exact ⟨r, hr, hk⟩
    · exact hk.elim
theorem watH_ok {h : H} {g sz i : Nat} {K : List V → Prop} (hk : watH h g sz i K) : ∃ cs, h.wat g sz i = some cs ∧ K cs := by
  cases h with
  | sy m => exact hk
  | ex t n =>
    simp only [watH] at hk
    split at hk
    · rename_i r hr; exact ⟨r, hr, hk⟩
    · exact hk.elim
theorem forceT_eq (t : Tr) (K : Tr → Prop) : forceT t K = K t := by cases t <;> rfl
theorem forceH_eq (h : H) (K : H → Prop) : forceH h K = K h := by cases h <;> simp [forceH, forceT_eq, forceN_eq]
/-- A name that may be had. -/
noncomputable def Free (h : H) (g : Nat) : Prop := h g = none ∧ ∀ N, h.nx = some N → g = N
theorem newK_ok {h : H} {r : GRow} {K : Nat → H → Prop} (hk : newK h r K) {g : Nat} (hf : Free h g) : K g (h.new g r) := by
  cases h with
  | sy m => exact hk g hf.1
  | ex t n =>
    simp only [newK, forceE_eq, forceH_eq] at hk
    rw [hf.2 n rfl]
    exact hk
theorem newD_ok {h : H} {g0 : Nat} {r : GRow} {K : Nat → H → Prop} (hk : newD h g0 r K) {g : Nat} (hne : g ≠ g0) (hf : Free h g) : K g ((h.del g0).new g r) := by
  cases h with
  | sy m => exact hk g hne hf.1
  | ex t n =>
    simp only [newD, forceE_eq, forceH_eq] at hk
    rw [hf.2 n rfl]
    exact hk
theorem putH_ok {h : H} {g i : Nat} {cs : List V} {K : H → Prop} {r : GRow} (hr : h g = some r) (hk : putH h g i cs K) : K (h.put g i cs) := by
  cases h with
  | sy m => exact hk
  | ex t n =>
    have hr : t.get g = some r := hr
    simp only [putH, hr, forceE_eq, forceH_eq] at hk
    simp only [H.put, H.get, hr]
    exact hk
noncomputable def tf : Bool → V
  | true => .tt
  | false => .ff

noncomputable def kq : IntKind → IntKind → Bool
  | .i8, .i8 => true
  | .i16, .i16 => true
  | .i32, .i32 => true
  | .i64, .i64 => true
  | .u8, .u8 => true
  | .u16, .u16 => true
  | .u32, .u32 => true
  | .u64, .u64 => true
  | _, _ => false
theorem kq_eq {k k' : IntKind} (h : kq k k' = true) : k = k' := by cases k <;> cases k' <;> first | rfl | cases h

noncomputable def bits (op : BinOp) (k : IntKind) (x y : Int) : Int :=
  match op with
  | .and => k.wrap ((BitVec.ofInt k.bits x &&& BitVec.ofInt k.bits y).toNat)
  | .or => k.wrap ((BitVec.ofInt k.bits x ||| BitVec.ofInt k.bits y).toNat)
  | .xor => k.wrap ((BitVec.ofInt k.bits x ^^^ BitVec.ofInt k.bits y).toNat)
  | _ => k.wrap ((BitVec.ofInt k.bits x &&& ~~~BitVec.ofInt k.bits y).toNat)

noncomputable def evBin (md : Bool) (op : BinOp) (x y : V) (K : V → Prop) : Prop :=
  match op with
  | .add => match x, y with
    | .i k a, .i k' b => match kq k k' with
      | true => mkI md k (k.wrap (a + b)) K
      | false => False
    | .s a, .s b => chk md (a.length + b.length ≤ 9223372036854775807) (mkS md (a ++ b) K)
    | _, _ => False
  | .sub => match x, y with
    | .i k a, .i k' b => match kq k k' with
      | true => mkI md k (k.wrap (a - b)) K
      | false => False
    | _, _ => False
  | .mul => match x, y with
    | .i k a, .i k' b => match kq k k' with
      | true => mkI md k (k.wrap (a * b)) K
      | false => False
    | _, _ => False
  | .quo => match x, y with
    | .i k a, .i k' b => match kq k k' with
      | true => chk md (b ≠ 0) (mkI md k (k.wrap (a.tdiv b)) K)
      | false => False
    | _, _ => False
  | .rem => match x, y with
    | .i k a, .i k' b => match kq k k' with
      | true => chk md (b ≠ 0) (mkI md k (a.tmod b) K)
      | false => False
    | _, _ => False
  | .and | .or | .xor | .andNot => match x, y with
    | .i k a, .i k' b => match kq k k' with
      | true => mkI md k (bits op k a b) K
      | false => False
    | _, _ => False
  | .shl => match x, y with
    | .i k a, .i _ b => chk md (0 ≤ b) (mkI md k (k.wrap (a * 2 ^ min b.toNat k.bits)) K)
    | _, _ => False
  | .shr => match x, y with
    | .i k a, .i _ b => chk md (0 ≤ b) (mkI md k (a.fdiv (2 ^ min b.toNat k.bits)) K)
    | _, _ => False
  | .lss => match x, y with
    | .i k a, .i k' b => match kq k k' with
      | true => mkB md (decide (a < b)) K
      | false => False
    | .s a, .s b => mkB md (Op.bytesLess a b) K
    | _, _ => False
  | .leq => match x, y with
    | .i k a, .i k' b => match kq k k' with
      | true => mkB md (decide (a ≤ b)) K
      | false => False
    | .s a, .s b => mkB md (Op.bytesLess a b || decide (a = b)) K
    | _, _ => False
  | .gtr => match x, y with
    | .i k a, .i k' b => match kq k k' with
      | true => mkB md (decide (b < a)) K
      | false => False
    | .s a, .s b => mkB md (!(Op.bytesLess a b || decide (a = b))) K
    | _, _ => False
  | .geq => match x, y with
    | .i k a, .i k' b => match kq k k' with
      | true => mkB md (decide (b ≤ a)) K
      | false => False
    | .s a, .s b => mkB md (!Op.bytesLess a b) K
    | _, _ => False
  | .eql => match x, y with
    | .i k a, .i k' b => match kq k k' with
      | true => mkB md (decide (a = b)) K
      | false => False
    | .s a, .s b => mkB md (decide (a = b)) K
    | _, _ => False
  | .neq => match x, y with
    | .i k a, .i k' b => match kq k k' with
      | true => mkB md (!decide (a = b)) K
      | false => False
    | .s a, .s b => mkB md (!decide (a = b)) K
    | _, _ => False

noncomputable def bv : V → Option Bool
  | .tt => some true
  | .ff => some false
  | .b x => some x
  | _ => none
noncomputable def evEqB (md : Bool) (op : BinOp) (x y : V) (K : V → Prop) : Prop :=
  match bv x, bv y with
  | some p, some q => match op with
    | .eql => mkB md (p == q) K
    | .neq => mkB md (!(p == q)) K
    | _ => False
  | _, _ => False
noncomputable def evPt (op : BinOp) (x y : V) (K : V → Prop) : Prop :=
  match op with
  | .eql => match x, y with
    | .gptr _ _ _ _, .nilp => K .ff
    | .bp _ _ _, .nilp => K .ff
    | .bp g _ _, .bp g' _ _ => match Nat.beq g g' with
      | true => K .tt
      | false => False
    | .ip _, .nilp => K .ff
    | .nilp, .nilp => K .tt
    | _, _ => False
  | .neq => match x, y with
    | .gptr _ _ _ _, .nilp => K .tt
    | .bp _ _ _, .nilp => K .tt
    | .bp g _ _, .bp g' _ _ => match Nat.beq g g' with
      | true => K .ff
      | false => False
    | .ip _, .nilp => K .tt
    | .nilp, .nilp => K .ff
    | _, _ => False
  | _ => False
noncomputable def evSl (op : BinOp) (x y : V) (K : V → Prop) : Prop :=
  match op with
  | .eql => match x, y with
    | .nils, .nils => K .tt
    | .gsl _ _ _ m, .nils => match m with
      | 0 => False
      | _ + 1 => K .ff
    | .lst _ es, .nils => match es with
      | [] => False
      | _ :: _ => K .ff
    | _, _ => False
  | .neq => match x, y with
    | .nils, .nils => K .ff
    | .gsl _ _ _ m, .nils => match m with
      | 0 => False
      | _ + 1 => K .tt
    | .lst _ es, .nils => match es with
      | [] => False
      | _ :: _ => K .tt
    | _, _ => False
  | _ => False

/-- '==' of the cells of two structs of plain cells. -/
noncomputable def flatV : List V → Bool
  | [] => true
  | z :: r => match z with
    | .i _ _ => flatV r
    | .s _ => flatV r
    | .ff => flatV r
    | _ => false
noncomputable def eqC (z x y : V) (K : Bool → Prop) : Prop :=
  match z with
  | .i _ _ => match x, y with
    | .i k a, .i k' b => match kq k k' with
      | true => K (decide (a = b))
      | false => False
    | _, _ => False
  | .s _ => match x, y with
    | .s a, .s b => K (decide (a = b))
    | _, _ => False
  | .ff => match bv x, bv y with
    | some p, some q => K (p == q)
    | _, _ => False
  | _ => False
noncomputable def eqL : List V → List V → List V → (Bool → Prop) → Prop
  | [], [], [], K => K true
  | z :: zs, x :: xs, y :: ys, K => eqC z x y fun p => eqL zs xs ys fun q => K (p && q)
  | _, _, _, _ => False
noncomputable def evSt (md : Bool) (op : BinOp) (z : List V) (x y : V) (K : V → Prop) : Prop :=
  match flatV z, x, y with
  | true, .agg xs, .agg ys => eqL z xs ys fun p => match op with
    | .eql => mkB md p K
    | .neq => mkB md (!p) K
    | _ => False
  | _, _, _ => False

noncomputable def evUn (md : Bool) (op : UnOp) (x : V) (K : V → Prop) : Prop :=
  match op with
  | .not => match x with
    | .tt => K .ff
    | .ff => K .tt
    | .b x => mkB md (!x) K
    | _ => False
  | .neg => match x with
    | .i k n => mkI md k (k.wrap (0 - n)) K
    | _ => False
  | .xor => match x with
    | .i k n => mkI md k (bits .xor k (if k.signed then -1 else k.max) n) K
    | _ => False
  | .plus => False

noncomputable def bytesL (l : List UInt8) : List (List V) := l.map fun c => [V.i .u8 c.toNat]

noncomputable def byteOf : V → Option UInt8
  | .i k n => match kq k .u8 with
    | true => match n with
      | .ofNat m => match Nat.ble m 255 with
        | true => some (UInt8.ofNat m)
        | false => none
      | .negSucc _ => none
    | false => none
  | _ => none
noncomputable def decB : List (List V) → (List UInt8 → Prop) → Prop
  | [], K => K []
  | e :: r, K => match e with
    | [v] => match byteOf v with
      | some c => decB r fun r => K (c :: r)
      | none => False
    | _ => False
noncomputable def unB (md : Bool) (es : List (List V)) (K : List UInt8 → Prop) : Prop :=
  match md with
  | false => ∃ l, es = bytesL l ∧ K l
  | true => decB es K
theorem byteOf_eq {v : V} {c : UInt8} (h : byteOf v = some c) : v = .i .u8 c.toNat := by
  cases v <;> simp only [byteOf] at h <;> first | cases h | skip
  rename_i k n
  split at h
  · rename_i hk
    cases n with
    | ofNat m =>
      simp only at h
      split at h
      · rename_i hm
        injection h with h
        subst h
        have := Nat.le_of_ble_eq_true hm
        rw [kq_eq hk]
        congr 1
        rw [UInt8.toNat_ofNat_of_lt' (by show m < 256; omega)]
        rfl
      · cases h
    | negSucc m => cases h
  · cases h
theorem decB_ok {es : List (List V)} : ∀ {K : List UInt8 → Prop}, decB es K → ∃ l, es = bytesL l ∧ K l := by
  induction es with
  | nil => intro K h; exact ⟨[], rfl, h⟩
  | cons e r ih =>
    intro K h
    simp only [decB] at h
    split at h
    · split at h
      · rename_i c hc
        obtain ⟨l, h1, h2⟩ := ih h
        refine ⟨c :: l, ?_, h2⟩
        rw [h1, byteOf_eq hc]; rfl
      · exact h.elim
    · exact h.elim
theorem unB_ok {md : Bool} {es : List (List V)} {K : List UInt8 → Prop} (h : unB md es K) : ∃ l, es = bytesL l ∧ K l := by
  cases md
  · exact h
  · exact decB_ok h
noncomputable def forceNm (md : Bool) (n : Nat) (K : Nat → Prop) : Prop :=
  match md with
  | false => K n
  | true => forceN n K
noncomputable def forceEm (md : Bool) (l : List (List V)) (K : List (List V) → Prop) : Prop :=
  match md with
  | false => K l
  | true => forceE l K
theorem forceNm_eq (md : Bool) (n : Nat) (K : Nat → Prop) : forceNm md n K = K n := by cases md <;> simp [forceNm, forceN_eq]
theorem forceEm_eq (md : Bool) (l : List (List V)) (K : List (List V) → Prop) : forceEm md l K = K l := by cases md <;> simp [forceEm, forceE_eq]
noncomputable def mapEv (F : Fr) : List Operand → (List V → Prop) → Prop
  | [], K => K []
  | o :: r, K => force (ev F o) fun v => mapEv F r fun vs => K (v :: vs)

noncomputable def mkCells (z : List V) (offs : List (Nat × Nat)) (F : Fr) : List (Nat × Operand) → (List V → Prop) → Prop
  | [], K => forceL z K
  | (i, o) :: r, K => match offs[i]? with
    | some (off, sz) => match cellsOf (ev F o) with
      | cs => match Nat.beq (len cs) sz with
        | true => match cellL cs with
          | true => mkCells (splice z off cs) offs F r K
          | false => False
        | false => False
    | none => False

noncomputable def mkElems (esz : Nat) (F : Fr) : List (List V) → List (Nat × Operand) → (List (List V) → Prop) → Prop
  | z, [], K => K z
  | z, (i, o) :: r, K => forceL (cellsOf (ev F o)) fun cs => match Nat.beq (len cs) esz with
    | true => match cellL cs with
      | true => match z[i]? with
        | some _ => mkElems esz F (z.set i cs) r K
        | none => False
      | false => False
    | false => False

noncomputable def seqs : Nat → List V → List (List V)
  | 0, _ => []
  | n + 1, z => z :: seqs n z

/-- The elements that a slice's value stands for. -/
noncomputable def elems (h : H) (v : V) (sz : Nat) (K : List (List V) → Prop) : Prop :=
  match v with
  | .nils => K []
  | .lst sz' es => match Nat.beq sz' sz with
    | true => K es
    | false => False
  | .gsl g sz' off n => match Nat.beq sz' sz with
    | true => getR h g fun r => chk h.md (r.sz = sz ∧ off + n ≤ r.es.length) (K ((r.es.drop off).take n))
    | false => False
  | .s l => match Nat.beq sz 1 with
    | true => K (bytesL l)
    | false => False
  | _ => False

noncomputable def tyOf : Nat → Nat → Nat
  | 0, _ => 0
  | ty + 1, t => match Nat.beq t (Nat.succ ty) with
    | true => Nat.succ ty
    | false => 0
theorem tyOf_eq {ty t : Nat} (h : tyOf ty t ≠ 0) : tyOf ty t = ty ∧ t = ty := by
  cases ty with
  | zero => exact absurd rfl h
  | succ ty =>
    simp only [tyOf] at h ⊢
    split at h
    · rename_i hb; exact ⟨rfl, beq_of hb⟩
    · exact absurd rfl h
/-- ty: the type of the new rows' elements, where it is told. -/
noncomputable def evAppend (ty esz eb : Nat) (h : H) (x y : V) (K : V → H → Prop) : Prop :=
  match x with
  | .nils => elems h y esz fun ys => chk h.md (ys.length * eb ≤ 140737488355328) (newK h ⟨esz, 0, ys, ty⟩ fun g h => forceN ys.length fun n => K (.gsl g esz 0 n) h)
  | .gsl g sz off n => match Nat.beq sz esz, off with
    | true, 0 => elems h y esz fun ys => getR h g fun r => chk h.md (r.sz = esz ∧ r.fz ≤ n ∧ n ≤ r.es.length ∧ (n + ys.length) * eb ≤ 140737488355328)
        (newD h g ⟨esz, r.fz, r.es.take n ++ ys, tyOf ty r.ty⟩ fun g' h => forceN (n + ys.length) fun m => K (.gsl g' esz 0 m) h)
    | _, _ => False
  | .emp sz => match Nat.beq sz esz with
    | true => elems h y esz fun ys => withB h.md ys.isEmpty fun p => match p with
      | true => K (.emp sz) h
      | false => chk h.md (ys.length * eb ≤ 140737488355328) (newK h ⟨esz, 0, ys, ty⟩ fun g h => forceN ys.length fun n => K (.gsl g esz 0 n) h)
    | false => False
  | _ => False

/-- A box that is handed out becomes a row of the abstract heap. -/
noncomputable def subV (k g sz : Nat) : V → V
  | .lptr k' off => match Nat.beq k' k with
    | true => .gptr g sz 0 off
    | false => .lptr k' off
  | v => v
noncomputable def subF (k g sz : Nat) : Fr → Fr
  | [] => []
  | (k', v) :: r => match Nat.beq k' k with
    | true => (k', .gptr g sz 0 0) :: subF k g sz r
    | false => (k', subV k g sz v) :: subF k g sz r
noncomputable def findL : List V → Option Nat
  | [] => none
  | v :: r => match v with
    | .lptr k _ => some k
    | _ => findL r
noncomputable def pub : Nat → List V → Fr → H → (Fr → H → Prop) → Prop
  | 0, vs, F, h, K => match findL vs with
    | none => K F h
    | some _ => False
  | m + 1, vs, F, h, K => match findL vs with
    | none => K F h
    | some k => match look F k with
      | .box false cs => match len cs with
        | 0 => False
        | sz + 1 => newK h ⟨sz + 1, 0, [cs], 0⟩ fun g h => forceF (subF k g (sz + 1) F) fun F => forceL (vs.map (subV k g (sz + 1))) fun vs => pub m vs F h K
      | _ => False

noncomputable def isBox : V → Bool
  | .box _ _ => true
  | _ => false
/-- A value is told in other words: its cells are. -/
inductive TlL (R : V → V → Prop) : List V → List V → Prop
  | nil : TlL R [] []
  | same {v : V} {vs us : List V} (hs : TlL R vs us) : TlL R (v :: vs) (v :: us)
  | cons {v u : V} {vs us : List V} (h : R v u) (hs : TlL R vs us) : TlL R (v :: vs) (u :: us)
inductive TlV (R : V → V → Prop) : V → V → Prop
  | same (v : V) : TlV R v v
  | cell {v u : V} (h : R v u) : TlV R v u
  | agg {vs us : List V} (h : TlL R vs us) : TlV R (.agg vs) (.agg us)
  | tup {vs us : List V} (h : TlL R vs us) : TlV R (.tup vs) (.tup us)
  | box {fr : Bool} {vs us : List V} (h : TlL R vs us) : TlV R (.box fr vs) (.box fr us)
/-- A slice over a row of the abstract heap that is no longer written there, as what it holds. -/
inductive Fz (g sz : Nat) (es : List (List V)) : V → V → Prop
  | part (off n : Nat) (h : off + n ≤ es.length) : Fz g sz es (.gsl g sz off n) (.lst sz ((es.drop off).take n))
  | whole (n : Nat) (h : n = es.length) : Fz g sz es (.gsl g sz 0 n) (.lst sz es)
/-- A nil slice is a row without memory. -/
inductive Nr (g sz : Nat) : V → V → Prop
  | nil : Nr g sz .nils (.gsl g sz 0 0)
/-- Less is known. -/
inductive Sf : V → V → Prop
  | tt : Sf .tt (.b true)
  | ff : Sf .ff (.b false)
  | nils (sz : Nat) : Sf .nils (.lst sz [])
noncomputable def Sub (h' h : H) : Prop := (∀ g r, h' g = some r → h g = some r) ∧ ∀ N, h'.nx = some N → h.nx = some N
/-- Steps that nothing runs: what a slot refers to is told in other words; rows and slots are forgotten. -/
inductive Gh (K : Fr → H → Prop) : Fr → H → Prop
  | done {F : Fr} {h : H} (k : K F h) : Gh K F h
  | view {F : Fr} {h : H} (s g : Nat) (r : GRow) (v : V) (hg : h g = some r) (hz : 0 < r.sz) (hv : TlV (Fz g r.sz r.es) (look F s) v) (k : Gh K (setF F s v) (h.ins g { r with fz := r.es.length })) : Gh K F h
  | nilrow {F : Fr} {h : H} (s sz : Nat) (v : Nat → V) (hsz : 0 < sz) (hv : ∀ g, TlV (Nr g sz) (look F s) (v g)) (k : ∀ g, h g = none → Gh K (setF F s (v g)) (h.new g ⟨sz, 0, [], 0⟩)) : Gh K F h
  | soft {F : Fr} {h : H} (s : Nat) (v : V) (hv : TlV Sf (look F s) v) (k : Gh K (setF F s v) h) : Gh K F h
  | keep {F : Fr} {h : H} (ks : List Nat) (k : Gh K (keep ks F) h) : Gh K F h
  | sub {F : Fr} {h h' : H} (hs : Sub h' h) (k : Gh K F h') : Gh K F h
noncomputable def hasG : List V → Bool
  | [] => false
  | v :: r => match v with
    | .gsl _ _ _ _ => true
    | .agg cs => match hasG1 cs with
      | true => true
      | false => hasG r
    | _ => hasG r
where hasG1 : List V → Bool
  | [] => false
  | v :: r => match v with
    | .gsl _ _ _ _ => true
    | _ => hasG1 r
noncomputable def gh (vs : List V) (F : Fr) (h : H) (K : Fr → H → Prop) : Prop :=
  match h with
  | .sy m => match hasG vs with
    | true => Gh K F (.sy m)
    | false => K F (.sy m)
  | .ex t n => K F (.ex t n)
noncomputable def gh1 (F : Fr) (h : H) (K : Fr → H → Prop) : Prop :=
  match h with
  | .sy m => Gh K F (.sy m)
  | .ex t n => K F (.ex t n)

/-- What a function literal captures: boxes freeze. -/
noncomputable def capts (n : Nat) : List V → Fr → (List V → Fr → Prop) → Prop
  | [], F, K => K [] F
  | v :: r, F, K => match v with
    | .lptr k 0 => match look F k with
      | .box _ cs => setK F k (.box true cs) fun F => capts n r F fun vs F => K (.ip cs :: vs) F
      | _ => False
    | v => match port v with
      | true => capts n r F fun vs F => K (v :: vs) F
      | false => False

noncomputable def ptrAdd (F : Fr) (v : V) (off : Nat) (K : V → Prop) : Prop :=
  match v with
  | .lptr k o => match isBox (look F k) with
    | true => K (.lptr k (o + off))
    | false => False
  | .ip cs => forceL (drop cs off) fun cs => match cs with
    | [] => False
    | c :: cs => K (.ip (c :: cs))
  | .gptr g sz i o => K (.gptr g sz i (o + off))
  | .bp g sz _ => K (.gptr g sz 0 off)
  | _ => False

noncomputable def evBuiltin (tt : TT) (b : Builtin) (ats : List TypeId) (vs : List V) (h : H) (KV : V → H → Prop) : Prop :=
  match b with
  | .len => match ats, vs with
    | [t], [v] => match tt t with
      | .one (.s _) => match v with
        | .s l => mkI h.md .i64 l.length fun v => KV v h
        | _ => False
      | .sl _ _ _ => match v with
        | .lst _ es => imp h.md (es.length ≤ maxLen) (mkI h.md .i64 es.length fun v => KV v h)
        | .nils => KV (.i .i64 0) h
        | .gsl g _ _ len => imp h.md (∀ r, h g = some r → r.es.length ≤ maxLen) (mkI h.md .i64 len fun v => KV v h)
        | _ => False
      | _ => False
    | _, _ => False
  | .min => match vs with
    | [.i k x, .i k' y] => match kq k k' with
      | true => mkI h.md k (if y < x then y else x) fun v => KV v h
      | false => False
    | _ => False
  | .max => match vs with
    | [.i k x, .i k' y] => match kq k k' with
      | true => mkI h.md k (if x < y then y else x) fun v => KV v h
      | false => False
    | _ => False
  | .append => match ats, vs with
    | [t, t'], [x, y] => match tt t with
      | .sl esz eb _ => match Nat.ble 1 eb with
       | true => match tt t' with
        | .one (.s _) => evAppend 0 esz eb h x y KV
        | .sl _ _ _ => evAppend 0 esz eb h x y KV
        | _ => False
       | false => False
      | _ => False
    | _, _ => False
  | _ => False

/-- What a machine does of calls, loops, and regions whose order is drawn; and of the operations that are its own. -/
structure Mach where
  call : Nat → List V → H → (V → H → Prop) → Prop
  loop : Nat → Code → Fr → H → (Ex → Fr → H → Prop) → Prop
  draw : Nat → Nat → Array Oper → Fr → H → (Fr → H → Prop) → Prop
  own : Op → Bool
  op : Nat → Oper → Fr → H → (Fr → H → Prop) → Prop

noncomputable def opPick (F : Fr) (h : H) (c a b : Operand) (KV : V → H → Prop) : Prop :=
  match ev F c with
  | .tt => force (ev F a) fun v => KV v h
  | .ff => force (ev F b) fun v => KV v h
  | .b x => withB h.md x fun x => match x with
    | true => force (ev F a) fun v => KV v h
    | false => force (ev F b) fun v => KV v h
  | _ => False

noncomputable def opAlloc (tt : TT) (e : TypeId) (KC : List V → Prop) : Prop :=
  match tt e with
  | .one z => KC [z]
  | .st _ z => KC z
  | .ar _ _ z => KC z
  | .sl _ _ _ => KC [.nils]
  | .pt => KC [.nilp]
  | .mp _ _ => KC [.nilm]
  | .up => False
  | .no => False

noncomputable def opBox (tt : TT) (F : Fr) (e : TypeId) (x : Operand) (KC : List V → Prop) : Prop :=
  match tt e with
  | .st _ z => match ev F x with
    | .agg cs => match Nat.beq (len cs) (len z) with
      | true => KC cs
      | false => False
    | _ => False
  | .ar _ _ z => match ev F x with
    | .agg cs => match Nat.beq (len cs) (len z) with
      | true => KC cs
      | false => False
    | _ => False
  | .no => False
  | _ => force (ev F x) fun v => KC [v]

noncomputable def opBuild (tt : TT) (F : Fr) (h : H) (t : TypeId) (parts : Array (Nat × Operand)) (KV : V → H → Prop) : Prop :=
  match tt t with
  | .st offs z => mkCells z offs F parts.toList fun cs => KV (.agg cs) h
  | _ => False

noncomputable def opBuildSlice (tt : TT) (F : Fr) (h : H) (t : TypeId) (m : Nat) (parts : Array (Nat × Operand)) (K3 : V → Fr → H → Prop) : Prop :=
  match tt t with
  | .sl esz _ ez => match Nat.ble (m * esz) 16777216 with
   | false => False
   | true => mapEv F (parts.toList.map (·.2)) fun vs => gh vs F h fun F h => mkElems esz F (seqs m ez) parts.toList fun es => newK h ⟨esz, 0, es, 0⟩ fun g h => K3 (.gsl g esz 0 m) F h
  | _ => False

noncomputable def opLoad (tt : TT) (F : Fr) (h : H) (t : TypeId) (x : Operand) (KV : V → H → Prop) : Prop :=
  match ev F x with
  | .ip cs => loadC (tt t) cs 0 fun v => KV v h
  | .lptr k off => match look F k with
    | .box _ cs => loadC (tt t) cs off fun v => KV v h
    | _ => False
  | .gptr g sz i off => atH h g sz i fun cs => loadC (tt t) cs off fun v => KV v h
  | .garr g sz i off esz m => match tt t with
    | .pt => atH h g sz i fun cs => force (nth cs (off + m * esz)) fun v => match cell1 v with
      | true => KV v h
      | false => False
    | .one _ => atH h g sz i fun cs => force (nth cs (off + m * esz)) fun v => match cell1 v with
      | true => KV v h
      | false => False
    | _ => False
  | _ => False

noncomputable def opStore (tt : TT) (dst : Option Nat) (F : Fr) (h : H) (t : TypeId) (x y : Operand) (K : Fr → H → Prop) : Prop :=
  match dst with
 | some _ => False
 | none => match ev F x with
  | .lptr k off => match look F k with
    | .box false cs => forceL (cellsOf (ev F y)) fun vs => match cellL vs with
      | true => match Nat.ble (off + len vs) (len cs) with
        | true => match tt t with
          | .no => False
          | .st _ z | .ar _ _ z => match Nat.beq (len z) (len vs) with
            | true => forceL (splice cs off vs) fun cs => setK F k (.box false cs) fun F => K F h
            | false => False
          | _ => match Nat.beq (len vs) 1 with
            | true => forceL (splice cs off vs) fun cs => setK F k (.box false cs) fun F => K F h
            | false => False
        | false => False
      | false => False
    | _ => False
  | .gptr g sz i off => forceL (cellsOf (ev F y)) fun vs => match cellL vs with
    | true => match tt t with
      | .no => False
      | .st _ z | .ar _ _ z => match Nat.beq (len z) (len vs) with
        | true => watH h g sz i fun cs => chk h.md (off + vs.length ≤ cs.length) (forceL (splice cs off vs) fun cs => putH h g i cs fun h => K F h)
        | false => False
      | _ => match Nat.beq (len vs) 1 with
        | true => watH h g sz i fun cs => chk h.md (off + vs.length ≤ cs.length) (forceL (splice cs off vs) fun cs => putH h g i cs fun h => K F h)
        | false => False
    | false => False
  | _ => False

noncomputable def opNilCheck (F : Fr) (h : H) (x : Operand) (KV : V → H → Prop) : Prop :=
  force (ev F x) fun v => match v with
  | .lptr k off => match isBox (look F k) with
    | true => KV (.lptr k off) h
    | false => False
  | .ip cs => KV (.ip cs) h
  | .gptr g sz i off => KV (.gptr g sz i off) h
  | .garr g sz i off esz m => KV (.garr g sz i off esz m) h
  | .bp g sz ty => KV (.bp g sz ty) h
  | .fn g cs => KV (.fn g cs) h
  | _ => False

noncomputable def lenP : List (Nat × Nat) → Nat
  | [] => 0
  | _ :: r => Nat.succ (lenP r)
theorem lenP_eq (l : List (Nat × Nat)) : lenP l = l.length := by induction l <;> simp_all [lenP]
noncomputable def opBinOp (tt : TT) (F : Fr) (h : H) (op : BinOp) (t : TypeId) (x y : Operand) (KV : V → H → Prop) : Prop :=
  match tt t with
  | .one z => match z with
    | .ff => evEqB h.md op (ev F x) (ev F y) fun v => KV v h
    | _ => evBin h.md op (ev F x) (ev F y) fun v => KV v h
  | .st offs z => match Nat.beq (lenP offs) (len z) with
    | true => evSt h.md op z (ev F x) (ev F y) fun v => KV v h
    | false => False
  | .pt => evPt op (ev F x) (ev F y) fun v => KV v h
  | .sl _ _ _ => evSl op (ev F x) (ev F y) fun v => KV v h
  | _ => False

noncomputable def opConvert (tt : TT) (F : Fr) (h : H) (t' t : TypeId) (x : Operand) (KV : V → H → Prop) : Prop :=
  match tt t with
  | .one (.i k _) => match tt t' with
    | .one _ => match ev F x with
      | .i _ m => mkI h.md k (k.wrap m) fun v => KV v h
      | _ => False
    | _ => False
  | .one (.s _) => match tt t' with
    | .one _ => match ev F x with
      | .s l => KV (.s l) h
      | _ => False
    | .sl _ _ [.i .u8 _] => match ev F x with
      | .nils => KV (.s []) h
      | .lst sz es => match sz with
        | 1 => unB h.md es fun l => KV (.s l) h
        | _ => False
      | .gsl g sz off m => match sz with
        | 1 => getR h g fun r => chk h.md (r.sz = 1 ∧ off + m ≤ r.es.length) (unB h.md ((r.es.drop off).take m) fun l => KV (.s l) h)
        | _ => False
      | _ => False
    | _ => False
  | _ => False

noncomputable def opMakeFunc (n : Nat) (F : Fr) (f : Fn) (first caps : Array Operand) (K3 : V → Fr → Prop) : Prop :=
  match f, first.toList with
  | .func f, [] => mapEv F caps.toList fun vs => capts n vs F fun vs F => K3 (.fn f vs) F
  | _, _ => False

noncomputable def opSlice (tt : TT) (F : Fr) (h : H) (t : TypeId) (x : Operand) (lo hi mx : Option Operand) (KV : V → H → Prop) : Prop :=
  match mx with
  | some _ => False
  | none => match tt t with
   | .one (.s _) => match ev F x with
    | .s l => match lo.map (ev F), hi.map (ev F) with
      | none, none => KV (.s l) h
      | some (.i _ a), none => chk h.md (0 ≤ a ∧ a ≤ l.length) (mkS h.md (l.drop a.toNat) fun v => KV v h)
      | none, some (.i _ b) => chk h.md (0 ≤ b ∧ b ≤ l.length) (mkS h.md (l.take b.toNat) fun v => KV v h)
      | some (.i _ a), some (.i _ b) => chk h.md (0 ≤ a ∧ a ≤ b ∧ b ≤ l.length) (mkS h.md ((l.drop a.toNat).take (b.toNat - a.toNat)) fun v => KV v h)
      | _, _ => False
    | _ => False
   | .sl esz _ _ => match ev F x with
    | .lst sz l => match Nat.beq sz esz with
     | false => False
     | true => match lo.map (ev F), hi.map (ev F) with
      | none, none => KV (.lst sz l) h
      | some (.i _ a), none => chk h.md (0 ≤ a ∧ a ≤ l.length) (forceEm h.md (l.drop a.toNat) fun l => KV (.lst sz l) h)
      | none, some (.i _ b) => chk h.md (0 ≤ b ∧ b ≤ l.length) (forceEm h.md (l.take b.toNat) fun l => KV (.lst sz l) h)
      | some (.i _ a), some (.i _ b) => chk h.md (0 ≤ a ∧ a ≤ b ∧ b ≤ l.length) (forceEm h.md ((l.drop a.toNat).take (b.toNat - a.toNat)) fun l => KV (.lst sz l) h)
      | _, _ => False
    | .gsl g sz off m => match Nat.beq sz esz with
     | false => False
     | true => match lo.map (ev F), hi.map (ev F) with
      | none, none => KV (.gsl g sz off m) h
      | some (.i _ a), none => chk h.md (0 ≤ a ∧ a ≤ m) (forceNm h.md (off + a.toNat) fun off => forceNm h.md (m - a.toNat) fun m => KV (.gsl g sz off m) h)
      | none, some (.i _ b) => chk h.md (0 ≤ b ∧ b ≤ m) (forceNm h.md off fun off => forceNm h.md b.toNat fun m => KV (.gsl g sz off m) h)
      | some (.i _ a), some (.i _ b) => chk h.md (0 ≤ a ∧ a ≤ b ∧ b ≤ m) (forceNm h.md (off + a.toNat) fun off => forceNm h.md (b.toNat - a.toNat) fun m => KV (.gsl g sz off m) h)
      | _, _ => False
    | .nils => match lo.map (ev F), hi.map (ev F) with
      | none, none => KV .nils h
      | some (.i _ a), none => chk h.md (a = 0) (KV .nils h)
      | none, some (.i _ b) => chk h.md (b = 0) (KV .nils h)
      | some (.i _ a), some (.i _ b) => chk h.md (a = 0 ∧ b = 0) (KV .nils h)
      | _, _ => False
    | _ => False
   | _ => False

noncomputable def opFieldAddr (tt : TT) (F : Fr) (h : H) (t : TypeId) (x : Operand) (f : Nat) (KV : V → H → Prop) : Prop :=
  match tt t with
  | .st offs _ => match offs[f]? with
    | some (off, sz) => match sz with
      | 0 => False
      | _ + 1 => ptrAdd F (ev F x) off fun v => KV v h
    | none => False
  | _ => False

noncomputable def opIndexAddr (tt : TT) (F : Fr) (h : H) (t : TypeId) (x ix : Operand) (KV : V → H → Prop) : Prop :=
  match ev F ix with
  | .i _ a => match tt t with
    | .sl esz _ _ => match ev F x with
      | .lst sz es => match Nat.beq sz esz with
        | true => chk h.md (0 ≤ a ∧ a < es.length) (atL h.md es a.toNat fun cs => KV (.ip cs) h)
        | false => False
      | .gsl g sz off m => match Nat.beq sz esz with
        | true => chk h.md (0 ≤ a ∧ a < m) (forceNm h.md (off + a.toNat) fun i => KV (.gptr g sz i 0) h)
        | false => False
      | _ => False
    | .ar m esz _ => match ev F x with
      | .lptr k off => match isBox (look F k) with
        | true => chk h.md (0 ≤ a ∧ a < m) (forceNm h.md (off + a.toNat * esz) fun i => KV (.lptr k i) h)
        | false => False
      | .gptr g sz i off => chk h.md (0 ≤ a ∧ a < m) (forceNm h.md (off + a.toNat * esz) fun q => KV (.gptr g sz i q) h)
      | _ => False
    | _ => False
  | _ => False

noncomputable def opIndex (tt : TT) (F : Fr) (h : H) (t : TypeId) (x ix : Operand) (KV : V → H → Prop) : Prop :=
  match tt t with
  | .one (.s _) => match ev F ix with
    | .i _ a => match ev F x with
      | .s l => chk h.md (0 ≤ a ∧ a < l.length) (atS h.md l a.toNat fun c => mkI h.md .u8 c.toNat fun v => KV v h)
      | _ => False
    | _ => False
  | _ => False

noncomputable def opExtract (F : Fr) (h : H) (x : Operand) (i : Nat) (KV : V → H → Prop) : Prop :=
  match ev F x with
  | .tup vs => force (nth vs i) fun v => match v with
    | .dead => False
    | v => KV v h
  | _ => False

noncomputable def opCallV (M : Mach) (F : Fr) (h : H) (f : Operand) (args : Array Operand) (K3 : V → Fr → H → Prop) : Prop :=
  mapEv F args.toList fun vs => pub 4 vs F h fun F h => gh vs F h fun F h => mapEv F args.toList fun vs => match portL vs with
    | true => match ev F f with
      | .fn g caps => M.call g (vs ++ caps) h fun v h => K3 v F h
      | _ => False
    | false => False
noncomputable def opCall (M : Mach) (tt : TT) (F : Fr) (h : H) (c : Call) (K3 : V → Fr → H → Prop) : Prop :=
  match c.callee with
  | .builtin b => mapEv F c.args.toList fun vs => evBuiltin tt b c.argTypes.toList vs h fun v h => K3 v F h
  | .value f => opCallV M F h f c.args K3
  | .invoke _ _ => False

noncomputable def opMakeSlice (tt : TT) (F : Fr) (h : H) (t : TypeId) (x y : Operand) (KV : V → H → Prop) : Prop :=
  match tt t with
  | .sl esz eb ez => match Nat.ble 1 eb, ev F x, ev F y with
    | true, .i .i64 a, .i .i64 b => chk h.md (0 ≤ a ∧ a ≤ b ∧ b.toNat * eb ≤ 140737488355328) (newK h ⟨esz, 0, seqs a.toNat ez, 0⟩ fun g h => forceN a.toNat fun m => KV (.gsl g esz 0 m) h)
    | _, _, _ => False
  | _ => False
noncomputable def evOp0 (M : Mach) (tt : TT) (n : Nat) (o : Oper) (F : Fr) (h : H) (K : Fr → H → Prop) : Prop :=
  match o.op with
  | .move x | .assign x => force (ev F x) fun v => put n F o.dst v fun F => K F h
  | .pick c a b => opPick F h c a b fun v h => put n F o.dst v fun F => K F h
  | .alloc e => opAlloc tt e fun cs => putBox n F o.dst cs fun F => K F h
  | .box e x => opBox tt F e x fun cs => putBox n F o.dst cs fun F => K F h
  | .build t parts => opBuild tt F h t parts fun v h => put n F o.dst v fun F => K F h
  | .buildSlice t m parts => opBuildSlice tt F h t m parts fun v F h => put n F o.dst v fun F => K F h
  | .makeSlice t x y => opMakeSlice tt F h t x y fun v h => put n F o.dst v fun F => K F h
  | .load t x => opLoad tt F h t x fun v h => put n F o.dst v fun F => K F h
  | .store t x y => opStore tt o.dst F h t x y K
  | .nilCheck x => opNilCheck F h x fun v h => put n F o.dst v fun F => K F h
  | .binOp op t x y _ => opBinOp tt F h op t x y fun v h => put n F o.dst v fun F => K F h
  | .unOp op _ x => evUn h.md op (ev F x) fun v => put n F o.dst v fun F => K F h
  | .convert t' t x => opConvert tt F h t' t x fun v h => put n F o.dst v fun F => K F h
  | .makeFunc f first caps => opMakeFunc n F f first caps fun v F => put n F o.dst v fun F => K F h
  | .slice t x lo hi mx => opSlice tt F h t x lo hi mx fun v h => put n F o.dst v fun F => K F h
  | .fieldAddr t x f => opFieldAddr tt F h t x f fun v h => put n F o.dst v fun F => K F h
  | .indexAddr t x ix => opIndexAddr tt F h t x ix fun v h => put n F o.dst v fun F => K F h
  | .index t x ix => opIndex tt F h t x ix fun v h => put n F o.dst v fun F => K F h
  | .extract x i => opExtract F h x i fun v h => put n F o.dst v fun F => K F h
  | .call c => opCall M tt F h c fun v F h => put n F o.dst v fun F => K F h
  | _ => False

/-- Operations that a machine has of its own, over what it does of calls. -/
structure Ext where
  own : Op → Bool
  op : (Nat → List V → H → (V → H → Prop) → Prop) → Nat → Oper → Fr → H → (Fr → H → Prop) → Prop
noncomputable def symX (P : Program) (X : Ext) : Mach := ⟨ACalls P, LoopP P, DrawP P, X.own, X.op (ACalls P)⟩
noncomputable def symM (P : Program) : Mach := ⟨ACalls P, LoopP P, DrawP P, fun _ => false, fun _ _ _ _ _ => False⟩
noncomputable def evOp (M : Mach) (tt : TT) (n : Nat) (o : Oper) (F : Fr) (h : H) (K : Fr → H → Prop) : Prop :=
  match M.own o.op with
  | true => M.op n o F h K
  | false => evOp0 M tt n o F h K
noncomputable def pureB : Op → Bool
  | .move _ | .assign _ | .pick _ _ _ | .nilCheck _ | .binOp _ _ _ _ _ | .unOp _ _ _ | .fieldAddr _ _ _ | .extract _ _ | .index _ _ _ | .slice _ _ _ _ _ | .indexAddr _ _ _ | .build _ _ => true
  | .field _ _ _ | .typeAssert _ _ _ _ | .makeInterface _ _ => true
  | _ => false
noncomputable def quietB : Op → Bool
  | .move _ | .assign _ | .pick _ _ _ | .nilCheck _ | .binOp _ _ _ _ _ | .unOp _ _ _ | .fieldAddr _ _ _ | .extract _ _ | .index _ _ _ | .slice _ _ _ _ _ | .indexAddr _ _ _ | .build _ _ => true
  | .field _ _ _ | .typeAssert _ _ _ _ | .makeInterface _ _ => true
  | .load _ _ | .convert _ _ _ | .lookup _ _ _ _ => true
  | .call c => match c.callee with
    | .builtin b => match b with
      | .len | .cap | .min | .max | .unsafeSliceData => true
      | _ => false
    | _ => false
  | _ => false

noncomputable def dstOf (all : List Oper) (j : Nat) : Option Nat := (all[j]?).bind (·.dst)

noncomputable def evG1 (M : Mach) (tt : TT) (n d : Nat) (p want : Bool) (o : Oper) (F : Fr) (h : H) (K : Fr → H → Prop) : Prop :=
  match p, want with
  | true, true => evOp M tt n o F h K
  | false, false => evOp M tt n o F h K
  | true, false => put n F o.dst .un fun F => K F h
  | false, true => put n F o.dst .un fun F => K F h
noncomputable def evG (M : Mach) (tt : TT) (n : Nat) (all : List Oper) (o : Oper) (F : Fr) (h : H) (K : Fr → H → Prop) : Prop :=
  match o.guard with
    | none => evOp M tt n o F h K
    | some (j, want) => match dstOf all j with
      | none => False
      | some d => match look F d with
        | .tt => evG1 M tt n d true want o F h K
        | .ff => evG1 M tt n d false want o F h K
        | .b x => withB h.md x fun x => setK F d (tf x) fun F => evG1 M tt n d x want o F h K
        | .un => put n F o.dst .un fun F => K F h
        | _ => False
noncomputable def evOps (M : Mach) (tt : TT) (n : Nat) (all : List Oper) : List Oper → Fr → H → (Fr → H → Prop) → Prop
  | [], F, h, K => K F h
  | o :: os, F, h, K => evG M tt n all o F h fun F h => evOps M tt n all os F h K

noncomputable def awp (M : Mach) (tt : TT) (n : Nat) : Code → Fr → H → (Ex → Fr → H → Prop) → Prop
  | .skip, F, h, Q => Q .normal F h
  | .region id ops draw, F, h, Q => match draw with
    | false => evOps M tt n ops.toList ops.toList F h fun F h => Q .normal F h
    | true => M.draw n id ops F h fun F h => Q .normal F h
  | .seq a b, F, h, Q => awp M tt n a F h fun e F h => match e with
    | .normal => awp M tt n b F h Q
    | .exit id => Q (.exit id) F h
    | .ret => Q .ret F h
  | .cond c a b, F, h, Q => match ev F c with
    | .tt => awp M tt n a F h Q
    | .ff => awp M tt n b F h Q
    | .b x => withB h.md x fun x => match x with
      | true => awp M tt n a F h Q
      | false => awp M tt n b F h Q
    | _ => False
  | .block id c, F, h, Q => awp M tt n c F h fun e F h => match e with
    | .normal => Q .normal F h
    | .exit j => match Nat.beq j id with
      | true => Q .normal F h
      | false => Q (.exit j) F h
    | .ret => Q .ret F h
  | .loop c, F, h, Q => M.loop n c F h Q
  | .exit id, F, h, Q => Q (.exit id) F h
  | .ret, F, h, Q => Q .ret F h
  | _, _, _, _ => False

noncomputable def resV (tt : TT) (F : Fr) : List ResultVar → (List V → Prop) → Prop
  | [], K => K []
  | .tmp t :: r, K => force (ev F (.tmp t)) fun v => resV tt F r fun vs => K (v :: vs)
  | .cell a t :: r, K => match look F a with
    | .box _ cs => loadC (tt t) cs 0 fun v => resV tt F r fun vs => K (v :: vs)
    | _ => False
noncomputable def tupV : List V → V
  | [v] => v
  | vs => .tup vs

/-- What is owed at a function's end. -/
noncomputable def fin (tt : TT) (fn : Func) (Q : V → H → Prop) : Ex → Fr → H → Prop := fun e F h => match e with
  | .exit _ => False
  | _ => resV tt F fn.results.toList fun vs => pub 4 vs F h fun F h => gh1 F h fun F h => resV tt F fn.results.toList fun vs => match portL vs with
    | true => Q (tupV vs) h
    | false => False

noncomputable def entry : Nat → List V → Fr
  | _, [] => []
  | k, v :: r => (k, v) :: entry (k + 1) r

end Go.AM
