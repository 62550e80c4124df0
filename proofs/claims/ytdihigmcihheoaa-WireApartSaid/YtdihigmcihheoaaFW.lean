/-
  The functional frame: a weakest precondition over frames that are functions from slots to values, computed by recursion on a function's code; and that it is sound for the kit's own 'Code.wp' and 'Calls'.
-/
import Derived.OrdersHeld
import Derived.Scope
import Derived.Defers
import Derived.Deep.Draws
import Derived.Laws.Sem
set_option linter.unusedVariables false
set_option linter.unusedSimpArgs false
namespace Go.FW

/-- A frame: what each slot holds, and the deferred calls. -/
structure FA where
  ρ : Nat → Value
  ds : List Deferred

def fa (a : Act) : FA := ⟨fun i => a.tmps.getD i undef, a.defers⟩

def FA.ev (a : FA) : Operand → Value
  | .tmp t => a.ρ t
  | .const v => v
  | .global g => .pointer (some ⟨g, 0, none⟩)
  | .func f => .func (.func f) #[] #[]

def FA.put (a : FA) (d : Option Tmp) (v : Value) : FA :=
  match d with
  | some d => ⟨fun i => cond (Nat.beq i d) v (a.ρ i), a.ds⟩
  | none => a

/-- What is asked at each way out of a piece of code. -/
structure FQ where
  n : FA → World → Prop
  e : Nat → FA → World → Prop
  r : FA → World → Prop
  x : List PanicEntry → List Deferred → World → Prop

/-- What follows in a sequence; what a block catches. -/
def FQ.nx (Q : FQ) (K : FA → World → Prop) : FQ := ⟨K, Q.e, Q.r, Q.x⟩
def FQ.bl (Q : FQ) (id : Nat) : FQ := ⟨Q.n, fun i a w => match Nat.beq i id with | true => Q.n a w | false => Q.e i a w, Q.r, Q.x⟩

abbrev PX := List PanicEntry → World → Prop

/-- An operation that gives a value. -/
def runK (P : Program) (x : PX) (s : Sem Value) (w : World) (k : Value → World → Prop) : Prop :=
  match s.run P w with
  | .ok v w' => k v w'
  | .halt (.panic v) w' => x [{ v, recovered := false }] w'
  | _ => False

/-- An operation that gives none. -/
def runU (P : Program) (x : PX) (s : Sem Unit) (w : World) (k : World → Prop) : Prop :=
  match s.run P w with
  | .ok _ w' => k w'
  | .halt (.panic v) w' => x [{ v, recovered := false }] w'
  | _ => False

/-- A call with a contract: it returns, or panics. -/
def callK (P : Program) (x : PX) (f : FuncId) (args : Array Value) (w : World) (k : Value → World → Prop) : Prop :=
  Calls P f args w fun
    | .returned v, w' => k v w'
    | .panicked ch, w' => x ch w'
    | .outgrown, _ => False

/-- An operation that may enter a function. -/
def entK (P : Program) (x : PX) (s : Sem Next) (w : World) (k : Value → World → Prop) : Prop :=
  match s.run P w with
  | .ok (.value v) w' => k v w'
  | .ok .skip w' => k undef w'
  | .ok (.enter f args) w' => callK P x f args w' k
  | .ok (.row row args) w' => Rows P row args w' k
  | .halt (.panic v) w' => x [{ v, recovered := false }] w'
  | _ => False

/-- A call of a function that the text names. -/
def callS (P : Program) (x : PX) (f : FuncId) (args : Array Value) (w : World) (k : Value → World → Prop) : Prop := entK P x (callFunc f args) w k

/-- A call of a function value. -/
def callV (P : Program) (x : PX) (f : Value) (args : Array Value) (w : World) (k : Value → World → Prop) : Prop :=
  entK P x (do let d ← Deferred.ofValue f args; invoke d.target d.args) w k

/-- A deferred call is laid. -/
def deferK (P : Program) (s : Sem Deferred) (w : World) (k : Deferred → World → Prop) : Prop :=
  match s.run P w with
  | .ok d w' => k d w'
  | _ => False

def nilCheckS (v : Value) : Sem Value :=
  match v with
  | .pointer none | .nilIface | .nilFunc => runtimePanic .nilDeref
  | .func (.method name) first captured =>
    match (first[0]? : Option Value) with
    | some .nilIface => runtimePanic .nilDeref
    | some (.iface t w) => do
      if (← nilAhead ((← program).types.size + Made.depth) t w name) != some false then
        unsupported (.noEntry "op/nilCheck.the method's receiver behind this interface value is a nil pointer, or cannot be seen to be none, and the arguments act or may panic (ledger 612)")
      pure (.func (.method name) first captured)
    | _ => pure (.func (.method name) first captured)
  | x => pure x

/-- A Bool that is asked: both ways, the Bool put in. -/
def bcase (b : Bool) (F : Bool → Prop) : Prop := match b with | true => F true | false => F false
/-- A test. -/
def condF (v : Value) (X Y : Prop) : Prop := match v with | .bool b => bcase b (fun b => match b with | true => X | false => Y) | _ => False
theorem condF_spec {v : Value} {X Y : Prop} (h : condF v X Y) : (v = .bool true ∧ X) ∨ (v = .bool false ∧ Y) := by
  cases v with
  | bool b => cases b <;> first | exact .inl ⟨rfl, h⟩ | exact .inr ⟨rfl, h⟩
  | _ => exact h.elim
theorem condF_mono {v : Value} {X Y X' Y' : Prop} (hx : X → X') (hy : Y → Y') (h : condF v X Y) : condF v X' Y' := by
  rcases condF_spec h with ⟨rfl, h⟩ | ⟨rfl, h⟩
  · exact hx h
  · exact hy h
/-- '==' and '!=': is an operand a constant? -/
def isC : Operand → Bool | .const _ => true | _ => false
def ofC : Bool → Operand | true => .const .nilIface | false => .tmp 0
def eqS (op : BinOp) (t : TypeId) (x y : Bool) (a b : Value) : Sem Value := do eqGuard op t (ofC x) (ofC y) a b; binOp op t a b
theorem eqGuard_ofC (op : BinOp) (t : TypeId) (x y : Operand) (a b : Value) : eqGuard op t (ofC (isC x)) (ofC (isC y)) a b = eqGuard op t x y a b := by
  cases x <;> cases y <;> rfl
theorem eqGuard_none (op : BinOp) (h : op ≠ .eql) (h' : op ≠ .neq) (t : TypeId) (x y : Operand) (a b : Value) : eqGuard op t x y a b = pure () := by
  cases op <;> first | rfl | exact absurd rfl h | exact absurd rfl h'

/-- One operation: what it asks, the frame's slots read. -/
def opK (P : Program) (op : Op) (ty : TypeId) (d : Option Tmp) (a : FA) (w : World) (K : FA → World → Prop) (X : List PanicEntry → List Deferred → World → Prop) : Prop :=
  match op with
  | .move x => K (a.put d (a.ev x)) w
  | .assign x => K (a.put d (a.ev x)) w
  | .pick c u v => condF (a.ev c) (K (a.put d (a.ev u)) w) (K (a.put d (a.ev v)) w)
  | .alloc e => runK P (fun c => X c a.ds) (Instr.alloc e true (.tuple #[])) w (fun v w => K (a.put d v) w)
  | .box e x => runK P (fun c => X c a.ds) (Instr.box e (a.ev x)) w (fun v w => K (a.put d v) w)
  | .build t ps => runK P (fun c => X c a.ds) (Instr.build t (ps.map fun (i, x) => (i, a.ev x))) w (fun v w => K (a.put d v) w)
  | .buildSlice t l ps => runK P (fun c => X c a.ds) (Instr.buildSlice t l (ps.map fun (i, x) => (i, a.ev x))) w (fun v w => K (a.put d v) w)
  | .load t p => runK P (fun c => X c a.ds) (Instr.loadAt t (a.ev p)) w (fun v w => K (a.put d v) w)
  | .store t p v => runU P (fun c => X c a.ds) (Instr.storeAt t (a.ev p) (a.ev v)) w (fun w => K (a.put d undef) w)
  | .nilCheck x => runK P (fun c => X c a.ds) (nilCheckS (a.ev x)) w (fun v w => K (a.put d v) w)
  | .binOp o t x y _ => match o with
    | .eql => runK P (fun c => X c a.ds) (eqS .eql t (isC x) (isC y) (a.ev x) (a.ev y)) w (fun v w => K (a.put d v) w)
    | .neq => runK P (fun c => X c a.ds) (eqS .neq t (isC x) (isC y) (a.ev x) (a.ev y)) w (fun v w => K (a.put d v) w)
    | o => runK P (fun c => X c a.ds) (binOp o t (a.ev x) (a.ev y)) w (fun v w => K (a.put d v) w)
  | .unOp o _ x => runK P (fun c => X c a.ds) (Op.unary o (a.ev x)) w (fun v w => K (a.put d v) w)
  | .convert s t x => runK P (fun c => X c a.ds) (convert s t (a.ev x)) w (fun v w => K (a.put d v) w)
  | .makeInterface t x => runK P (fun c => X c a.ds) (Instr.makeInterface t (a.ev x)) w (fun v w => K (a.put d v) w)
  | .makeFunc fn fs cs => runK P (fun c => X c a.ds) (Instr.makeFunc fn (fs.map a.ev) (cs.map a.ev)) w (fun v w => K (a.put d v) w)
  | .makeMap t r => runK P (fun c => X c a.ds) (Instr.makeMap t (r.map a.ev)) w (fun v w => K (a.put d v) w)
  | .makeSlice t l c => runK P (fun c => X c a.ds) (Instr.makeSlice t (a.ev l) (a.ev c)) w (fun v w => K (a.put d v) w)
  | .slice t x lo hi mx => runK P (fun c => X c a.ds) (Instr.sliceAt t (a.ev x) (lo.map a.ev) (hi.map a.ev) (mx.map a.ev)) w (fun v w => K (a.put d v) w)
  | .fieldAddr s x f => runK P (fun c => X c a.ds) (Instr.fieldAt s (a.ev x) f) w (fun v w => K (a.put d v) w)
  | .field t x f => runK P (fun c => X c a.ds) (Instr.field t (a.ev x) f) w (fun v w => K (a.put d v) w)
  | .indexAddr t x i => runK P (fun c => X c a.ds) (Instr.indexAt t (a.ev x) (a.ev i)) w (fun v w => K (a.put d v) w)
  | .index t x i => runK P (fun c => X c a.ds) (Instr.index t (a.ev x) (a.ev i)) w (fun v w => K (a.put d v) w)
  | .lookup t x i ok => runK P (fun c => X c a.ds) (Instr.lookup t (a.ev x) (a.ev i) ok) w (fun v w => K (a.put d v) w)
  | .mapUpdate t m k v => runU P (fun c => X c a.ds) (Instr.mapUpdate t (a.ev m) (a.ev k) (a.ev v)) w (fun w => K (a.put d undef) w)
  | .insert t m k v => runU P (fun c => X c a.ds) (Instr.mapUpdate t (a.ev m) (a.ev k) (a.ev v)) w (fun w => K (a.put d undef) w)
  | .mapEntry t m k => runK P (fun c => X c a.ds) (Instr.mapEntry t (a.ev m) (a.ev k)) w (fun v w => K (a.put d v) w)
  | .entryStore t m s v => runU P (fun c => X c a.ds) (Instr.entryStore t (a.ev m) (a.ev s) (a.ev v)) w (fun w => K (a.put d undef) w)
  | .range t x => runK P (fun c => X c a.ds) (Instr.range t (a.ev x)) w (fun v w => K (a.put d v) w)
  | .next it s => runK P (fun c => X c a.ds) (Instr.next (a.ev it) s ty) w (fun v w => K (a.put d v) w)
  | .entry it => runK P (fun c => X c a.ds) (Instr.entry (a.ev it)) w (fun v w => K (a.put d v) w)
  | .typeAssert x t u ok => runK P (fun c => X c a.ds) (Instr.typeAssert (a.ev x) t u ok) w (fun v w => K (a.put d v) w)
  | .extract t i => runK P (fun c => X c a.ds) (Instr.extract (a.ev t) i) w (fun v w => K (a.put d v) w)
  | .panic x => runK P (fun c => X c a.ds) (Instr.panic (a.ev x)) w (fun v w => K (a.put d v) w)
  | .call c => match c.callee with
    | .value f => match f with
      | .func f => callS P (fun c => X c a.ds) f (c.args.map a.ev) w (fun v w => K (a.put d v) w)
      | f => callV P (fun c => X c a.ds) (a.ev f) (c.args.map a.ev) w (fun v w => K (a.put d v) w)
    | .builtin b => match b with
      | .append => runK P (fun c => X c a.ds) (Builtin.append_ c.argTypes ty (c.args.map a.ev)) w (fun v w => K (a.put d v) w)
      | .cap => runK P (fun c => X c a.ds) (Builtin.cap_ c.argTypes ty (c.args.map a.ev)) w (fun v w => K (a.put d v) w)
      | .clear => runK P (fun c => X c a.ds) (Builtin.clear_ c.argTypes ty (c.args.map a.ev)) w (fun v w => K (a.put d v) w)
      | .copy => runK P (fun c => X c a.ds) (Builtin.copy_ c.argTypes ty (c.args.map a.ev)) w (fun v w => K (a.put d v) w)
      | .delete => runK P (fun c => X c a.ds) (Builtin.delete_ c.argTypes ty (c.args.map a.ev)) w (fun v w => K (a.put d v) w)
      | .len => runK P (fun c => X c a.ds) (Builtin.len_ c.argTypes ty (c.args.map a.ev)) w (fun v w => K (a.put d v) w)
      | .max => runK P (fun c => X c a.ds) (Builtin.max_ c.argTypes ty (c.args.map a.ev)) w (fun v w => K (a.put d v) w)
      | .min => runK P (fun c => X c a.ds) (Builtin.min_ c.argTypes ty (c.args.map a.ev)) w (fun v w => K (a.put d v) w)
      | b => entK P (fun c => X c a.ds) (builtin b c.argTypes ty (c.args.map fun | .const _ => true | _ => false) (c.args.map a.ev)) w (fun v w => K (a.put d v) w)
    | .invoke r m => entK P (fun c => X c a.ds) (invoke (.fn (.method m) #[]) (#[a.ev r] ++ c.args.map a.ev)) w (fun v w => K (a.put d v) w)
  | .defer c => deferK P (resolve a.ev c ty) w (fun x w => K (({ a with ds := x :: a.ds } : FA).put d undef) w)
  | _ => False

/-! ### That it is what the kit asks of the operation -/
theorem ev_fa (a : Act) : a.eval = (fa a).ev := funext fun x => by cases x <;> rfl

theorem fa_put (a : Act) (d : Option Tmp) (v : Value) (h : ∀ x, d = some x → x < a.tmps.size) : fa (a.put d v) = (fa a).put d v := by
  cases d with
  | none => rfl
  | some d =>
    have hd := h d rfl
    simp only [Act.put, fa, FA.put, FA.mk.injEq, and_true]
    funext i
    by_cases hi : i = d
    · subst hi; simp [Array.getD_eq_getD_getElem?, hd, Nat.beq_refl]
    · have hb : Nat.beq i d = false := by
        cases hq : Nat.beq i d
        · rfl
        · exact absurd (Nat.eq_of_beq_eq_true hq) hi
      have hdi : ¬ d = i := fun e => hi e.symm
      simp [hb, Array.getD_eq_getD_getElem?, hdi]

theorem size_put (a : Act) (d : Option Tmp) (v : Value) : (a.put d v).tmps.size = a.tmps.size := by cases d <;> simp [Act.put]

/-- A frame of n slots, of which some hold what they are known to hold. -/
structure Good (n : Nat) (pr : List (Nat × Value)) (a : Act) : Prop where
  size : a.tmps.size = n
  kept : ∀ p ∈ pr, a.tmps.getD p.1 undef = p.2
theorem Good.plain {n : Nat} {a : Act} (h : a.tmps.size = n) : Good n [] a := ⟨h, fun _ h => by cases h⟩

def lift (n : Nat) (pr : List (Nat × Value)) (Q : FQ) : Exit → Act → World → Prop
  | .normal, a, w => Good n pr a ∧ Q.n (fa a) w
  | .exit id, a, w => Good n pr a ∧ Q.e id (fa a) w
  | .ret, a, w => Good n pr a ∧ Q.r (fa a) w
  | .panic c, a, w => Good n pr a ∧ Q.x c a.defers w
  | _, _, _ => False
def liftK (n : Nat) (pr : List (Nat × Value)) (K : FA → World → Prop) (a : Act) (w : World) : Prop := Good n pr a ∧ K (fa a) w

/-- An operation's destination lies in the frame, and is none of those slots. -/
def dstOk (n : Nat) (pr : List (Nat × Value)) (o : Oper) : Bool := match o.dst with | some d => Nat.blt d n && pr.all (fun p => !(Nat.beq p.1 d)) | none => true
theorem dstOk_spec {n : Nat} {pr : List (Nat × Value)} {o : Oper} (h : dstOk n pr o = true) : ∀ x, o.dst = some x → x < n ∧ ∀ p ∈ pr, p.1 ≠ x := by
  intro x hx
  simp only [dstOk, hx, Bool.and_eq_true, List.all_eq_true] at h
  refine ⟨by simpa [Nat.blt_eq] using h.1, fun p hp e => ?_⟩
  have := h.2 p hp
  rw [e, Nat.beq_refl] at this
  cases this
theorem Good.put {n : Nat} {pr : List (Nat × Value)} {a : Act} {o : Oper} (h : Good n pr a) (hd : dstOk n pr o = true) (v : Value) : Good n pr (a.put o.dst v) := by
  refine ⟨by rw [size_put, h.size], fun p hp => ?_⟩
  rw [← h.kept p hp]
  cases ho : o.dst with
  | none => rfl
  | some d =>
    have := (dstOk_spec hd d ho).2 p hp
    simp [Act.put, Array.getD_eq_getD_getElem?, Array.getElem?_setIfInBounds_ne (Ne.symm this)]

section sound
variable {P : Program} {n : Nat} {pr : List (Nat × Value)} {o : Oper} {a : Act} {w : World} {K : FA → World → Prop} {X : List PanicEntry → List Deferred → World → Prop} {Q : Exit → Act → World → Prop}

theorem liftK_put (hn : Good n pr a) (hd : dstOk n pr o = true) {v : Value} (h : K ((fa a).put o.dst v) w) : liftK n pr K (a.put o.dst v) w :=
  ⟨hn.put hd v, by rw [fa_put _ _ _ (by rw [hn.size]; exact fun x hx => (dstOk_spec hd x hx).1)]; exact h⟩

theorem upon_runK (hn : Good n pr a) (hd : dstOk n pr o = true) (hx : ∀ c w, X c a.defers w → Q (.panic c) a w) {s : Sem Value}
    (h : runK P (fun c => X c a.defers) s w (fun v w => K ((fa a).put o.dst v) w)) : o.upon P a (liftK n pr K) Q (((do pure (Next.value (← s))) : Sem Next).run P w) := by
  rw [Sem.run_bind]
  unfold runK at h
  cases hr : s.run P w with
  | ok v w' => rw [hr] at h; simp only [Result.andThen, Sem.run_pure]; exact liftK_put hn hd h
  | halt x w' => rw [hr] at h; cases x <;> first | exact h.elim | exact hx _ _ h

theorem upon_runU (hn : Good n pr a) (hd : dstOk n pr o = true) (hx : ∀ c w, X c a.defers w → Q (.panic c) a w) {s : Sem Unit}
    (h : runU P (fun c => X c a.defers) s w (fun w => K ((fa a).put o.dst undef) w)) : o.upon P a (liftK n pr K) Q (((do s; pure Next.skip) : Sem Next).run P w) := by
  rw [Sem.run_bind]
  unfold runU at h
  cases hr : s.run P w with
  | ok v w' => rw [hr] at h; simp only [Result.andThen, Sem.run_pure]; exact liftK_put hn hd h
  | halt x w' => rw [hr] at h; cases x <;> first | exact h.elim | exact hx _ _ h

theorem upon_entK (hn : Good n pr a) (hd : dstOk n pr o = true) (hx : ∀ c w, X c a.defers w → Q (.panic c) a w) {s : Sem Next}
    (h : entK P (fun c => X c a.defers) s w (fun v w => K ((fa a).put o.dst v) w)) : o.upon P a (liftK n pr K) Q (s.run P w) := by
  unfold entK at h
  cases hr : s.run P w with
  | ok v w' =>
    rw [hr] at h
    cases v <;> first
      | exact h.elim
      | exact liftK_put hn hd h
      | exact Calls.mono h (fun e w'' he => by
          cases e with
          | returned v => exact liftK_put hn hd he
          | panicked c => exact hx _ _ he
          | outgrown => exact he.elim)
      | exact Rows.mono h (fun v w'' he => liftK_put hn hd he)
  | halt x w' => rw [hr] at h; cases x <;> first | exact h.elim | exact hx _ _ h

theorem op_sound (hn : Good n pr a) (hd : dstOk n pr o = true) (hx : ∀ c w, X c a.defers w → Q (.panic c) a w) (h : opK P o.op o.type o.dst (fa a) w K X) :
    o.wp P a w (liftK n pr K) Q := by
  unfold Oper.wp
  rw [ev_fa]
  obtain ⟨dst, op, type, pos, aft, guard⟩ := o
  simp only at h
  cases op <;> simp only [opK] at h <;> (try exact h.elim)
  case move x => exact liftK_put (o := ⟨dst, _, type, pos, aft, guard⟩) hn hd h
  case assign x => exact liftK_put (o := ⟨dst, _, type, pos, aft, guard⟩) hn hd h
  case pick c u v =>
    simp only [execOp, Sem.run_bind]
    generalize (fa a).ev c = q at h ⊢
    cases q with
    | bool q => cases q <;> exact liftK_put (o := ⟨dst, _, type, pos, aft, guard⟩) hn hd h
    | _ => exact h.elim
  case binOp op t x y yt =>
    have key : ∀ s : Sem Value, runK P (fun c => X c a.defers) s w (fun v w => K ((fa a).put dst v) w) → s = (do eqGuard op t x y ((fa a).ev x) ((fa a).ev y); binOp op t ((fa a).ev x) ((fa a).ev y)) →
        Oper.upon P ⟨dst, .binOp op t x y yt, type, pos, aft, guard⟩ a (liftK n pr K) Q ((execOp (fa a).ev ⟨dst, .binOp op t x y yt, type, pos, aft, guard⟩).run P w) := fun s h e => by
      have := upon_runK (o := ⟨dst, .binOp op t x y yt, type, pos, aft, guard⟩) hn hd hx h
      rw [e] at this
      exact this
    cases op <;> refine key _ h ?_ <;> first | (rw [eqGuard_none _ (by simp) (by simp)]; rfl) | (unfold eqS; rw [eqGuard_ofC])
  case nilCheck x =>
    have := upon_runK (o := ⟨dst, .nilCheck x, type, pos, aft, guard⟩) hn hd hx h
    have e : (execOp (fa a).ev ⟨dst, .nilCheck x, type, pos, aft, guard⟩).run P w = ((do pure (Next.value (← nilCheckS ((fa a).ev x)))) : Sem Next).run P w := by
      simp only [execOp, nilCheckS]
      generalize (fa a).ev x = v
      cases v with
      | pointer p => cases p <;> rfl
      | func fn first cap =>
        cases fn with
        | method name =>
          dsimp only
          cases hf : first[0]? with
          | none => rfl
          | some u => cases u <;> first | rfl | (simp only [Sem.run_bind]; simp only [Result.andThen]; (repeat' split) <;> simp_all)
        | _ => rfl
      | _ => rfl
    rw [e]; exact this
  case call c =>
    obtain ⟨callee, args, argTypes⟩ := c
    cases callee with
    | value f =>
      cases f with
      | func f =>
        have := upon_entK (o := ⟨dst, .call ⟨.value (.func f), args, argTypes⟩, type, pos, aft, guard⟩) hn hd hx h
        have e : execOp (fa a).ev ⟨dst, .call ⟨.value (.func f), args, argTypes⟩, type, pos, aft, guard⟩ = callFunc f (#[] ++ args.map (fa a).ev ++ #[]) := rfl
        rw [e, Array.empty_append, Array.append_empty]; exact this
      | tmp t => exact upon_entK (o := ⟨dst, .call ⟨.value (.tmp t), args, argTypes⟩, type, pos, aft, guard⟩) hn hd hx h
      | const v => exact upon_entK (o := ⟨dst, .call ⟨.value (.const v), args, argTypes⟩, type, pos, aft, guard⟩) hn hd hx h
      | global g => exact upon_entK (o := ⟨dst, .call ⟨.value (.global g), args, argTypes⟩, type, pos, aft, guard⟩) hn hd hx h
    | invoke r m => exact upon_entK (o := ⟨dst, .call ⟨.invoke r m, args, argTypes⟩, type, pos, aft, guard⟩) hn hd hx h
    | builtin b =>
      cases b <;> first
        | exact upon_runK (o := ⟨dst, .call ⟨.builtin _, args, argTypes⟩, type, pos, aft, guard⟩) hn hd hx h
        | exact upon_entK (o := ⟨dst, .call ⟨.builtin _, args, argTypes⟩, type, pos, aft, guard⟩) hn hd hx h
  case defer c =>
    simp only [execOp, Sem.run_bind]
    unfold deferK at h
    cases hr : (resolve (fa a).ev c type).run P w with
    | ok d w' =>
      rw [hr] at h
      simp only [Result.andThen, Sem.run_pure]
      have := liftK_put (a := { a with defers := d :: a.defers }) (o := ⟨dst, .defer c, type, pos, aft, guard⟩) (K := K) (w := w') (n := n) (pr := pr) ⟨hn.size, hn.kept⟩ hd (v := undef) h
      exact this
    | halt x w' => rw [hr] at h; exact h.elim
  all_goals first
    | exact upon_runK (o := ⟨dst, _, type, pos, aft, guard⟩) hn hd hx h
    | exact upon_runU (o := ⟨dst, _, type, pos, aft, guard⟩) hn hd hx h
end sound

/-! ### Regions -/

def selB (b : Bool) (A B : Prop) : Prop := match b with | true => A | false => B

/-- A guard (j, want): operation j has yielded want. Where j has a guard of its own, that is asked first: if it says no, j has yielded nothing. The Bool is put into the frame. -/
def guardN (ops : Array Oper) : Nat → Nat × Bool → FA → (FA → Prop) → (FA → Prop) → Prop
  | 0, _, _, _, _ => False
  | n + 1, (j, want), a, perform, skip => match ops[j]? with
    | none => skip a
    | some oj => match oj.dst with
      | none => skip a
      | some d => match oj.guard with
        | none => condF (a.ρ d)
            (selB want (perform (a.put (some d) (.bool true))) (skip (a.put (some d) (.bool true)))
)
            (selB want (skip (a.put (some d) (.bool false))) (perform (a.put (some d) (.bool false)))
)
        | some g => guardN ops n g a
            (fun a => condF (a.ρ d)
              (selB want (perform (a.put (some d) (.bool true))) (skip (a.put (some d) (.bool true)))
)
              (selB want (skip (a.put (some d) (.bool false))) (perform (a.put (some d) (.bool false)))
))
            (fun a => match a.ρ d with | .tuple _ => skip a | _ => False)

/-- An operation with its guard. -/
def guardF (ops : Array Oper) (o : Oper) (a : FA) (perform skip : FA → Prop) : Prop :=
  match o.guard with
  | none => perform a
  | some g => guardN ops 64 g a perform skip

/-- The operations in the text's order. -/
def opsF (P : Program) (ops : Array Oper) (Q : FQ) : List Oper → FA → World → Prop
  | [], a, w => Q.n a w
  | o :: rest, a, w => guardF ops o a (fun a => opK P o.op o.type o.dst a w (fun a w => opsF P ops Q rest a w) Q.x) (fun a => opsF P ops Q rest (a.put o.dst undef) w)

theorem put_same (a : FA) (d : Nat) (v : Value) (h : a.ρ d = v) : a.put (some d) v = a := by
  obtain ⟨ρ, ds⟩ := a
  simp only [FA.put, FA.mk.injEq, and_true]
  funext i
  cases hq : Nat.beq i d
  · rfl
  · rw [Nat.eq_of_beq_eq_true hq]; exact h.symm

theorem condG_spec {ops : Array Oper} {a : Act} {p s : FA → Prop} {j d : Nat} {want : Bool} (hd : (ops[j]?).bind (·.dst) = some d)
    (h : condF ((fa a).ρ d)
      (selB want (p ((fa a).put (some d) (.bool true))) (s ((fa a).put (some d) (.bool true)))
)
      (selB want (s ((fa a).put (some d) (.bool false))) (p ((fa a).put (some d) (.bool false)))
)) :
    ((yielded ops a.tmps j == some want) = true ∧ p (fa a)) ∨ ((yielded ops a.tmps j == some want) = false ∧ s (fa a)) := by
  have key : ∀ b, (fa a).ρ d = .bool b → yielded ops a.tmps j = some b ∧ (fa a).put (some d) (.bool b) = fa a := fun b hv => by
    refine ⟨?_, put_same _ _ _ hv⟩
    simp only [fa, Array.getD_eq_getD_getElem?] at hv
    cases ht : a.tmps[d]? with
    | none => rw [ht] at hv; simp [undef] at hv
    | some u =>
      rw [ht] at hv
      simp only [Option.getD_some] at hv
      subst hv
      simp [yielded, hd, ht]
  rcases condF_spec h with ⟨hv, h⟩ | ⟨hv, h⟩
  · obtain ⟨hy, e⟩ := key _ hv
    rw [hy]
    cases want <;> simp only [e, selB] at h <;> first | exact .inl ⟨rfl, h⟩ | exact .inr ⟨rfl, h⟩
  · obtain ⟨hy, e⟩ := key _ hv
    rw [hy]
    cases want <;> simp only [e, selB] at h <;> first | exact .inl ⟨rfl, h⟩ | exact .inr ⟨rfl, h⟩

theorem guardN_spec {ops : Array Oper} {a : Act} : ∀ (n : Nat) (g : Nat × Bool) (p s : FA → Prop), guardN ops n g (fa a) p s →
    ((yielded ops a.tmps g.1 == some g.2) = true ∧ p (fa a)) ∨ ((yielded ops a.tmps g.1 == some g.2) = false ∧ s (fa a))
  | 0, _, _, _, h => h.elim
  | n + 1, (j, want), p, s, h => by
    simp only [guardN] at h
    cases hj : ops[j]? with
    | none =>
      rw [hj] at h
      exact .inr ⟨by simp [yielded, hj], h⟩
    | some oj =>
      rw [hj] at h
      dsimp only at h
      cases hd : oj.dst with
      | none =>
        rw [hd] at h
        exact .inr ⟨by simp [yielded, hj, hd], h⟩
      | some d =>
        rw [hd] at h
        dsimp only at h
        have hjd : (ops[j]?).bind (·.dst) = some d := by rw [hj]; exact hd
        cases hg : oj.guard with
        | none =>
          rw [hg] at h
          exact condG_spec hjd h
        | some g =>
          rw [hg] at h
          rcases guardN_spec n g _ _ h with ⟨_, h⟩ | ⟨_, h⟩
          · exact condG_spec hjd h
          · split at h
            · rename_i vs hv
              refine .inr ⟨?_, h⟩
              have hy : yielded ops a.tmps j = none := by
                unfold yielded
                rw [hjd]
                simp only [fa, Array.getD_eq_getD_getElem?] at hv
                cases ht : a.tmps[d]? with
                | none => simp [ht]
                | some u =>
                  rw [ht] at hv
                  simp only [Option.getD_some] at hv
                  subst hv
                  simp [ht]
              dsimp only
              rw [hy]
              rfl
            · exact h.elim

/-- What a guard asks, over the kit's own frames. -/
theorem guard_spec {ops : Array Oper} {o : Oper} {a : Act} {p s : FA → Prop} (h : guardF ops o (fa a) p s) :
    (Region.wanted o (yielded ops a.tmps) = true ∧ p (fa a)) ∨ (Region.wanted o (yielded ops a.tmps) = false ∧ s (fa a)) := by
  unfold guardF at h
  unfold Region.wanted
  cases hg : o.guard with
  | none => rw [hg] at h; exact .inl ⟨rfl, h⟩
  | some g =>
    rw [hg] at h
    exact guardN_spec 64 g p s h

theorem ops_sound {P : Program} {n : Nat} {pr : List (Nat × Value)} {ops : Array Oper} {Q : FQ} : ∀ (l : List Oper) (a : Act) (w : World), l.all (dstOk n pr) = true → Good n pr a → opsF P ops Q l (fa a) w →
    wpList P ops (lift n pr Q) l a w
  | [], a, w, _, hn, h => ⟨hn, h⟩
  | o :: rest, a, w, ho, hn, h => by
    simp only [List.all_cons, Bool.and_eq_true] at ho
    have ih : ∀ a w, liftK n pr (fun a w => opsF P ops Q rest a w) a w → wpList P ops (lift n pr Q) rest a w := fun a w hK => ops_sound rest a w ho.2 hK.1 hK.2
    unfold wpList
    rcases guard_spec (o := o) h with ⟨hw, h⟩ | ⟨hw, h⟩
    · rw [if_pos hw]
      exact .inl (Oper.wp_mono ih (op_sound hn ho.1 (fun c w h => ⟨hn, h⟩) h))
    · rw [if_neg (by rw [hw]; simp)]
      exact ih _ _ (liftK_put (K := fun a w => opsF P ops Q rest a w) hn ho.1 h)

/-! ### A region that draws its order: reads that S holds are taken first, the rest comes one by one -/

/-- An operation that gives v in every world of S, and leaves the world alone. -/
def quietK (P : Program) (S : World → Prop) (s : Sem Value) (k : Value → Prop) : Prop := ∃ v, (∀ w, S w → s.run P w = .ok v w) ∧ k v
def quietN (P : Program) (S : World → Prop) (s : Sem Next) (k : Value → Prop) : Prop := ∃ v, (∀ w, S w → s.run P w = .ok (.value v) w) ∧ k v

/-- One operation that only reads. -/
def opQ (P : Program) (S : World → Prop) (op : Op) (ty : TypeId) (d : Option Tmp) (a : FA) (K : FA → Prop) : Prop :=
  match op with
  | .move x => K (a.put d (a.ev x))
  | .assign x => K (a.put d (a.ev x))
  | .pick c u v => condF (a.ev c) (K (a.put d (a.ev u))) (K (a.put d (a.ev v)))
  | .build t ps => quietK P S (Instr.build t (ps.map fun (i, x) => (i, a.ev x))) (fun v => K (a.put d v))
  | .load t p => quietK P S (Instr.loadAt t (a.ev p)) (fun v => K (a.put d v))
  | .nilCheck x => quietK P S (nilCheckS (a.ev x)) (fun v => K (a.put d v))
  | .binOp o t x y _ => match o with
    | .eql => quietK P S (eqS .eql t (isC x) (isC y) (a.ev x) (a.ev y)) (fun v => K (a.put d v))
    | .neq => quietK P S (eqS .neq t (isC x) (isC y) (a.ev x) (a.ev y)) (fun v => K (a.put d v))
    | o => quietK P S (binOp o t (a.ev x) (a.ev y)) (fun v => K (a.put d v))
  | .unOp o _ x => quietK P S (Op.unary o (a.ev x)) (fun v => K (a.put d v))
  | .convert s t x => quietK P S (convert s t (a.ev x)) (fun v => K (a.put d v))
  | .makeInterface t x => quietK P S (Instr.makeInterface t (a.ev x)) (fun v => K (a.put d v))
  | .makeFunc fn fs cs => quietK P S (Instr.makeFunc fn (fs.map a.ev) (cs.map a.ev)) (fun v => K (a.put d v))
  | .slice t x lo hi mx => quietK P S (Instr.sliceAt t (a.ev x) (lo.map a.ev) (hi.map a.ev) (mx.map a.ev)) (fun v => K (a.put d v))
  | .fieldAddr s x f => quietK P S (Instr.fieldAt s (a.ev x) f) (fun v => K (a.put d v))
  | .field t x f => quietK P S (Instr.field t (a.ev x) f) (fun v => K (a.put d v))
  | .indexAddr t x i => quietK P S (Instr.indexAt t (a.ev x) (a.ev i)) (fun v => K (a.put d v))
  | .index t x i => quietK P S (Instr.index t (a.ev x) (a.ev i)) (fun v => K (a.put d v))
  | .lookup t x i ok => quietK P S (Instr.lookup t (a.ev x) (a.ev i) ok) (fun v => K (a.put d v))
  | .extract t i => quietK P S (Instr.extract (a.ev t) i) (fun v => K (a.put d v))
  | .call c => match c.callee with
    | .value f => match f with
      | .func f => quietN P S (callFunc f (c.args.map a.ev)) (fun v => K (a.put d v))
      | _ => False
    | .builtin b => match b with
      | .cap => quietK P S (Builtin.cap_ c.argTypes ty (c.args.map a.ev)) (fun v => K (a.put d v))
      | .len => quietK P S (Builtin.len_ c.argTypes ty (c.args.map a.ev)) (fun v => K (a.put d v))
      | .max => quietK P S (Builtin.max_ c.argTypes ty (c.args.map a.ev)) (fun v => K (a.put d v))
      | .min => quietK P S (Builtin.min_ c.argTypes ty (c.args.map a.ev)) (fun v => K (a.put d v))
      | _ => False
    | _ => False
  | _ => False

theorem opQ_sound {P : Program} {S : World → Prop} {o : Oper} {a : Act} {K : FA → Prop} (h : opQ P S o.op o.type o.dst (fa a) K) :
    ∃ v, (∀ w, S w → (execOp a.eval o).run P w = .ok (.value v) w) ∧ K ((fa a).put o.dst v) := by
  rw [ev_fa]
  obtain ⟨dst, op, type, pos, aft, guard⟩ := o
  simp only at h
  have key : ∀ {s : Sem Value}, quietK P S s (fun v => K ((fa a).put dst v)) → ∃ v, (∀ w, S w → ((do pure (Next.value (← s))) : Sem Next).run P w = .ok (.value v) w) ∧ K ((fa a).put dst v) :=
    fun {s} ⟨v, h1, h2⟩ => ⟨v, fun w hw => by rw [Sem.run_bind, h1 w hw]; rfl, h2⟩
  cases op <;> simp only [opQ] at h <;> (try exact h.elim)
  case move x => exact ⟨_, fun _ _ => rfl, h⟩
  case assign x => exact ⟨_, fun _ _ => rfl, h⟩
  case pick c u v =>
    simp only [execOp, Sem.run_bind]
    generalize (fa a).ev c = q at h ⊢
    cases q with
    | bool q => cases q <;> exact ⟨_, fun _ _ => rfl, h⟩
    | _ => exact h.elim
  case binOp op t x y yt =>
    have key' : ∀ s : Sem Value, quietK P S s (fun v => K ((fa a).put dst v)) → s = (do eqGuard op t x y ((fa a).ev x) ((fa a).ev y); binOp op t ((fa a).ev x) ((fa a).ev y)) →
        ∃ v, (∀ w, S w → (execOp (fa a).ev ⟨dst, .binOp op t x y yt, type, pos, aft, guard⟩).run P w = .ok (.value v) w) ∧ K ((fa a).put dst v) := fun s h e => by
      have := key h
      rw [e] at this
      exact this
    cases op <;> refine key' _ h ?_ <;> first | (rw [eqGuard_none _ (by simp) (by simp)]; rfl) | (unfold eqS; rw [eqGuard_ofC])
  case nilCheck x =>
    obtain ⟨v, h1, h2⟩ := key h
    refine ⟨v, fun w hw => ?_, h2⟩
    rw [← h1 w hw]
    simp only [execOp, nilCheckS]
    generalize (fa a).ev x = v
    cases v with
    | pointer p => cases p <;> rfl
    | func fn first cap =>
      cases fn with
      | method name =>
        dsimp only
        cases hf : first[0]? with
        | none => rfl
        | some u => cases u <;> first | rfl | (simp only [Sem.run_bind]; simp only [Result.andThen]; (repeat' split) <;> simp_all)
      | _ => rfl
    | _ => rfl
  case call c =>
    obtain ⟨callee, args, argTypes⟩ := c
    cases callee with
    | value f =>
      cases f with
      | func f =>
        obtain ⟨v, h1, h2⟩ := h
        refine ⟨v, fun w hw => ?_, h2⟩
        have e : execOp (fa a).ev ⟨dst, .call ⟨.value (.func f), args, argTypes⟩, type, pos, aft, guard⟩ = callFunc f (#[] ++ args.map (fa a).ev ++ #[]) := rfl
        rw [e, Array.empty_append, Array.append_empty]; exact h1 w hw
      | _ => exact h.elim
    | builtin b => cases b <;> first | exact h.elim | exact key h
    | invoke r m => exact h.elim
  all_goals exact key h

/-- Some S that is no weaker holds from here on. -/
def moreS (S : World → Prop) (w : World) (F : (World → Prop) → Prop) : Prop := ∃ S' : World → Prop, (∀ w, S' w → S w) ∧ S' w ∧ F S'
theorem moreS_keep {S : World → Prop} {w : World} {F : (World → Prop) → Prop} (h : S w) (hF : F S) : moreS S w F := ⟨S, fun _ h => h, h, hF⟩
theorem moreS_and {S : World → Prop} {w : World} {F : (World → Prop) → Prop} (T : World → Prop) (h : S w) (hT : T w) (hF : F (fun w => S w ∧ T w)) : moreS S w F := ⟨_, fun _ h => h.1, ⟨h, hT⟩, hF⟩
theorem moreS_mono {S : World → Prop} {w : World} {F G : (World → Prop) → Prop} (h : ∀ S, F S → G S) (hm : moreS S w F) : moreS S w G := let ⟨S', h1, h2, h3⟩ := hm; ⟨S', h1, h2, h _ h3⟩
/-- The operations in a given order. (i, 1): operation i is taken first; (i, 0): it is the only one that may come up; (i, m + 2): it is one of several that may come up: behind it go the next m entries, and the others' ways stand behind these. -/
def heldF (P : Program) (ops : Array Oper) (Q : FQ) : (S : World → Prop) → Nat → List (Nat × Nat) → FA → World → Prop
  | _, 0, _, _, _ => False
  | _, _ + 1, [], a, w => Q.n a w
  | S, f + 1, (i, q) :: r, a, w => match ops[i]? with
    | none => False
    | some o => match q with
      | 0 => guardF ops o a (fun a => opK P o.op o.type o.dst a w (fun a w => moreS S w fun S => heldF P ops Q S f r a w) Q.x) (fun a => heldF P ops Q S f r (a.put o.dst undef) w)
      | 1 => guardF ops o a (fun a => opQ P S o.op o.type o.dst a (fun a => heldF P ops Q S f r a w)) (fun a => heldF P ops Q S f r (a.put o.dst undef) w)
      | m + 2 => guardF ops o a (fun a => opK P o.op o.type o.dst a w (fun a w => moreS S w fun S => heldF P ops Q S f (r.take m) a w) Q.x) (fun a => heldF P ops Q S f (r.take m) (a.put o.dst undef) w) ∧
          heldF P ops Q S f (r.drop m) a w

/-- Is it an order of the region's operations? k: how many are left at most; pend: which may come up and have not been told yet. -/
def heldOk (ops : Array Oper) : Nat → Nat → List (Nat × Nat) → Option (List Nat) → Array Bool → Bool
  | 0, _, _, _, _ => false
  | _ + 1, _, [], pend, listed => (match pend with | none => true | some _ => false) && (Region.ready .any ops listed).isEmpty
  | f + 1, k, (i, q) :: r, pend, listed => match k with
    | 0 => false
    | k + 1 => match q with
      | 0 => (match pend with | none => Region.ready .any ops listed | some l => l) == [i] && heldOk ops f k r none (listed.setIfInBounds i true)
      | 1 => (match pend with | none => true | some _ => false) && (Region.free .any ops listed i && (Region.ready .any ops listed).contains i) && heldOk ops f k r none (listed.setIfInBounds i true)
      | m + 2 => match (match pend with | none => Region.ready .any ops listed | some l => l) with
        | [] => false
        | j :: rest => j == i && heldOk ops f k (r.take m) none (listed.setIfInBounds i true) && heldOk ops f (k + 1) (r.drop m) (some rest) listed

theorem wpAnyH_less {P : Program} {md : Region.Mode} {ops : Array Oper} {Q : Exit → Act → World → Prop} {S S' : World → Prop} (h : ∀ w, S' w → S w) : ∀ (fuel : Nat) (listed : Array Bool) (a : Act) (w : World), wpAnyH P md ops Q S' fuel listed a w → wpAnyH P md ops Q S fuel listed a w
  | 0, _, _, _, hh => hh
  | fuel + 1, _, _, _, hh => ⟨hh.1, fun i hi => wpOp_mono (fun a' w' h' => ⟨h _ h'.1, wpAnyH_less h fuel _ a' w' h'.2⟩) (hh.2 i hi)⟩

theorem held_sound {P : Program} {n : Nat} {pr : List (Nat × Value)} {ops : Array Oper} {Q : FQ} (hsel : Region.noSelect ops = true) (ho : ops.toList.all (dstOk n pr) = true) : ∀ (f : Nat),
    (∀ (S : World → Prop) (k : Nat) (l : List (Nat × Nat)) (listed : Array Bool) (a : Act) (w : World), heldOk ops f k l none listed = true → Good n pr a → S w → heldF P ops Q S f l (fa a) w →
      wpAnyH P .any ops (lift n pr Q) S k listed a w) ∧
    (∀ (S : World → Prop) (k : Nat) (l : List (Nat × Nat)) (rs : List Nat) (listed : Array Bool) (a : Act) (w : World), heldOk ops f (k + 1) l (some rs) listed = true → Good n pr a → S w → heldF P ops Q S f l (fa a) w →
      ∀ i ∈ rs, wpOp P ops (lift n pr Q) i (fun a' w' => S w' ∧ wpAnyH P .any ops (lift n pr Q) S k (listed.setIfInBounds i true) a' w') a w) := by
  intro f
  induction f with
  | zero =>
    refine ⟨fun S k l listed a w h => ?_, fun S k l rs listed a w h => ?_⟩
    · simp [heldOk] at h
    · simp [heldOk] at h
  | succ f ih =>
    obtain ⟨ihA, ihB⟩ := ih
    -- one operation that is carried out
    have one : ∀ (S : World → Prop) (k i : Nat) (o : Oper) (r : List (Nat × Nat)) (listed : Array Bool) (a : Act) (w : World), ops[i]? = some o → heldOk ops f k r none (listed.setIfInBounds i true) = true → Good n pr a → S w →
        guardF ops o (fa a) (fun a => opK P o.op o.type o.dst a w (fun a w => moreS S w fun S => heldF P ops Q S f r a w) Q.x) (fun a => heldF P ops Q S f r (a.put o.dst undef) w) →
        wpOp P ops (lift n pr Q) i (fun a' w' => S w' ∧ wpAnyH P .any ops (lift n pr Q) S k (listed.setIfInBounds i true) a' w') a w := by
      intro S k i o r listed a w hi hl hn hS h
      have hd : dstOk n pr o = true := (List.all_eq_true.1 ho) o (Array.mem_toList_iff.2 (Array.mem_of_getElem? hi))
      unfold wpOp
      rw [hi]
      dsimp only
      rcases guard_spec (o := o) h with ⟨hw, h⟩ | ⟨hw, h⟩
      · rw [if_pos hw]
        refine .inl (Oper.wp_mono ?_ (op_sound (K := fun a w => moreS S w fun S => heldF P ops Q S f r a w) hn hd (fun c w h => ⟨hn, h⟩) h))
        exact fun a w ⟨hg, S', h1, h2, h3⟩ => ⟨h1 _ h2, wpAnyH_less h1 _ _ _ _ (ihA S' k r _ a w hl hg h2 h3)⟩
      · rw [if_neg (by rw [hw]; simp)]
        have := liftK_put (K := heldF P ops Q S f r) hn hd h
        exact ⟨hS, ihA S k r _ _ w hl this.1 hS this.2⟩
    -- those that are pending
    have pending : ∀ (S : World → Prop) (k : Nat) (e : Nat × Nat) (r : List (Nat × Nat)) (rs : List Nat) (listed : Array Bool) (a : Act) (w : World), e.2 ≠ 1 →
        heldOk ops (f + 1) (k + 1) (e :: r) (some rs) listed = true → Good n pr a → S w → heldF P ops Q S (f + 1) (e :: r) (fa a) w →
        ∀ i ∈ rs, wpOp P ops (lift n pr Q) i (fun a' w' => S w' ∧ wpAnyH P .any ops (lift n pr Q) S k (listed.setIfInBounds i true) a' w') a w := by
      rintro S k ⟨i, q⟩ r rs listed a w hq1 hl hn hS h j hj
      simp only [heldF] at h
      simp only [heldOk] at hl
      cases hi : ops[i]? with
      | none => rw [hi] at h; exact h.elim
      | some o =>
        rw [hi] at h
        dsimp only at h
        match q, hq1 with
        | 0, _ =>
          simp only [Bool.and_eq_true, beq_iff_eq] at hl
          obtain ⟨rfl, hl⟩ := hl
          obtain rfl : j = i := by simpa using hj
          exact one S k j o r listed a w hi hl hn hS h
        | m + 2, _ =>
          cases rs with
          | nil => cases hl
          | cons j' rest =>
            simp only [Bool.and_eq_true, beq_iff_eq] at hl
            obtain ⟨⟨rfl, hl1⟩, hl2⟩ := hl
            rcases List.mem_cons.1 hj with rfl | hj
            · exact one S k j o (r.take m) listed a w hi hl1 hn hS h.1
            · exact ihB S k (r.drop m) rest listed a w hl2 hn hS h.2 j hj
    refine ⟨fun S k l listed a w hl hn hS h => ?_, fun S k l rs listed a w hl hn hS h => ?_⟩
    · cases l with
      | nil =>
        simp only [heldOk, Bool.true_and] at hl
        exact wpAnyH_done (by simpa using hl) ⟨hn, h⟩ k
      | cons e r =>
        obtain ⟨i, q⟩ := e
        cases k with
        | zero => simp [heldOk] at hl
        | succ k =>
          by_cases hq1 : q = 1
          · subst hq1
            simp only [heldF] at h
            simp only [heldOk, Bool.and_eq_true, Bool.true_and] at hl
            obtain ⟨hq, hl⟩ := hl
            cases hi : ops[i]? with
            | none => rw [hi] at h; exact h.elim
            | some o =>
              rw [hi] at h
              dsimp only at h
              have hd : dstOk n pr o = true := (List.all_eq_true.1 ho) o (Array.mem_toList_iff.2 (Array.mem_of_getElem? hi))
              have hQ : ∀ (v : Value) c (a : Act) w, lift n pr Q (.panic c) (a.put o.dst v) w → lift n pr Q (.panic c) a w := fun v c a w h => by
                simp only [lift] at h ⊢
                have e : (a.put o.dst v).defers = a.defers := by cases o.dst <;> rfl
                rw [e] at h
                refine ⟨⟨by rw [← size_put a o.dst v]; exact h.1.size, fun p hp => ?_⟩, h.2⟩
                have := h.1.kept p hp
                cases ho' : o.dst with
                | none => rw [ho'] at this; exact this
                | some d =>
                  rw [ho'] at this
                  have hne := (dstOk_spec hd d ho').2 p hp
                  rw [← this]
                  simp [Act.put, Array.getD_eq_getD_getElem?, Array.getElem?_setIfInBounds_ne (Ne.symm hne)]
              rcases guard_spec (o := o) h with ⟨hw, h⟩ | ⟨hw, h⟩
              · obtain ⟨v, h1, h2⟩ := opQ_sound h
                have := liftK_put (K := heldF P ops Q S f r) hn hd h2
                exact wpAnyH_take hi hsel hq.1 hq.2 (hQ v) (.inl ⟨hw, h1⟩) hS (ihA S k r _ _ w hl this.1 hS this.2)
              · have := liftK_put (K := heldF P ops Q S f r) hn hd h
                exact wpAnyH_take hi hsel hq.1 hq.2 (hQ undef) (.inr ⟨hw, rfl⟩) hS (ihA S k r _ _ w hl this.1 hS this.2)
          · have hl' : heldOk ops (f + 1) (k + 1) ((i, q) :: r) (some (Region.ready .any ops listed)) listed = true := by
              simp only [heldOk] at hl ⊢
              match q, hq1 with
              | 0, _ => exact hl
              | m + 2, _ => exact hl
            have hne : Region.ready .any ops listed ≠ [] := by
              intro e0
              simp only [heldOk, e0] at hl'
              match q, hq1 with
              | 0, _ => simp at hl'
              | m + 2, _ => cases hl'
            exact wpAnyH_all rfl hne (pending S k (i, q) r _ listed a w hq1 hl' hn hS h)
    · cases l with
      | nil => simp [heldOk] at hl
      | cons e r =>
        by_cases hq1 : e.2 = 1
        · obtain ⟨i, q⟩ := e
          dsimp only at hq1
          subst hq1
          simp [heldOk] at hl
        · exact pending S k e r rs listed a w hq1 hl hn hS h

/-- A region that draws: some S holds behind the draw, and the operations go in the order that is told. -/
def drawF (P : Program) (ops : Array Oper) (Q : FQ) (l : List (Nat × Nat)) (a : FA) (w : World) : Prop :=
  ∃ S : World → Prop, S w.drew ∧ heldF P ops Q S 4096 l a w.drew

/-! ### Code -/

/-- A loop: a relation, and a number that falls. -/
def loopF (F : FQ → FA → World → Prop) (Q : FQ) (a : FA) (w : World) : Prop :=
  ∃ (I : FA → World → Prop) (μ : FA → World → Nat), I a w ∧ ∀ a w, I a w → F (Q.nx fun a' w' => I a' w' ∧ μ a' w' < μ a w) a w

/-- The code's weakest precondition; H: in which order the operations of a region that draws are taken. -/
def codeF (P : Program) (H : Nat → List (Nat × Nat)) : Code → FQ → FA → World → Prop
  | .skip, Q, a, w => Q.n a w
  | .region id ops draw, Q, a, w => match draw with
    | false => opsF P ops Q ops.toList a w
    | true => drawF P ops Q (H id) a w
  | .seq x y, Q, a, w => codeF P H x (Q.nx fun a w => codeF P H y Q a w) a w
  | .cond c x y, Q, a, w => condF (a.ev c) (codeF P H x Q a w) (codeF P H y Q a w)
  | .block id c, Q, a, w => codeF P H c (Q.bl id) a w
  | .loop c, Q, a, w => loopF (codeF P H c) Q a w
  | .exit id, Q, a, w => Q.e id a w
  | .scope c, Q, a, w => codeF P H c Q a w
  | .label _, Q, a, w => Q.n a w
  | .ret, Q, a, w => Q.r a w
  | _, _, _, _ => False

/-- The code's slots lie in the frame, and the orders that are told are orders. -/
def codeOk (n : Nat) (pr : List (Nat × Value)) (H : Nat → List (Nat × Nat)) : Code → Bool
  | .region id ops draw => ops.toList.all (dstOk n pr) && (match draw with
    | false => true
    | true => Region.noSelect ops && heldOk ops 4096 ops.size (H id) none (Array.replicate ops.size false))
  | .seq x y => codeOk n pr H x && codeOk n pr H y
  | .cond _ x y => codeOk n pr H x && codeOk n pr H y
  | .block _ c => codeOk n pr H c
  | .loop c => codeOk n pr H c
  | .scope c => codeOk n pr H c
  | _ => true

theorem code_sound {P : Program} {n : Nat} {pr : List (Nat × Value)} {H : Nat → List (Nat × Nat)} (hm : P.follows .mixedOrders = true) : ∀ (c : Code) (Q : FQ) (a : Act) (w : World), codeOk n pr H c = true →
    Good n pr a → codeF P H c Q (fa a) w → c.wp P (lift n pr Q) a w
  | .skip, Q, a, w, _, hn, h => wp_skip ⟨hn, h⟩
  | .region id ops false, Q, a, w, ho, hn, h => by
    simp only [codeOk, Bool.and_eq_true] at ho
    exact wp_region_list (ops_sound _ _ _ ho.1 hn h)
  | .region id ops true, Q, a, w, ho, hn, h => by
    simp only [codeOk, Bool.and_eq_true] at ho
    obtain ⟨ho, hs, hh⟩ := ho
    obtain ⟨S, hS, h⟩ := h
    exact wp_region_held hm ((held_sound (Q := Q) hs ho 4096).1 S _ (H id) _ a w.drew hh hn hS h)
  | .seq x y, Q, a, w, ho, hn, h => by
    simp only [codeOk, Bool.and_eq_true] at ho
    refine wp_seq (wp_mono (code_sound hm x _ a w ho.1 hn h) fun e a w hq => ?_)
    cases e <;> first | exact hq | exact code_sound hm y Q a w ho.2 hq.1 hq.2
  | .cond c x y, Q, a, w, ho, hn, h => by
    simp only [codeOk, Bool.and_eq_true] at ho
    simp only [codeF] at h
    have he : a.eval c = (fa a).ev c := by rw [ev_fa]
    rw [← he] at h
    cases hv : a.eval c with
    | bool b =>
      rw [hv] at h
      cases b
      · exact wp_cond_false hv (code_sound hm y Q a w ho.2 hn h)
      · exact wp_cond_true hv (code_sound hm x Q a w ho.1 hn h)
    | _ => rw [hv] at h; exact h.elim
  | .block id c, Q, a, w, ho, hn, h => by
    refine wp_block (wp_mono (code_sound hm c _ a w ho hn h) fun e a w hq => ?_)
    cases e with
    | exit i =>
      simp only [Exit.inBlock]
      simp only [lift, FQ.bl] at hq
      cases hb : Nat.beq i id with
      | true => rw [hb] at hq; rw [if_pos (Nat.eq_of_beq_eq_true hb)]; exact hq
      | false =>
        rw [hb] at hq
        rw [if_neg (fun e => by rw [e, Nat.beq_refl] at hb; cases hb)]
        exact hq
    | _ => exact hq
  | .loop c, Q, a, w, ho, hn, h => by
    obtain ⟨I, μ, h0, hr⟩ := h
    refine wp_loop (fun a w => Good n pr a ∧ I (fa a) w) (fun a w => μ (fa a) w) ⟨hn, h0⟩ fun a w hI => ?_
    refine wp_mono (code_sound hm c _ a w ho hI.1 (hr _ _ hI.2)) fun e a' w' hq => ?_
    cases e with
    | normal => exact ⟨⟨hq.1, hq.2.1⟩, hq.2.2⟩
    | _ => exact hq
  | .exit id, Q, a, w, _, hn, h => wp_exit ⟨hn, h⟩
  | .scope c, Q, a, w, ho, hn, h => by
    refine wp_scope_straight (wp_mono (code_sound hm c Q a w ho hn h) fun e a w hq => ?_)
    cases e <;> exact hq
  | .label _, Q, a, w, _, hn, h => wp_label ⟨hn, h⟩
  | .ret, Q, a, w, _, hn, h => wp_ret ⟨hn, h⟩
  | .goto _, _, _, _, _, _, h => h.elim
  | .rangeFunc .., _, _, _, _, _, h => h.elim
  | .refuse _, _, _, _, _, _, h => h.elim

/-! ### A function -/

/-- The results are read. -/
def tup : List Value → Value
  | [v] => v
  | l => .tuple l.toArray
def resC (P : Program) (t : TypeId) (p : Value) (w : World) (k : Value → Prop) : Prop := ∃ v, (do loadVar t (← asAddr p) : Sem Value).run P w = .ok v w ∧ k v
def resK (P : Program) : List ResultVar → List Value → FA → World → (Value → Prop) → Prop
  | [], acc, _, _, k => k (tup acc)
  | .tmp t :: r, acc, a, w, k => resK P r (acc ++ [a.ρ t]) a w k
  | .cell p t :: r, acc, a, w, k => resC P t (a.ρ p) w fun v => resK P r (acc ++ [v]) a w k

def resM (tmps : Array Value) : ResultVar → Sem Value
  | .tmp t => pure (tmps.getD t undef)
  | .cell p t => do loadVar t (← asAddr (tmps.getD p undef))

theorem res_sound {P : Program} {a : Act} {w : World} : ∀ (l : List ResultVar) (acc : List Value) (k : Value → Prop), resK P l acc (fa a) w k →
    ∃ vs, (l.mapM (resM a.tmps) : Sem (List Value)).run P w = .ok vs w ∧ k (tup (acc ++ vs))
  | [], acc, k, h => ⟨[], rfl, by rw [List.append_nil]; exact h⟩
  | .tmp t :: r, acc, k, h => by
    obtain ⟨vs, h1, h2⟩ := res_sound r _ k h
    refine ⟨a.tmps.getD t undef :: vs, ?_, by rw [List.append_assoc] at h2; exact h2⟩
    simp only [List.mapM_cons, Sem.run_bind, resM, Sem.run_pure, Result.andThen]
    rw [h1]
  | .cell p t :: r, acc, k, h => by
    obtain ⟨v, h0, h⟩ := h
    obtain ⟨vs, h1, h2⟩ := res_sound r _ k h
    refine ⟨v :: vs, ?_, by rw [List.append_assoc] at h2; exact h2⟩
    have h0' : (do loadVar t (← asAddr (a.tmps.getD p undef)) : Sem Value).run P w = .ok v w := h0
    have h0'' : (resM a.tmps (.cell p t)).run P w = .ok v w := h0'
    simp only [List.mapM_cons, Sem.run_bind, h0'', h1, Result.andThen, Sem.run_pure]

theorem results_sound {P : Program} {fn : Func} {a : Act} {w : World} {k : Value → Prop} (h : resK P fn.results.toList [] (fa a) w k) : ∃ v, (results fn a.tmps).run P w = .ok v w ∧ k v := by
  obtain ⟨vs, h1, h2⟩ := res_sound _ _ _ h
  refine ⟨_, ?_, h2⟩
  change Sem.run P (do let vs ← fn.results.mapM (resM a.tmps); pure (if h : vs.size = 1 then vs[0] else .tuple vs)) w = _
  rw [Sem.run_bind, Array.mapM_eq_mapM_toList]
  simp only [Sem.run_map, h1, Result.andThen, Sem.run_pure, List.nil_append]
  congr 1
  match vs with
  | [] => rfl
  | [v] => rfl
  | _ :: _ :: _ => simp [tup]

/-- No call is deferred. -/
def dsK (ds : List Deferred) (p : Prop) : Prop := match ds with | [] => p | _ => False
theorem dsK_spec {ds : List Deferred} {p : Prop} (h : dsK ds p) : ds = [] ∧ p := by cases ds <;> first | exact ⟨rfl, h⟩ | exact h.elim

/-- What is asked at the ways out of a function that defers nothing. -/
def postF (P : Program) (l : List ResultVar) (R : Ending → World → Prop) : FQ where
  n := fun a w => dsK a.ds (resK P l [] a w (fun v => R (.returned v) w))
  e := fun _ _ _ => False
  r := fun a w => dsK a.ds (resK P l [] a w (fun v => R (.returned v) w))
  x := fun c ds w => dsK ds (R (.panicked c) w)

theorem fa_init (args : Array Value) (n : Nat) : fa { tmps := args ++ Array.replicate n undef, defers := [] } = ⟨fun i => args.getD i undef, []⟩ := by
  simp only [fa, FA.mk.injEq, and_true]
  funext i
  simp only [Array.getD_eq_getD_getElem?, Array.getElem?_append]
  split
  · rfl
  · rename_i h
    rw [Array.getElem?_replicate, Array.getElem?_eq_none (xs := args) (by omega)]
    split <;> rfl

theorem calls_F {P : Program} {f : FuncId} {fn : Func} {c : Code} {args : Array Value} {w : World} {R : Ending → World → Prop} (H : Nat → List (Nat × Nat)) (hm : P.follows .mixedOrders = true)
    (hf : P.funcs[f]? = some fn) (hb : fn.body = some c) (ho : codeOk fn.ntmps [] H c = true) (hs : Nat.ble args.size fn.ntmps = true)
    (h : codeF P H c (postF P fn.results.toList R) ⟨fun i => args.getD i undef, []⟩ w) : Calls P f args w R := by
  refine calls_of_wp hf hb ?_
  rw [← fa_init args (fn.ntmps - args.size)] at h
  have hs' : args.size ≤ fn.ntmps := Nat.le_of_ble_eq_true hs
  refine wp_mono (code_sound hm c _ _ w ho (Good.plain (by simp; omega)) h) fun e a w hq => ?_
  cases e with
  | normal =>
    obtain ⟨h1, h2⟩ := dsK_spec hq.2
    obtain ⟨v, h3, h4⟩ := results_sound h2
    exact ⟨h1, v, h3, h4⟩
  | ret =>
    obtain ⟨h1, h2⟩ := dsK_spec hq.2
    obtain ⟨v, h3, h4⟩ := results_sound h2
    exact ⟨h1, v, h3, h4⟩
  | panic c => exact dsK_spec hq.2
  | exit id => exact hq.2.elim
  | goto l => exact hq.elim
  | outgrown => exact hq.elim

/-- The same, the frame under a name. -/
theorem calls_G {P : Program} {f : FuncId} {fn : Func} {c : Code} {args : Array Value} {w : World} {R : Ending → World → Prop} (H : Nat → List (Nat × Nat)) (hm : P.follows .mixedOrders = true)
    (hf : P.funcs[f]? = some fn) (hb : fn.body = some c) (ho : codeOk fn.ntmps [] H c = true) (hs : Nat.ble args.size fn.ntmps = true)
    (h : ∀ ρ : Nat → Value, (∀ i, ρ i = args.getD i undef) → codeF P H c (postF P fn.results.toList R) ⟨ρ, []⟩ w) : Calls P f args w R :=
  calls_F H hm hf hb ho hs (h _ fun _ => rfl)

/-! ### More is asked where more is given: monotony -/
structure FQ.le (Q Q' : FQ) : Prop where
  n : ∀ a w, Q.n a w → Q'.n a w
  e : ∀ i a w, Q.e i a w → Q'.e i a w
  r : ∀ a w, Q.r a w → Q'.r a w
  x : ∀ c d w, Q.x c d w → Q'.x c d w

section mono
variable {P : Program}
theorem runK_mono {s : Sem Value} {w : World} {k k' : Value → World → Prop} {x x' : PX} (hk : ∀ v w, k v w → k' v w) (hx : ∀ c w, x c w → x' c w) (h : runK P x s w k) : runK P x' s w k' := by
  unfold runK at *
  split at h <;> first | exact hk _ _ h | exact hx _ _ h | exact h.elim
theorem runU_mono {s : Sem Unit} {w : World} {k k' : World → Prop} {x x' : PX} (hk : ∀ w, k w → k' w) (hx : ∀ c w, x c w → x' c w) (h : runU P x s w k) : runU P x' s w k' := by
  unfold runU at *
  split at h <;> first | exact hk _ h | exact hx _ _ h | exact h.elim
theorem callK_mono {f : FuncId} {args : Array Value} {w : World} {k k' : Value → World → Prop} {x x' : PX} (hk : ∀ v w, k v w → k' v w) (hx : ∀ c w, x c w → x' c w) (h : callK P x f args w k) : callK P x' f args w k' :=
  Calls.mono h fun e w he => by cases e <;> first | exact hk _ _ he | exact hx _ _ he | exact he.elim
theorem entK_mono {s : Sem Next} {w : World} {k k' : Value → World → Prop} {x x' : PX} (hk : ∀ v w, k v w → k' v w) (hx : ∀ c w, x c w → x' c w) (h : entK P x s w k) : entK P x' s w k' := by
  unfold entK at *
  split at h <;> first | exact hk _ _ h | exact hx _ _ h | exact callK_mono hk hx h | exact Rows.mono h (fun _ _ he => hk _ _ he) | exact h.elim
theorem opK_mono {op : Op} {ty : TypeId} {d : Option Tmp} {a : FA} {w : World} {K K' : FA → World → Prop} {X X' : List PanicEntry → List Deferred → World → Prop}
    (hk : ∀ a w, K a w → K' a w) (hx : ∀ c d w, X c d w → X' c d w) (h : opK P op ty d a w K X) : opK P op ty d a w K' X' := by
  cases op <;> simp only [opK] at h ⊢ <;> (try exact h.elim) <;> (try exact hk _ _ h) <;> (try exact runK_mono (fun _ _ => hk _ _) (fun _ _ => hx _ _ _) h) <;> (try exact runU_mono (fun _ => hk _ _) (fun _ _ => hx _ _ _) h)
  case pick c u v => exact condF_mono (hk _ _) (hk _ _) h
  case binOp o t x y yt => cases o <;> exact runK_mono (fun _ _ => hk _ _) (fun _ _ => hx _ _ _) h
  case call c =>
    obtain ⟨callee, args, argTypes⟩ := c
    cases callee with
    | value f => cases f <;> exact entK_mono (fun _ _ => hk _ _) (fun _ _ => hx _ _ _) h
    | invoke r m => exact entK_mono (fun _ _ => hk _ _) (fun _ _ => hx _ _ _) h
    | builtin b => cases b <;> first | exact runK_mono (fun _ _ => hk _ _) (fun _ _ => hx _ _ _) h | exact entK_mono (fun _ _ => hk _ _) (fun _ _ => hx _ _ _) h
  case defer c =>
    unfold deferK at *
    split at h
    · exact hk _ _ h
    · exact h.elim
theorem bcase_mono {b : Bool} {F G : Bool → Prop} (h : ∀ b, F b → G b) (hF : bcase b F) : bcase b G := by cases b <;> exact h _ hF
theorem guardN_mono {ops : Array Oper} : ∀ (n : Nat) (g : Nat × Bool) {a : FA} {p s p' s' : FA → Prop} (_ : ∀ a, p a → p' a) (_ : ∀ a, s a → s' a), guardN ops n g a p s → guardN ops n g a p' s'
  | 0, _, _, _, _, _, _, _, _, h => h.elim
  | n + 1, (j, want), a, p, s, p', s', hp, hs, h => by
    simp only [guardN] at h ⊢
    have key : ∀ (a : FA) (d : Nat), condF (a.ρ d)
        (selB want (p (a.put (some d) (.bool true))) (s (a.put (some d) (.bool true)))
)
        (selB want (s (a.put (some d) (.bool false))) (p (a.put (some d) (.bool false)))
) → condF (a.ρ d)
        (selB want (p' (a.put (some d) (.bool true))) (s' (a.put (some d) (.bool true)))
)
        (selB want (s' (a.put (some d) (.bool false))) (p' (a.put (some d) (.bool false)))
) := fun a d h =>
      condF_mono (fun h => by cases want <;> first | exact hp _ h | exact hs _ h) (fun h => by cases want <;> first | exact hp _ h | exact hs _ h) h
    split at h
    · exact hs _ h
    · split at h
      · exact hs _ h
      · split at h
        · exact key _ _ h
        · refine guardN_mono n _ (fun a h => key a _ h) (fun a h => ?_) h
          split at h
          · exact hs _ h
          · exact h.elim
theorem guardF_mono {ops : Array Oper} {o : Oper} {a : FA} {p s p' s' : FA → Prop} (hp : ∀ a, p a → p' a) (hs : ∀ a, s a → s' a) (h : guardF ops o a p s) : guardF ops o a p' s' := by
  unfold guardF at *
  split at h
  · exact hp _ h
  · exact guardN_mono 64 _ hp hs h
theorem opsF_mono {ops : Array Oper} {Q Q' : FQ} (hq : Q.le Q') : ∀ (l : List Oper) (a : FA) (w : World), opsF P ops Q l a w → opsF P ops Q' l a w
  | [], a, w, h => hq.n _ _ h
  | o :: rest, a, w, h => guardF_mono (fun _ h => opK_mono (fun _ _ => opsF_mono hq rest _ _) hq.x h) (fun _ h => opsF_mono hq rest _ _ h) h
theorem opQ_mono {S : World → Prop} {op : Op} {ty : TypeId} {d : Option Tmp} {a : FA} {K K' : FA → Prop} (hk : ∀ a, K a → K' a) (h : opQ P S op ty d a K) : opQ P S op ty d a K' := by
  have key : ∀ {s : Sem Value}, quietK P S s (fun v => K (a.put d v)) → quietK P S s (fun v => K' (a.put d v)) := fun ⟨v, h1, h2⟩ => ⟨v, h1, hk _ h2⟩
  cases op <;> simp only [opQ] at h ⊢ <;> (try exact h.elim) <;> (try exact hk _ h) <;> (try exact key h)
  case pick c u v => exact condF_mono (hk _) (hk _) h
  case binOp o t x y yt => cases o <;> exact key h
  case call c =>
    obtain ⟨callee, args, argTypes⟩ := c
    cases callee with
    | value f => cases f <;> first | exact h.elim | (obtain ⟨v, h1, h2⟩ := h; exact ⟨v, h1, hk _ h2⟩)
    | invoke r m => exact h.elim
    | builtin b => cases b <;> first | exact h.elim | exact key h
theorem heldF_mono {ops : Array Oper} {Q Q' : FQ} (hq : Q.le Q') : ∀ (S : World → Prop) (f : Nat) (l : List (Nat × Nat)) (a : FA) (w : World), heldF P ops Q S f l a w → heldF P ops Q' S f l a w
  | _, 0, _, _, _, h => h.elim
  | _, _ + 1, [], a, w, h => hq.n _ _ h
  | S, f + 1, (i, q) :: r, a, w, h => by
    simp only [heldF] at h ⊢
    split at h
    · exact h.elim
    · split at h
      · exact guardF_mono (fun a h => opK_mono (fun a w h => moreS_mono (fun S h => heldF_mono hq S f r _ _ h) h) hq.x h) (fun a h => heldF_mono hq S f r _ _ h) h
      · exact guardF_mono (fun a h => opQ_mono (fun a h => heldF_mono hq S f r _ _ h) h) (fun a h => heldF_mono hq S f r _ _ h) h
      · exact ⟨guardF_mono (fun a h => opK_mono (fun a w h => moreS_mono (fun S h => heldF_mono hq S f _ _ _ h) h) hq.x h) (fun a h => heldF_mono hq S f _ _ _ h) h.1, heldF_mono hq S f _ _ _ h.2⟩
theorem codeF_mono {H : Nat → List (Nat × Nat)} : ∀ (c : Code) {Q Q' : FQ} (_ : Q.le Q') (a : FA) (w : World), codeF P H c Q a w → codeF P H c Q' a w
  | .skip, _, _, hq, _, _, h => hq.n _ _ h
  | .region _ _ false, _, _, hq, _, _, h => opsF_mono hq _ _ _ h
  | .region _ _ true, _, _, hq, _, _, h => let ⟨S, h1, h2⟩ := h; ⟨S, h1, heldF_mono hq _ _ _ _ _ h2⟩
  | .seq x y, Q, Q', hq, _, _, h => codeF_mono x (Q := Q.nx _) (Q' := Q'.nx _) ⟨fun a w => codeF_mono y hq a w, hq.e, hq.r, hq.x⟩ _ _ h
  | .cond c x y, _, _, hq, a, w, h => by
    simp only [codeF] at h ⊢
    exact condF_mono (codeF_mono x hq _ _) (codeF_mono y hq _ _) h
  | .block id c, Q, Q', hq, a, w, h => codeF_mono c (Q := Q.bl id) (Q' := Q'.bl id) ⟨hq.n, fun i a w h => by
    unfold FQ.bl at h ⊢
    dsimp only at h ⊢
    cases hb : Nat.beq i id with
    | true => rw [hb] at h; exact hq.n _ _ h
    | false => rw [hb] at h; exact hq.e _ _ _ h, hq.r, hq.x⟩ a w h
  | .loop c, Q, Q', hq, a, w, h => by
    obtain ⟨I, μ, h0, h1⟩ := h
    exact ⟨I, μ, h0, fun a w hI => codeF_mono c (Q := Q.nx fun a' w' => I a' w' ∧ μ a' w' < μ a w) (Q' := Q'.nx fun a' w' => I a' w' ∧ μ a' w' < μ a w) ⟨fun _ _ h => h, hq.e, hq.r, hq.x⟩ _ _ (h1 a w hI)⟩
  | .exit _, _, _, hq, _, _, h => hq.e _ _ _ h
  | .scope c, _, _, hq, _, _, h => codeF_mono c hq _ _ h
  | .label _, _, _, hq, _, _, h => hq.n _ _ h
  | .ret, _, _, hq, _, _, h => hq.r _ _ h
  | .goto _, _, _, _, _, _, h => h.elim
  | .rangeFunc .., _, _, _, _, _, h => h.elim
  | .refuse _, _, _, _, _, _, h => h.elim
end mono

/-! ### Deferred calls that were there before -/
def FA.app (a : FA) (l : List Deferred) : FA := ⟨a.ρ, a.ds ++ l⟩
def FQ.sh (Q : FQ) (l : List Deferred) : FQ := ⟨fun a w => Q.n (a.app l) w, fun i a w => Q.e i (a.app l) w, fun a w => Q.r (a.app l) w, fun c ds w => Q.x c (ds ++ l) w⟩
theorem put_app (a : FA) (d : Option Tmp) (v : Value) (l : List Deferred) : (a.app l).put d v = (a.put d v).app l := by cases d <;> rfl
theorem ev_app (a : FA) (l : List Deferred) : (a.app l).ev = a.ev := funext fun x => by cases x <;> rfl
section shift
variable {P : Program} {l : List Deferred}
theorem opK_sh {op : Op} {ty : TypeId} {d : Option Tmp} {a : FA} {w : World} {K : FA → World → Prop} {X : List PanicEntry → List Deferred → World → Prop}
    (h : opK P op ty d a w (fun a w => K (a.app l) w) (fun c ds w => X c (ds ++ l) w)) : opK P op ty d (a.app l) w K X := by
  cases op <;> simp only [opK, ev_app, put_app] at h ⊢ <;> (try exact h)
  case defer c =>
    unfold deferK at *
    cases hr : (resolve a.ev c ty).run P w with
    | ok dd w' =>
      rw [hr] at h
      dsimp only at h ⊢
      have e : ({ (a.app l) with ds := dd :: (a.app l).ds } : FA).put d undef = (({ a with ds := dd :: a.ds } : FA).put d undef).app l := by cases d <;> rfl
      rw [e]; exact h
    | halt x w' => rw [hr] at h; exact h
theorem guardN_sh {ops : Array Oper} : ∀ (n : Nat) (g : Nat × Bool) {a : FA} {p s : FA → Prop}, guardN ops n g a (fun a => p (a.app l)) (fun a => s (a.app l)) → guardN ops n g (a.app l) p s
  | 0, _, _, _, _, h => h.elim
  | n + 1, (j, want), a, p, s, h => by
    simp only [guardN] at h ⊢
    split at h
    · exact h
    · split at h
      · exact h
      · split at h
        · simp only [put_app]; exact h
        · refine guardN_sh n _ (guardN_mono n _ (fun a h => ?_) (fun a h => ?_) h)
          · simp only [put_app]; exact h
          · exact h
theorem guardF_sh {ops : Array Oper} {o : Oper} {a : FA} {p s : FA → Prop} (h : guardF ops o a (fun a => p (a.app l)) (fun a => s (a.app l))) : guardF ops o (a.app l) p s := by
  unfold guardF at *
  split at h
  · exact h
  · exact guardN_sh 64 _ h
theorem opsF_sh {ops : Array Oper} {Q : FQ} : ∀ (os : List Oper) (a : FA) (w : World), opsF P ops (Q.sh l) os a w → opsF P ops Q os (a.app l) w
  | [], a, w, h => h
  | o :: rest, a, w, h => guardF_sh (guardF_mono (fun a h => opK_sh (opK_mono (fun a w h => opsF_sh rest a w h) (fun _ _ _ h => h) h)) (fun a h => by rw [put_app]; exact opsF_sh rest _ _ h) h)
theorem opQ_sh {S : World → Prop} {op : Op} {ty : TypeId} {d : Option Tmp} {a : FA} {K : FA → Prop} (h : opQ P S op ty d a (fun a => K (a.app l))) : opQ P S op ty d (a.app l) K := by
  cases op <;> simp only [opQ, ev_app, put_app] at h ⊢ <;> exact h
theorem heldF_sh {ops : Array Oper} {Q : FQ} : ∀ (S : World → Prop) (f : Nat) (os : List (Nat × Nat)) (a : FA) (w : World), heldF P ops (Q.sh l) S f os a w → heldF P ops Q S f os (a.app l) w
  | _, 0, _, _, _, h => h.elim
  | _, _ + 1, [], a, w, h => h
  | S, f + 1, (i, q) :: r, a, w, h => by
    simp only [heldF] at h ⊢
    split at h
    · exact h.elim
    · split at h
      · exact guardF_sh (guardF_mono (fun a h => opK_sh (opK_mono (fun a w h => moreS_mono (fun S h => heldF_sh S f r _ _ h) h) (fun _ _ _ h => h) h)) (fun a h => by rw [put_app]; exact heldF_sh S f r _ _ h) h)
      · exact guardF_sh (guardF_mono (fun a h => opQ_sh (opQ_mono (fun a h => heldF_sh S f r _ _ h) h)) (fun a h => by rw [put_app]; exact heldF_sh S f r _ _ h) h)
      · exact ⟨guardF_sh (guardF_mono (fun a h => opK_sh (opK_mono (fun a w h => moreS_mono (fun S h => heldF_sh S f _ _ _ h) h) (fun _ _ _ h => h) h)) (fun a h => by rw [put_app]; exact heldF_sh S f _ _ _ h) h.1), heldF_sh S f _ _ _ h.2⟩
theorem codeF_sh {H : Nat → List (Nat × Nat)} : ∀ (c : Code) {Q : FQ} (a : FA) (w : World), codeF P H c (Q.sh l) a w → codeF P H c Q (a.app l) w
  | .skip, _, _, _, h => h
  | .region _ _ false, _, _, _, h => opsF_sh _ _ _ h
  | .region _ _ true, _, _, _, h => let ⟨S, h1, h2⟩ := h; ⟨S, h1, heldF_sh _ _ _ _ _ h2⟩
  | .seq x y, Q, a, w, h => codeF_sh x (Q := Q.nx fun a w => codeF P H y Q a w) a w (codeF_mono x (Q := (Q.sh l).nx fun a w => codeF P H y (Q.sh l) a w) (Q' := (Q.nx fun a w => codeF P H y Q a w).sh l)
      ⟨fun a w h => codeF_sh y a w h, fun _ _ _ h => h, fun _ _ h => h, fun _ _ _ h => h⟩ _ _ h)
  | .cond c x y, Q, a, w, h => by
    simp only [codeF, ev_app] at h ⊢
    exact condF_mono (codeF_sh x a w) (codeF_sh y a w) h
  | .block id c, Q, a, w, h => codeF_sh c (Q := Q.bl id) a w (codeF_mono c (Q := (Q.sh l).bl id) (Q' := (Q.bl id).sh l) ⟨fun _ _ h => h, fun i a w h => by
      unfold FQ.bl FQ.sh at h ⊢
      dsimp only at h ⊢
      cases hb : Nat.beq i id with
      | true => rw [hb] at h; exact h
      | false => rw [hb] at h; exact h, fun _ _ h => h, fun _ _ _ h => h⟩ _ _ h)
  | .loop c, Q, a, w, h => by
    obtain ⟨I, μ, h0, h1⟩ := h
    refine ⟨fun a' w => ∃ a, a' = a.app l ∧ I a w, fun a' w => μ ⟨a'.ρ, a'.ds.take (a'.ds.length - l.length)⟩ w, ⟨a, rfl, h0⟩, ?_⟩
    rintro _ w ⟨a, rfl, hI⟩
    have e : ∀ a : FA, (⟨(a.app l).ρ, (a.app l).ds.take ((a.app l).ds.length - l.length)⟩ : FA) = a := fun a => by simp [FA.app]
    refine codeF_sh c (Q := Q.nx _) a w (codeF_mono c (Q := (Q.sh l).nx fun a' w' => I a' w' ∧ μ a' w' < μ a w) (Q' := (Q.nx _).sh l) ⟨?_, fun _ _ _ h => h, fun _ _ h => h, fun _ _ _ h => h⟩ _ _ (h1 a w hI))
    intro a' w' h
    refine ⟨⟨a', rfl, h.1⟩, ?_⟩
    dsimp only
    rw [e, e]
    exact h.2
  | .exit _, _, _, _, h => h
  | .scope c, _, a, w, h => codeF_sh c a w h
  | .label _, _, _, _, h => h
  | .ret, _, _, _, h => h
  | .goto _, _, _, _, h => h.elim
  | .rangeFunc .., _, _, _, h => h.elim
  | .refuse _, _, _, _, h => h.elim
end shift

/-- A part of a function's code: 0: the first of a sequence (what stands in a block, a loop, a scope; the way of 'yes'), 1: the second (the way of 'no'). -/
def subC : List Nat → Code → Code
  | [], c => c
  | 0 :: p, .seq x _ => subC p x
  | _ :: p, .seq _ y => subC p y
  | 0 :: p, .cond _ x _ => subC p x
  | _ :: p, .cond _ _ y => subC p y
  | _ :: p, .block _ c => subC p c
  | _ :: p, .loop c => subC p c
  | _ :: p, .scope c => subC p c
  | _, _ => .skip

/-- A part that is proved for itself: it ends, or panics. -/
def postV (R : Ending → World → Prop) : FQ where
  n := fun a w => dsK a.ds (R (.returned undef) w)
  e := fun _ _ _ => False
  r := fun a w => dsK a.ds (R (.returned undef) w)
  x := fun c ds w => dsK ds (R (.panicked c) w)

/-- What is asked where calls are deferred: with whatever frame that holds what is protected. -/
def postD (P : Program) (fn : Func) (R : Ending → World → Prop) (pr : List (Nat × Value)) : FQ where
  n := fun a w => ∀ tmps : Array Value, (∀ p ∈ pr, tmps.getD p.1 undef = p.2) → Leaves P fn tmps R a.ds .returning w
  e := fun _ _ _ => False
  r := fun a w => ∀ tmps : Array Value, (∀ p ∈ pr, tmps.getD p.1 undef = p.2) → Leaves P fn tmps R a.ds .returning w
  x := fun c ds w => ∀ tmps : Array Value, (∀ p ∈ pr, tmps.getD p.1 undef = p.2) → Leaves P fn tmps R ds (.panicking c) w

/-- A function that defers: its results' places are made first (x), and are not written again (y). -/
theorem calls_D {P : Program} {f : FuncId} {fn : Func} {x y : Code} {args : Array Value} {w : World} {R : Ending → World → Prop} (H : Nat → List (Nat × Nat)) (hm : P.follows .mixedOrders = true)
    (hf : P.funcs[f]? = some fn) (hb : fn.body = some (.seq x y)) (ho : codeOk fn.ntmps [] H x = true) (hs : Nat.ble args.size fn.ntmps = true)
    (h : codeF P H x ⟨fun a w => ∃ pr : List (Nat × Value), codeOk fn.ntmps pr H y = true ∧ (∀ p ∈ pr, a.ρ p.1 = p.2) ∧ codeF P H y (postD P fn R pr) a w, fun _ _ _ => False, fun _ _ => False, fun _ _ _ => False⟩
      ⟨fun i => args.getD i undef, []⟩ w) : Calls P f args w R := by
  refine calls_of_wp_defers hf hb (wp_seq ?_)
  rw [← fa_init args (fn.ntmps - args.size)] at h
  have hs' : args.size ≤ fn.ntmps := Nat.le_of_ble_eq_true hs
  refine wp_mono (code_sound hm x _ _ w ho (Good.plain (by simp; omega)) h) fun e a w hq => ?_
  cases e with
  | normal =>
    obtain ⟨hg, pr, hok, hpr, hy⟩ := hq
    have hg' : Good fn.ntmps pr a := ⟨hg.size, hpr⟩
    refine wp_mono (code_sound hm y _ a w hok hg' hy) fun e a w hq => ?_
    cases e with
    | normal => exact hq.2 _ hq.1.kept
    | ret => exact hq.2 _ hq.1.kept
    | panic c => exact hq.2 _ hq.1.kept
    | exit id => exact hq.2.elim
    | goto l => exact hq.elim
    | outgrown => exact hq.elim
  | ret => exact hq.2.elim
  | panic c => exact hq.2.elim
  | exit id => exact hq.2.elim
  | goto l => exact hq.elim
  | outgrown => exact hq.elim

/-- The part of a function behind its only deferred call. -/
theorem tail_D {P : Program} {fn : Func} {H : Nat → List (Nat × Nat)} {y : Code} {R R' : Ending → World → Prop} {pr : List (Nat × Value)} {d : Deferred} {ρ : Nat → Value} {w : World}
    (hr : ∀ w, R' (.returned undef) w → ∀ tmps : Array Value, (∀ p ∈ pr, tmps.getD p.1 undef = p.2) → Leaves P fn tmps R [d] .returning w)
    (hx : ∀ c w, R' (.panicked c) w → ∀ tmps : Array Value, (∀ p ∈ pr, tmps.getD p.1 undef = p.2) → Leaves P fn tmps R [d] (.panicking c) w)
    (h : codeF P H y (postV R') ⟨ρ, []⟩ w) : codeF P H y (postD P fn R pr) ⟨ρ, [d]⟩ w := by
  refine codeF_sh (l := [d]) y ⟨ρ, []⟩ w (codeF_mono y (Q := postV R') (Q' := (postD P fn R pr).sh [d]) ⟨fun a w h => ?_, fun _ _ _ h => h, fun a w h => ?_, fun c ds w h => ?_⟩ _ _ h)
  · obtain ⟨e, h⟩ := dsK_spec h
    show ∀ tmps : Array Value, _
    rw [show (FA.app a [d]).ds = [d] from by show a.ds ++ [d] = [d]; rw [e]; rfl]
    exact hr w h
  · obtain ⟨e, h⟩ := dsK_spec h
    show ∀ tmps : Array Value, _
    rw [show (FA.app a [d]).ds = [d] from by show a.ds ++ [d] = [d]; rw [e]; rfl]
    exact hr w h
  · obtain ⟨e, h⟩ := dsK_spec h
    show ∀ tmps : Array Value, _
    subst e
    exact hx c w h

/-! ### Putting pieces together -/
/-- A loop in a function's text: a relation over what is live at its head, and a number that falls. -/
def LoopM {τ : Type} (body : τ → (τ → World → Prop) → World → Prop) (t : τ) (w : World) : Prop :=
  ∃ (J : τ → World → Prop) (μ : τ → World → Nat), J t w ∧ ∀ t w, J t w → body t (fun t' w' => J t' w' ∧ μ t' w' < μ t w) w
/-- What a panic asks. -/
def px (R : Ending → World → Prop) : PX := fun c w => R (.panicked c) w
/-- A region that draws, in a function's text. -/
def drawM (w : World) (F : (World → Prop) → World → Prop) : Prop := ∃ S : World → Prop, S w.drew ∧ F S w.drew
theorem cast_prop {p q : Prop} (h : p) (e : p = q) : q := e ▸ h

section pieces
variable {P : Program} {H : Nat → List (Nat × Nat)} {Q : FQ} {ρ : Nat → Value} {w : World}
theorem seq_sound {x y : Code} (K : (Nat → Value) → World → Prop) (hy : ∀ ρ w, K ρ w → codeF P H y Q ⟨ρ, []⟩ w) (hx : codeF P H x (Q.nx fun a w => dsK a.ds (K a.ρ w)) ⟨ρ, []⟩ w) :
    codeF P H (.seq x y) Q ⟨ρ, []⟩ w :=
  codeF_mono x (Q := Q.nx fun a w => dsK a.ds (K a.ρ w)) (Q' := Q.nx fun a w => codeF P H y Q a w) ⟨fun a w h => by
    obtain ⟨ρ, ds⟩ := a
    obtain ⟨h1, h2⟩ := dsK_spec h
    dsimp only at h1 h2
    subst h1
    exact hy ρ w h2, fun _ _ _ h => h, fun _ _ h => h, fun _ _ _ h => h⟩ _ _ hx
theorem cond_sound {c : Operand} {x y : Code} (X Y : Prop) (hx : X → codeF P H x Q ⟨ρ, []⟩ w) (hy : Y → codeF P H y Q ⟨ρ, []⟩ w) (h : condF ((⟨ρ, []⟩ : FA).ev c) X Y) : codeF P H (.cond c x y) Q ⟨ρ, []⟩ w := by
  simp only [codeF]
  generalize (⟨ρ, []⟩ : FA).ev c = v at h ⊢
  cases v with
  | bool b =>
    cases b
    · exact hy h
    · exact hx h
  | _ => exact h.elim
theorem block_sound {id : Nat} {c : Code} (h : codeF P H c (Q.bl id) ⟨ρ, []⟩ w) : codeF P H (.block id c) Q ⟨ρ, []⟩ w := h
theorem scope_sound {c : Code} (h : codeF P H c Q ⟨ρ, []⟩ w) : codeF P H (.scope c) Q ⟨ρ, []⟩ w := h
theorem loop_sound {τ : Type} {c : Code} (L : (Nat → Value) → τ) (body : τ → (τ → World → Prop) → World → Prop)
    (hb : ∀ N ρ w, body (L ρ) N w → codeF P H c (Q.nx fun a w => dsK a.ds (N (L a.ρ) w)) ⟨ρ, []⟩ w) (h : LoopM body (L ρ) w) : codeF P H (.loop c) Q ⟨ρ, []⟩ w := by
  obtain ⟨J, μ, h0, h1⟩ := h
  refine ⟨fun a w => dsK a.ds (J (L a.ρ) w), fun a w => μ (L a.ρ) w, h0, fun a w hI => ?_⟩
  obtain ⟨ρ, ds⟩ := a
  obtain ⟨e, hI⟩ := dsK_spec hI
  dsimp only at e hI
  subst e
  refine codeF_mono c (Q := Q.nx fun a w' => dsK a.ds (J (L a.ρ) w' ∧ μ (L a.ρ) w' < μ (L ρ) w)) (Q' := Q.nx fun a' w' => dsK a'.ds (J (L a'.ρ) w') ∧ μ (L a'.ρ) w' < μ (L ρ) w) ⟨fun a w' h => ?_, fun _ _ _ h => h, fun _ _ h => h, fun _ _ _ h => h⟩ _ _ (hb _ ρ w (h1 _ _ hI))
  obtain ⟨e, h⟩ := dsK_spec h
  exact ⟨by show dsK a.ds _; rw [e]; exact h.1, h.2⟩
end pieces

end Go.FW
