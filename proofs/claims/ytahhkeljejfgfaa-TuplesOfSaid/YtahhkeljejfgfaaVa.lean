/- Shallow verification conditions, part a: worlds that grow, environments of slots, single operations. -/
import Derived.RangeFuncNested
import Derived.RangeFuncLeaves
import Derived.OrdersIn
import Derived.KernelRfl
namespace Go.Vc
open Go Go.RowKit

/-! ### worlds -/
/-- an object that is no bookkeeping of a range over a function -/
def solid : Obj → Bool
  | .loop _ => false
  | .deferred _ => false
  | .mapIter .. => false
  | _ => true
/-- the bookkeeping of ranges over functions -/
def book : Obj → Bool
  | .loop _ => true
  | .deferred _ => true
  | _ => false
theorem book_solid {o : Obj} (h : book o = true) : solid o = false := by cases o <;> first | rfl | cases h
/-- where a range over a map stands -/
def isIt : Obj → Bool
  | .mapIter .. => true
  | _ => false
theorem isIt_solid {o : Obj} (h : isIt o = true) : solid o = false := by cases o <;> first | rfl | cases h

/-- solid objects stay as they are -/
structure Ext (w w' : World) : Prop where
  size : w.heap.size ≤ w'.heap.size
  keep : ∀ (r : Nat) (o : Obj), w.heap[r]? = some o → solid o = true → w'.heap[r]? = some o

theorem Ext.refl (w : World) : Ext w w := ⟨Nat.le_refl _, fun _ _ h _ => h⟩
theorem Ext.trans {a b c : World} (h : Ext a b) (k : Ext b c) : Ext a c :=
  ⟨Nat.le_trans h.size k.size, fun r o hr hs => k.keep r o (h.keep r o hr hs) hs⟩

/-- the bookkeeping of loops over functions, and the streams, stay as they are -/
structure Ns (w w' : World) : Prop where
  os : w'.os = w.os
  tape : w'.tape = w.tape
  output : w'.output = w.output
  size : w.heap.size ≤ w'.heap.size
  keep : ∀ (r : Nat) (o : Obj), w.heap[r]? = some o → solid o = false → w'.heap[r]? = some o

/-- the same, where ranges over maps whose objects are not below n may have gone on -/
structure NsB (n : Nat) (w w' : World) : Prop where
  os : w'.os = w.os
  tape : w'.tape = w.tape
  output : w'.output = w.output
  size : w.heap.size ≤ w'.heap.size
  keep : ∀ (r : Nat) (o : Obj), w.heap[r]? = some o → book o = true → w'.heap[r]? = some o
  old : ∀ (r : Nat) (o : Obj), r < n → w.heap[r]? = some o → solid o = false → w'.heap[r]? = some o
theorem Ns.b {w w' : World} {n : Nat} (h : Ns w w') : NsB n w w' := ⟨h.os, h.tape, h.output, h.size, fun r o hr hs => h.keep r o hr (book_solid hs), fun r o _ hr hs => h.keep r o hr hs⟩
theorem NsB.refl (n : Nat) (w : World) : NsB n w w := ⟨rfl, rfl, rfl, Nat.le_refl _, fun _ _ h _ => h, fun _ _ _ h _ => h⟩
theorem NsB.trans {n : Nat} {a b c : World} (h : NsB n a b) (k : NsB n b c) : NsB n a c :=
  ⟨k.os.trans h.os, k.tape.trans h.tape, k.output.trans h.output, Nat.le_trans h.size k.size, fun r o hr hs => k.keep r o (h.keep r o hr hs) hs, fun r o hn hr hs => k.old r o hn (h.old r o hn hr hs) hs⟩
/-- whoever came later may make more go on -/
theorem NsB.step {n m : Nat} {a b c : World} (h : NsB n a b) (k : NsB m b c) (hm : a.heap.size ≤ m) : NsB n a c :=
  ⟨k.os.trans h.os, k.tape.trans h.tape, k.output.trans h.output, Nat.le_trans h.size k.size, fun r o hr hs => k.keep r o (h.keep r o hr hs) hs,
    fun r o hn hr hs => k.old r o (Nat.lt_of_lt_of_le (Array.getElem?_eq_some_iff.1 hr).1 hm) (h.old r o hn hr hs) hs⟩
theorem NsB.ns {n : Nat} {w w' : World} (h : NsB n w w') (hn : w.heap.size ≤ n) : Ns w w' :=
  ⟨h.os, h.tape, h.output, h.size, fun r o hr hs => h.old r o (Nat.lt_of_lt_of_le (Array.getElem?_eq_some_iff.1 hr).1 hn) hr hs⟩
/-- no range over a map has gone on -/
def Its (w w' : World) : Prop := ∀ (r : Nat) (o : Obj), w.heap[r]? = some o → isIt o = true → w'.heap[r]? = some o
theorem Its.refl (w : World) : Its w w := fun _ _ h _ => h
theorem Its.trans {a b c : World} (h : Its a b) (k : Its b c) : Its a c := fun r o hr hs => k r o (h r o hr hs) hs
theorem Ns.its {w w' : World} (h : Ns w w') : Its w w' := fun r o hr hs => h.keep r o hr (isIt_solid hs)
/-- is nothing said of the bookkeeping; the blocks that were there when the function was entered -/
abbrev Md := Bool × Nat

theorem Ns.refl (w : World) : Ns w w := ⟨rfl, rfl, rfl, Nat.le_refl _, fun _ _ h _ => h⟩
theorem Ns.trans {a b c : World} (h : Ns a b) (k : Ns b c) : Ns a c :=
  ⟨k.os.trans h.os, k.tape.trans h.tape, k.output.trans h.output, Nat.le_trans h.size k.size, fun r o hr hs => k.keep r o (h.keep r o hr hs) hs⟩

theorem ext_drew (w : World) (n : Nat) : Ext w { w with drawn := n } := ⟨Nat.le_refl _, fun _ _ h _ => h⟩
theorem ns_drew (w : World) (n : Nat) : Ns w { w with drawn := n } := ⟨rfl, rfl, rfl, Nat.le_refl _, fun _ _ h _ => h⟩
theorem ext_push (w : World) (o : Obj) : Ext w { w with heap := w.heap.push o } :=
  ⟨by simp, fun r o' h _ => by
    have hlt := (Array.getElem?_eq_some_iff.1 h).1
    simp only [Array.getElem?_push]; rw [if_neg (by omega)]; exact h⟩
theorem ns_push (w : World) (o : Obj) : Ns w { w with heap := w.heap.push o } :=
  ⟨rfl, rfl, rfl, by simp, fun r o' h _ => by
    have hlt := (Array.getElem?_eq_some_iff.1 h).1
    simp only [Array.getElem?_push]; rw [if_neg (by omega)]; exact h⟩

/-! ### environments: what is known of the slots -/
/-- a slot's value; or a Bool that is known to the letter; or nothing: its operation was passed over -/
inductive EV where
  | v (x : Value)
  | b (c : Bool)
  | u
def EV.val : EV → Value
  | .v x => x
  | .b c => .bool c
  | .u => undef
def EV.ofConst : Value → EV
  | .bool c => .b c
  | x => .v x
theorem EV.val_ofConst (x : Value) : (EV.ofConst x).val = x := by cases x <;> rfl

abbrev Env := List (Nat × EV)

def look : Env → Nat → Option EV
  | [], _ => none
  | (s, x) :: r, t => bif Nat.beq s t then some x else look r t

def opd (e : Env) : Operand → Option EV
  | .tmp t => look e t
  | .const x => some (EV.ofConst x)
  | .global g => some (.v (.pointer (some ⟨g, 0, none⟩)))
  | .func f => some (.v (.func (.func f) #[] #[]))

def rho (e : Env) (x : Operand) : Value :=
  match opd e x with
  | some y => y.val
  | none => undef

def known (e : Env) : List Operand → Bool
  | [] => true
  | x :: r => (opd e x).isSome && known e r

/-- the activation has N slots, and those that are named hold what is named -/
def Holds (N : Nat) (e : Env) (a : Act) : Prop :=
  a.tmps.size = N ∧ ∀ t x, look e t = some x → a.tmps.getD t undef = x.val

theorem Holds.opd {N : Nat} {e : Env} {a : Act} (h : Holds N e a) {x : Operand} {y : EV} (hx : Vc.opd e x = some y) : a.eval x = y.val := by
  cases x with
  | tmp t => exact h.2 t y hx
  | const v => simp [Vc.opd] at hx; subst hx; simp [Act.eval, EV.val_ofConst]
  | global g => simp [Vc.opd] at hx; subst hx; rfl
  | func f => simp [Vc.opd] at hx; subst hx; rfl

theorem Holds.eval {N : Nat} {e : Env} {a : Act} (h : Holds N e a) {x : Operand} (hx : (Vc.opd e x).isSome = true) : a.eval x = rho e x := by
  obtain ⟨y, hy⟩ := Option.isSome_iff_exists.1 hx
  rw [h.opd hy]; simp [rho, hy]

theorem known_mem {e : Env} : ∀ {l : List Operand}, known e l = true → ∀ x ∈ l, (opd e x).isSome = true
  | [], _, _, hx => by cases hx
  | y :: r, h, x, hx => by
    simp only [known, Bool.and_eq_true] at h
    cases hx with
    | head => exact h.1
    | tail _ hx => exact known_mem h.2 x hx

def putEnv (e : Env) (d : Option Tmp) (x : EV) : Env :=
  match d with
  | some t => (t, x) :: e
  | none => e

def dstOk (N : Nat) (d : Option Tmp) : Bool :=
  match d with
  | some t => Nat.blt t N
  | none => true

theorem Holds.put {N : Nat} {e : Env} {a : Act} (h : Holds N e a) {d : Option Tmp} (hd : dstOk N d = true) {x : EV} {v : Value} (hv : x.val = v) :
    Holds N (putEnv e d x) (a.put d v) := by
  cases d with
  | none => exact h
  | some t =>
    have ht : t < N := by simpa [dstOk, Nat.blt_eq] using hd
    refine ⟨by simp [Act.put, h.1], fun s y hs => ?_⟩
    simp only [putEnv, look] at hs
    cases hb : Nat.beq t s with
    | true =>
      have hts : t = s := Nat.eq_of_beq_eq_true hb
      subst hts
      simp only [hb, cond_true, Option.some.injEq] at hs
      subst hs
      simp [Act.put, h.1, ht, hv]
    | false =>
      have hts : t ≠ s := Nat.ne_of_beq_eq_false hb
      simp only [hb, cond_false] at hs
      have := h.2 s y hs
      simp only [Act.put, Array.getD_eq_getD_getElem?] at this ⊢
      rw [Array.getElem?_setIfInBounds_ne hts]; exact this

/-! ### the fence without bounds, in a round or not -/
def FW (r : Option Nat) : Fence := { Fence.wide with round := r }
theorem FW_fn (r : Option Nat) (f : FuncId) : (FW r).fn f := trivial
theorem FW_depth (r : Option Nat) (n : Nat) : (FW r).depth.isSome = true → 1 ≤ n := fun h => by simp [FW, Fence.wide] at h
theorem callsIn_FW {r : Option Nat} {n : Nat} {P : Program} {f : FuncId} {args : Array Value} {w : World} {R : Ending → World → Prop}
    (h : Calls P f args w R) : CallsIn (FW r) n P f args w R := by
  have := (callsIn_wide (n := n)).2 h
  exact this
theorem calls_of_FW {r : Option Nat} {n : Nat} {P : Program} {f : FuncId} {args : Array Value} {w : World} {R : Ending → World → Prop}
    (h : CallsIn (FW r) n P f args w R) : Calls P f args w R := by
  have h' : CallsIn Fence.wide n P f args w R := h
  exact callsIn_wide.1 h'

/-! ### one operation -/
section
variable (P : Program)

/-- s comes to a value, and what follows holds of it -/
def RunC {α : Type} (s : Sem α) (w : World) (K : α → World → Prop) : Prop := ∃ v w', s.run P w = .ok v w' ∧ Ns w w' ∧ K v w'

/-- the same of a step that a range over a map of one's own makes -/
def RunN {α : Type} (free : Md) (s : Sem α) (w : World) (K : α → World → Prop) : Prop := ∃ v w', s.run P w = .ok v w' ∧ (free.1 = false → NsB free.2 w w') ∧ K v w'

def Split (x : Value) (A B : Prop) : Prop := ∃ c, x = .bool c ∧ (c = true → A) ∧ (c = false → B)

/-- a comparison asks only whether an operand is a constant -/
def cv : Bool → Operand
  | true => .const (.bool true)
  | false => .tmp 0
def isC : Operand → Bool
  | .const _ => true
  | _ => false

theorem eqGuard_cv (op : BinOp) (t : TypeId) (x y : Operand) (a b : Value) : eqGuard op t x y a b = eqGuard op t (cv (isC x)) (cv (isC y)) a b := by
  cases x <;> cases y <;> rfl

def binS (op : BinOp) (t : TypeId) (cx cy : Bool) (a b : Value) : Sem Value := do eqGuard op t (cv cx) (cv cy) a b; binOp op t a b

/-- the value of a step that comes to a value -/
def valS (s : Sem Next) : Sem Value := do
  match ← s with
  | .value v => pure v
  | _ => stuck "no value"

def nilS (x : Value) : Sem Value := valS (execOp (fun _ => x) { dst := none, op := .nilCheck (.tmp 0), type := 0, pos := "", after := #[], guard := none })

def vals (ρ : Operand → Value) : List Operand → List Value
  | [] => []
  | x :: r => ρ x :: vals ρ r
theorem vals_eq (ρ : Operand → Value) : ∀ l, vals ρ l = l.map ρ
  | [] => rfl
  | x :: r => by simp [vals, vals_eq ρ r]
theorem vals_arr (ρ : Operand → Value) (l : Array Operand) : (vals ρ l.toList).toArray = l.map ρ := by
  apply Array.toList_inj.1; simp [vals_eq]

def partsOf (ρ : Operand → Value) : List (Nat × Operand) → List (Nat × Value)
  | [] => []
  | x :: r => (x.1, ρ x.2) :: partsOf ρ r
theorem partsOf_eq (ρ : Operand → Value) : ∀ l, partsOf ρ l = l.map fun (i, x) => (i, ρ x)
  | [] => rfl
  | x :: r => by simp [partsOf, partsOf_eq ρ r]
theorem partsOf_arr (ρ : Operand → Value) (l : Array (Nat × Operand)) : (partsOf ρ l.toList).toArray = l.map fun (i, x) => (i, ρ x) := by
  apply Array.toList_inj.1; simp [partsOf_eq]

/-- the operands, in a list -/
def opsOf : Op → List Operand
  | .alloc _ | .ready _ | .waits _ => []
  | .move x | .assign x | .box _ x | .load _ x | .nilCheck x | .unOp _ _ x | .convert _ _ x | .sliceToArrayPointer _ x | .makeInterface _ x
  | .makeChan _ x | .fieldAddr _ x _ | .field _ x _ | .range _ x | .next x _ | .entry x | .typeAssert x _ _ _ | .extract x _ | .panic x | .recv _ x _ => [x]
  | .pick c a b => [c, a, b]
  | .build _ ps | .buildSlice _ _ ps => ps.toList.map (·.2)
  | .store _ a v | .binOp _ _ a v _ | .makeSlice _ a v | .indexAddr _ a v | .index _ a v | .lookup _ a v _ | .mapEntry _ a v | .send a v => [a, v]
  | .makeFunc _ first captured => first.toList ++ captured.toList
  | .makeMap _ r => match r with
    | some x => [x]
    | none => []
  | .slice _ x l h m => x :: ((match l with
    | some y => [y]
    | none => []) ++ ((match h with
    | some y => [y]
    | none => []) ++ (match m with
    | some y => [y]
    | none => [])))
  | .mapUpdate _ m k v | .entryStore _ m k v | .insert _ m k v => [m, k, v]
  | .call c => match c.callee with
    | .value f => f :: c.args.toList
    | .invoke r _ => r :: c.args.toList
    | .builtin _ => c.args.toList
  | .go _ | .defer _ | .select .. => []

theorem opsOf_mem {op : Op} (h1 : ∀ c, op ≠ .go c) (h2 : ∀ c, op ≠ .defer c) (h3 : ∀ cs b, op ≠ .select cs b) : ∀ x ∈ op.operands, x ∈ opsOf op := by
  intro x hx
  cases op <;> simp only [Op.operands, opsOf] at hx ⊢ <;> try (first | (simp at hx; done) | (simp at hx ⊢; exact hx))
  case go c => exact absurd rfl (h1 c)
  case defer c => exact absurd rfl (h2 c)
  case select cs b => exact absurd rfl (h3 cs b)
  case makeMap t r => cases r <;> simp at hx ⊢ <;> exact hx
  case slice t y l h m => cases l <;> cases h <;> cases m <;> simpa [or_assoc] using hx
  case call c => cases hc : c.callee <;> simpa [Call.operands, hc] using hx

/-- the operations that yield a value by a run of their own -/
def semV (ρ : Operand → Value) : Op → Option (Sem Value)
  | .pick c a b => some (do pure (if ← asBool (ρ c) then ρ a else ρ b))
  | .alloc elem => some (Instr.alloc elem true (.tuple #[]))
  | .box elem x => some (Instr.box elem (ρ x))
  | .build t parts => some (Instr.build t (partsOf ρ parts.toList).toArray)
  | .buildSlice t len parts => some (Instr.buildSlice t len (partsOf ρ parts.toList).toArray)
  | .load t a => some (Instr.loadAt t (ρ a))
  | .nilCheck x => some (nilS (ρ x))
  | .binOp op xt x y _ => some (binS op xt (isC x) (isC y) (ρ x) (ρ y))
  | .unOp op _ x => some (Op.unary op (ρ x))
  | .convert src dst x => some (convert src dst (ρ x))
  | .makeInterface xt x => some (Instr.makeInterface xt (ρ x))
  | .makeFunc fn first captured => some (Instr.makeFunc fn (vals ρ first.toList).toArray (vals ρ captured.toList).toArray)
  | .makeMap t r => some (Instr.makeMap t (r.map ρ))
  | .makeSlice t l c => some (Instr.makeSlice t (ρ l) (ρ c))
  | .slice t x lo hi mx => some (Instr.sliceAt t (ρ x) (lo.map ρ) (hi.map ρ) (mx.map ρ))
  | .fieldAddr s x f => some (Instr.fieldAt s (ρ x) f)
  | .field xt x f => some (Instr.field xt (ρ x) f)
  | .indexAddr t x ix => some (Instr.indexAt t (ρ x) (ρ ix))
  | .index xt x ix => some (Instr.index xt (ρ x) (ρ ix))
  | .lookup xt x ix ok => some (Instr.lookup xt (ρ x) (ρ ix) ok)
  | .mapEntry t m k => some (Instr.mapEntry t (ρ m) (ρ k))
  | .range xt x => some (Instr.range xt (ρ x))
  | .entry it => some (Instr.entry (ρ it))
  | .typeAssert x xt asserted ok => some (Instr.typeAssert (ρ x) xt asserted ok)
  | .extract t ix => some (Instr.extract (ρ t) ix)
  | _ => none

/-- the operations that yield nothing -/
def semU (ρ : Operand → Value) : Op → Option (Sem Unit)
  | .store t a x => some (Instr.storeAt t (ρ a) (ρ x))
  | .mapUpdate t m k x => some (Instr.mapUpdate t (ρ m) (ρ k) (ρ x))
  | .insert t m k x => some (Instr.mapUpdate t (ρ m) (ρ k) (ρ x))
  | .entryStore t m s x => some (Instr.entryStore t (ρ m) (ρ s) (ρ x))
  | _ => none

/-- the builtins that yield a value -/
def semB (b : Builtin) (ats : Array TypeId) (ty : TypeId) (args : Array Value) : Option (Sem Value) :=
  match b with
  | .append => some (Builtin.append_ ats ty args)
  | .cap => some (Builtin.cap_ ats ty args)
  | .clear => some (Builtin.clear_ ats ty args)
  | .copy => some (Builtin.copy_ ats ty args)
  | .delete => some (Builtin.delete_ ats ty args)
  | .len => some (Builtin.len_ ats ty args)
  | .max => some (Builtin.max_ ats ty args)
  | .min => some (Builtin.min_ ats ty args)
  | _ => none

theorem valS_run {s : Sem Next} {w w' : World} {v : Value} (h : (valS s).run P w = .ok v w') : s.run P w = .ok (.value v) w' := by
  unfold valS at h
  rw [Sem.run_bind] at h
  cases hs : s.run P w with
  | halt x w1 => rw [hs] at h; simp [Result.andThen] at h
  | ok x w1 =>
    rw [hs] at h
    cases x <;> simp_all [Result.andThen, stuck, Sem.run_pure]

theorem next_ty (x : Value) (b : Bool) (t : TypeId) : Instr.next x b 0 = Instr.next x b t := rfl

theorem semV_exec {ρ : Operand → Value} {o : Oper} {s : Sem Value} (h : semV ρ o.op = some s) {w w' : World} {v : Value} (hr : s.run P w = .ok v w') :
    (execOp ρ o).run P w = .ok (.value v) w' := by
  cases ho : o.op with
  | nilCheck x =>
    rw [ho] at h; cases h
    have := valS_run P hr
    unfold execOp at this ⊢
    simpa [ho] using this
  | pick c x y =>
    rw [ho] at h; cases h
    unfold execOp
    simp only [ho, Sem.run_bind, Sem.run_pure] at hr ⊢
    cases hb : (asBool (ρ c)).run P w with
    | halt x w1 => rw [hb] at hr; simp [Result.andThen] at hr
    | ok x w1 => rw [hb] at hr; simp only [Result.andThen, Result.ok.injEq] at hr ⊢; simp [hr]
  | binOp op xt x y yt =>
    rw [ho] at h; cases h
    unfold execOp
    simp only [ho]
    unfold binS at hr
    rw [← eqGuard_cv] at hr
    simp only [Sem.run_bind, Sem.run_pure] at hr ⊢
    rw [hr]; rfl
  | _ =>
    rw [ho] at h
    first
      | (cases h; done)
      | (cases h; simp only [vals_arr, partsOf_arr] at hr; unfold execOp; simp only [ho, Sem.run_bind, hr, Result.andThen, Sem.run_pure])
      | (cases h; unfold execOp; simp only [ho, Sem.run_bind, hr, Result.andThen, Sem.run_pure])

theorem semU_exec {ρ : Operand → Value} {o : Oper} {s : Sem Unit} (h : semU ρ o.op = some s) {w w' : World} {v : Unit} (hr : s.run P w = .ok v w') :
    (execOp ρ o).run P w = .ok .skip w' := by
  cases ho : o.op with
  | _ =>
    rw [ho] at h
    first
      | (cases h; done)
      | (cases h; unfold execOp; simp only [ho, Sem.run_bind, hr, Result.andThen, Sem.run_pure])

/-- function f is there with a body: a call of it enters it -/
def Enters (f : FuncId) : Prop := ∀ args w, (callFunc f args).run P w = .ok (.enter f args) w

/-- a function is called, enters, and returns -/
inductive Cal (f : FuncId) (args : List Value) (w : World) (K : Value → World → Prop) : Prop
  | code (h1 : Enters P f) (h2 : Calls P f args.toArray w fun e w' => ∃ v, e = .returned v ∧ Ns w w' ∧ K v w')
  | ext (v : Value) (w' : World) (h1 : (callFunc f args.toArray).run P w = .ok (.value v) w') (h2 : Ns w w') (h3 : K v w')

/-- the same, of which nothing is said of the bookkeeping of loops -/
inductive CalF (f : FuncId) (args : List Value) (w : World) (K : Value → World → Prop) : Prop
  | code (h1 : Enters P f) (h2 : Calls P f args.toArray w fun e w' => ∃ v, e = .returned v ∧ K v w')
  | ext (v : Value) (w' : World) (h1 : (callFunc f args.toArray).run P w = .ok (.value v) w') (h3 : K v w')

theorem CalF.calls {f : FuncId} {args : List Value} {w : World} {K : Value → World → Prop} (h : CalF P f args w K) (hen : Enters P f) : Calls P f args.toArray w fun e w' => ∃ v, e = .returned v ∧ K v w' := by
  cases h with
  | code _ h => exact h
  | ext v w' h1 => rw [hen] at h1; cases h1

/-- yield is called: a round of the loop -/
def Yield (l : Nat) (args : List Value) (w : World) (K : Value → World → Prop) : Prop :=
  YieldAt Fence.wide 0 P l args.toArray w fun e w' => ∃ v, e = .returned v ∧ K v w'

/-- a function value is called -/
def CalV (free : Bool) (f : Value) (args : List Value) (w : World) (K : Value → World → Prop) : Prop :=
  match f with
  | .func (.func g) first cap => bif free then CalF P g (first.toList ++ args ++ cap.toList) w K else Cal P g (first.toList ++ args ++ cap.toList) w K
  | .func (.yield l) first _ => free = true ∧ Yield P l (first.toList ++ args) w K
  | _ => False

/-- s comes to v in whatever world holds what this one holds, and leaves it alone -/
def RunQ (s : Sem Value) (w : World) (K : Value → Prop) : Prop := ∃ v, (∀ w', Ext w w' → s.run P w' = .ok v w') ∧ K v

/-- operations that only look -/
def quietB (o : Oper) : Bool :=
  match o.op with
  | .move _ | .assign _ | .pick .. | .load .. | .nilCheck _ | .binOp .. | .unOp .. | .convert .. | .makeInterface .. | .makeFunc .. | .slice .. | .fieldAddr .. | .field ..
  | .indexAddr .. | .index .. | .lookup .. | .extract .. | .build .. | .typeAssert .. => true
  | .call c =>
    match c.callee with
    | .builtin .len | .builtin .cap | .builtin .min | .builtin .max => true
    | _ => false
  | _ => false

/-- s comes to v in w', and in whatever world holds what that one holds -/
def Stays (s : Sem Value) (v : Value) (w' : World) : Prop := ∀ w'', Ext w' w'' → s.run P w'' = .ok v w''

def vcQ (o : Oper) (e : Env) (w : World) (K : Env → (World → Prop) → Prop) : Prop :=
  bif known e (opsOf o.op) then
    match o.op with
    | .move x | .assign x =>
      match opd e x with
      | some y => K (putEnv e o.dst y) (fun _ => True)
      | none => False
    | .pick c a b =>
      match opd e c with
      | some (.b true) => (match opd e a with | some y => K (putEnv e o.dst y) (fun _ => True) | none => False)
      | some (.b false) => (match opd e b with | some y => K (putEnv e o.dst y) (fun _ => True) | none => False)
      | some (.v x) => Split x (K (putEnv e o.dst (.v (rho e a))) (fun _ => True)) (K (putEnv e o.dst (.v (rho e b))) (fun _ => True))
      | some .u => False
      | none => False
    | .call c =>
      match c.callee with
      | .builtin b =>
        match semB b c.argTypes o.type (vals (rho e) c.args.toList).toArray with
        | some s => RunQ P s w fun v => K (putEnv e o.dst (.v v)) (Stays P s v)
        | none => False
      | _ => False
    | op =>
      match semV (rho e) op with
      | some s => RunQ P s w fun v => K (putEnv e o.dst (.v v)) (Stays P s v)
      | none => False
  else False

def vcE (free : Md) (o : Oper) (e : Env) (w : World) (K : Env → World → Prop) : Prop :=
  bif known e (opsOf o.op) then
    match o.op with
    | .call c =>
      match c.callee with
      | .builtin b =>
        match semB b c.argTypes o.type (vals (rho e) c.args.toList).toArray with
        | some s => RunC P s w fun v w' => K (putEnv e o.dst (.v v)) w'
        | none => False
      | .value (.func f) =>
        bif free.1 then CalF P f (vals (rho e) c.args.toList) w fun v w' => K (putEnv e o.dst (.v v)) w'
        else Cal P f (vals (rho e) c.args.toList) w fun v w' => K (putEnv e o.dst (.v v)) w'
      | .value x => CalV P free.1 (rho e x) (vals (rho e) c.args.toList) w fun v w' => K (putEnv e o.dst (.v v)) w'
      | .invoke _ _ => False
    | .next x str => RunN P free (Instr.next (rho e x) str 0) w fun v w' => K (putEnv e o.dst (.v v)) w'
    | op =>
      match semV (rho e) op with
      | some s => RunC P s w fun v w' => K (putEnv e o.dst (.v v)) w'
      | none =>
        match semU (rho e) op with
        | some s => RunC P s w fun _ w' => K (putEnv e o.dst (.v undef)) w'
        | none => False
  else False

def vcExec (free : Md) (o : Oper) (e : Env) (w : World) (K : Env → World → Prop) : Prop :=
  bif quietB o then vcQ P o e w (fun e' _ => K e' w) else vcE P free o e w K

theorem Enters.of {f : FuncId} {fn : Func} {c : Code} (hf : P.funcs[f]? = some fn) (hb : fn.body = some c) (hn : (fn.name == "runtime.NumGoroutine") = false) : Enters P f := by
  intro args w
  have hn' : fn.name ≠ "runtime.NumGoroutine" := by simpa using hn
  unfold callFunc
  simp [Sem.run_bind, program, Sem.run, Result.andThen, hf, hn', hb, Sem.run_pure]

/-! ### one operation is sound -/
variable {P}
variable {N : Nat} {r : Option Nat} {o : Oper} {e : Env} {a : Act} {w : World}

theorem exec_rho (hH : Holds N e a) (hk : known e (opsOf o.op) = true) (hs : ∀ cs b, o.op ≠ .select cs b) (hg : ∀ c, o.op ≠ .go c := by simp_all) (hd : ∀ c, o.op ≠ .defer c := by simp_all) :
    execOp a.eval o = execOp (rho e) o :=
  execOp_congr o hs fun x hx => hH.eval (known_mem hk x (opsOf_mem hg hd hs x hx))

theorem wpIn_val {next : Act → World → Prop} {Q : Exit → Act → World → Prop} (hH : Holds N e a) (hk : known e (opsOf o.op) = true) (hs : ∀ cs b, o.op ≠ .select cs b)
    (hd : ∀ c, o.op ≠ .defer c) {v : Value} {w' : World} (hr : (execOp (rho e) o).run P w = .ok (.value v) w') (h : next (a.put o.dst v) w') (hg : ∀ c, o.op ≠ .go c := by simp_all) : o.wpIn (FW r) 0 P a w next Q := by
  refine ⟨fun _ _ => trivial, ?_⟩
  rw [Oper.semAt_eq _ _ _ hd, exec_rho hH hk hs hg hd, hr, Oper.uponIn_value]
  exact h

theorem wpIn_skip' {next : Act → World → Prop} {Q : Exit → Act → World → Prop} (hH : Holds N e a) (hk : known e (opsOf o.op) = true) (hs : ∀ cs b, o.op ≠ .select cs b)
    (hd : ∀ c, o.op ≠ .defer c) {w' : World} (hr : (execOp (rho e) o).run P w = .ok .skip w') (h : next (a.put o.dst undef) w') (hg : ∀ c, o.op ≠ .go c := by simp_all) : o.wpIn (FW r) 0 P a w next Q := by
  refine ⟨fun _ _ => trivial, ?_⟩
  rw [Oper.semAt_eq _ _ _ hd, exec_rho hH hk hs hg hd, hr, Oper.uponIn_skip]
  exact h

/-- what is known behind an operation -/
def After (N : Nat) (free : Md) (K : Env → World → Prop) (o : Oper) (a : Act) (w : World) (a' : Act) (w' : World) : Prop :=
  ∃ e' v, K e' w' ∧ Holds N e' a' ∧ a' = a.put o.dst v ∧ (free.1 = false → NsB free.2 w w')

theorem After.of {free : Md} {K : Env → World → Prop} {x : EV} {v : Value} {w' : World} (hK : K (putEnv e o.dst x) w') (hH : Holds N e a) (hd : dstOk N o.dst = true) (hx : x.val = v)
    (hn : free.1 = false → NsB free.2 w w') : After N free K o a w (a.put o.dst v) w' := ⟨_, v, hK, hH.put hd hx, rfl, hn⟩

theorem calls_upon {free : Md} {K : Env → World → Prop} {Q : Exit → Act → World → Prop} {f : FuncId} {args : Array Value} (hH : Holds N e a) (hd : dstOk N o.dst = true)
    (h : Calls P f args w fun en w' => ∃ v, en = .returned v ∧ (free.1 = false → NsB free.2 w w') ∧ K (putEnv e o.dst (.v v)) w') :
    o.uponIn (FW r) 0 P a (After N free K o a w) Q (.ok (.enter f args) w) := by
  rw [Oper.uponIn_enter]
  refine ⟨FW_depth _ _, CallsIn.mono (callsIn_FW h) ?_⟩
  rintro en w' ⟨v, rfl, hn, hK⟩
  exact After.of hK hH hd rfl hn

theorem opd_rho {x : Operand} {y : EV} (h : opd e x = some y) : rho e x = y.val := by simp [rho, h]

theorem opd_known {l : List Operand} {x : Operand} (hk : known e l = true) (hx : x ∈ l) : ∃ y, opd e x = some y := Option.isSome_iff_exists.1 (known_mem hk x hx)

theorem vcQ_sound {K : Env → (World → Prop) → Prop} (h : vcQ P o e w K) (hH : Holds N e a) (hd : dstOk N o.dst = true) :
    ∃ v, ∃ st : World → Prop, (∀ w', Ext w w' → (execOp a.eval o).run P w' = .ok (.value v) w') ∧ (∃ e', K e' st ∧ Holds N e' (a.put o.dst v)) ∧ (∀ c, o.op ≠ .defer c) ∧
      (∀ w', st w' → ∀ w'', Ext w' w'' → (execOp a.eval o).run P w'' = .ok (.value v) w'') := by
  unfold vcQ at h
  cases hk : known e (opsOf o.op) with
  | false => rw [hk] at h; exact h.elim
  | true =>
    rw [hk] at h
    simp only [cond_true] at h
    have put : ∀ {x : EV} {v : Value} {st : World → Prop}, K (putEnv e o.dst x) st → x.val = v → ∃ e', K e' st ∧ Holds N e' (a.put o.dst v) := fun h1 h2 => ⟨_, h1, hH.put hd h2⟩
    cases ho : o.op with
    | move x =>
      rw [ho] at h; simp only at h
      cases hx : opd e x with
      | none => rw [hx] at h; exact h.elim
      | some y =>
        rw [hx] at h
        have all : ∀ w' : World, (execOp a.eval o).run P w' = .ok (.value y.val) w' := fun w' => by
          rw [exec_rho hH hk (by simp [ho])]
          unfold execOp; simp only [ho, Sem.run_pure, opd_rho hx]
        exact ⟨y.val, _, fun w' _ => all w', put h rfl, by simp, fun _ _ w'' _ => all w''⟩
    | assign x =>
      rw [ho] at h; simp only at h
      cases hx : opd e x with
      | none => rw [hx] at h; exact h.elim
      | some y =>
        rw [hx] at h
        have all : ∀ w' : World, (execOp a.eval o).run P w' = .ok (.value y.val) w' := fun w' => by
          rw [exec_rho hH hk (by simp [ho])]
          unfold execOp; simp only [ho, Sem.run_pure, opd_rho hx]
        exact ⟨y.val, _, fun w' _ => all w', put h rfl, by simp, fun _ _ w'' _ => all w''⟩
    | pick c x y =>
      rw [ho] at h; simp only at h
      have hk' := hk
      rw [ho] at hk'
      obtain ⟨vx, hx⟩ := opd_known hk' (x := x) (by simp [opsOf])
      obtain ⟨vy, hy⟩ := opd_known hk' (x := y) (by simp [opsOf])
      have run : ∀ (t : Bool) (w' : World), rho e c = .bool t → (execOp a.eval o).run P w' = .ok (.value (if t = true then rho e x else rho e y)) w' := by
        intro t w' ht
        rw [exec_rho hH hk (by simp [ho])]
        unfold execOp; simp [ho, ht, asBool, Sem.run_pure]
      cases hc : opd e c with
      | none => rw [hc] at h; exact h.elim
      | some ec =>
        rw [hc] at h
        cases ec with
        | b t =>
          cases t with
          | true =>
            simp only [hx] at h
            exact ⟨_, _, fun w' _ => run true w' (opd_rho hc), put h (by simp [opd_rho hx]), by simp, fun _ _ w' _ => run true w' (opd_rho hc)⟩
          | false =>
            simp only [hy] at h
            exact ⟨_, _, fun w' _ => run false w' (opd_rho hc), put h (by simp [opd_rho hy]), by simp, fun _ _ w' _ => run false w' (opd_rho hc)⟩
        | v z =>
          obtain ⟨t, hz, ht, hf⟩ := h
          have hr := fun w' => run t w' (by rw [opd_rho hc]; exact hz)
          cases t with
          | true => exact ⟨_, _, fun w' _ => hr w', put (ht rfl) rfl, by simp, fun _ _ w' _ => hr w'⟩
          | false => exact ⟨_, _, fun w' _ => hr w', put (hf rfl) rfl, by simp, fun _ _ w' _ => hr w'⟩
        | u => exact h.elim
    | call c =>
      rw [ho] at h; simp only at h
      cases hc : c.callee with
      | builtin b =>
        rw [hc] at h; simp only at h
        rw [vals_arr] at h
        cases hs : semB b c.argTypes o.type (c.args.map (rho e)) with
        | none => rw [hs] at h; exact h.elim
        | some s =>
          rw [hs] at h
          obtain ⟨v, hr, hK⟩ := h
          have all : ∀ w' : World, s.run P w' = .ok v w' → (execOp a.eval o).run P w' = .ok (.value v) w' := fun w' hr => by
            rw [exec_rho hH hk (by simp [ho])]
            unfold execOp
            cases b <;> simp only [semB] at hs <;> first | (cases hs; done) | (cases hs; simp [ho, hc, resolve, invoke, builtin, hr, Result.andThen])
          exact ⟨v, _, fun w' hw => all w' (hr w' hw), put hK rfl, by simp, fun w' h1 w'' h2 => all w'' (h1 w'' h2)⟩
      | value x => rw [hc] at h; exact h.elim
      | invoke x m => rw [hc] at h; exact h.elim
    | _ =>
      rw [ho] at h
      first
        | (simp only [semV] at h; done)
        | (obtain ⟨v, hr, hK⟩ := h
           refine ⟨v, _, fun w' hw => ?_, put hK rfl, by simp, fun w' h1 w'' h2 => ?_⟩
           · rw [exec_rho hH hk (by simp [ho])]
             exact semV_exec P (by rw [ho]; rfl) (hr w' hw)
           · rw [exec_rho hH hk (by simp [ho])]
             exact semV_exec P (by rw [ho]; rfl) (h1 w'' h2))

theorem vcE_sound {free : Md} {K : Env → World → Prop} {Q : Exit → Act → World → Prop} (h : vcE P free o e w K) (hH : Holds N e a) (hd : dstOk N o.dst = true) :
    o.wpIn (FW r) 0 P a w (After N free K o a w) Q := by
  unfold vcE at h
  cases hk : known e (opsOf o.op) with
  | false => rw [hk] at h; exact h.elim
  | true =>
    rw [hk] at h
    simp only [cond_true] at h
    cases ho : o.op with
    | call c =>
      rw [ho] at h; simp only at h
      cases hc : c.callee with
      | builtin b =>
        rw [hc] at h; simp only at h
        rw [vals_arr] at h
        cases hs : semB b c.argTypes o.type (c.args.map (rho e)) with
        | none => rw [hs] at h; exact h.elim
        | some s =>
          rw [hs] at h
          obtain ⟨v, w', hr, hn, hK⟩ := h
          refine wpIn_val hH hk (by simp [ho]) (by simp [ho]) (v := v) (w' := w') ?_ (After.of hK hH hd rfl fun _ => hn.b)
          unfold execOp
          cases b <;> simp only [semB] at hs <;> first | (cases hs; done) | (cases hs; simp [ho, hc, resolve, invoke, builtin, hr, Result.andThen])
      | value x =>
        rw [hc] at h
        have step : ∀ (d : Deferred) (y : Value), rho e x = y → Deferred.ofValue y (c.args.map (rho e)) = pure d →
            (invoke d.target d.args).run P w = (execOp (rho e) o).run P w := by
          intro d y hy hof
          unfold execOp
          simp only [ho, hc, resolve, hy, hof, Sem.run_bind, Sem.run_pure, Result.andThen]
        have invs : ∀ (g : FuncId) (first cap : Array Value), rho e x = .func (.func g) first cap →
            (execOp (rho e) o).run P w = (callFunc g (first.toList ++ vals (rho e) c.args.toList ++ cap.toList).toArray).run P w := by
          intro g first cap hy
          rw [← step { target := .fn (.func g) cap, args := first ++ c.args.map (rho e) } _ hy rfl]
          simp only [invoke]
          have e1 : first ++ c.args.map (rho e) ++ cap = (first.toList ++ vals (rho e) c.args.toList ++ cap.toList).toArray := by apply Array.toList_inj.1; simp [vals_eq]
          rw [e1]
        have enter : ∀ (g : FuncId) (first cap : Array Value), rho e x = .func (.func g) first cap → Enters P g →
            (execOp (rho e) o).run P w = .ok (.enter g (first.toList ++ vals (rho e) c.args.toList ++ cap.toList).toArray) w := by
          intro g first cap hy hen
          rw [invs g first cap hy, hen]
        have go : ∀ (g : FuncId) (first cap : Array Value), rho e x = .func (.func g) first cap →
            (bif free.1 then CalF P g (first.toList ++ vals (rho e) c.args.toList ++ cap.toList) w fun v w' => K (putEnv e o.dst (.v v)) w'
              else Cal P g (first.toList ++ vals (rho e) c.args.toList ++ cap.toList) w fun v w' => K (putEnv e o.dst (.v v)) w') →
            o.wpIn (FW r) 0 P a w (After N free K o a w) Q := by
          intro g first cap hy h
          obtain ⟨fr, fb⟩ := free
          cases fr with
          | true =>
            rcases h with ⟨hen, hcall⟩ | ⟨v, w', hr, hK⟩
            · refine ⟨fun _ _ => trivial, ?_⟩
              rw [Oper.semAt_eq _ _ _ (by simp [ho]), exec_rho hH hk (by simp [ho])]
              rw [enter g first cap hy hen]
              exact calls_upon hH hd (hcall.mono fun en w' ⟨v, h1, h2⟩ => ⟨v, h1, (fun h => by cases h), h2⟩)
            · rw [← invs g first cap hy] at hr
              exact wpIn_val hH hk (by simp [ho]) (by simp [ho]) hr (After.of hK hH hd rfl fun h => by cases h)
          | false =>
            rcases h with ⟨hen, hcall⟩ | ⟨v, w', hr, hn, hK⟩
            · refine ⟨fun _ _ => trivial, ?_⟩
              rw [Oper.semAt_eq _ _ _ (by simp [ho]), exec_rho hH hk (by simp [ho])]
              rw [enter g first cap hy hen]
              exact calls_upon hH hd (hcall.mono fun en w' ⟨v, h1, hn, h2⟩ => ⟨v, h1, fun _ => hn.b, h2⟩)
            · rw [← invs g first cap hy] at hr
              exact wpIn_val hH hk (by simp [ho]) (by simp [ho]) hr (After.of hK hH hd rfl fun _ => hn.b)
        have goV : CalV P free.1 (rho e x) (vals (rho e) c.args.toList) w (fun v w' => K (putEnv e o.dst (.v v)) w') →
            o.wpIn (FW r) 0 P a w (After N free K o a w) Q := by
          intro h
          unfold CalV at h
          split at h
          · rename_i g first cap hy
            exact go g first cap hy h
          · rename_i l first cap hy
            obtain ⟨hfr, fn, tmps, as, body, hy', hround⟩ := h
            refine ⟨fun _ _ => trivial, ?_⟩
            rw [Oper.semAt_eq _ _ _ (by simp [ho]), exec_rho hH hk (by simp [ho])]
            have : (execOp (rho e) o).run P w = .ok (.round l fn tmps as body) w := by
              rw [← step { target := .fn (.yield l) cap, args := first ++ c.args.map (rho e) } _ hy rfl, ← hy']
              have e1 : (first.toList ++ vals (rho e) c.args.toList).toArray = first ++ c.args.map (rho e) := by apply Array.toList_inj.1; simp [vals_eq]
              rw [e1]; rfl
            rw [this, Oper.uponIn_round]
            refine ⟨FW_depth _ _, ?_⟩
            have hround' : RoundIn (FW r) (0 - 1) P l fn tmps as body w fun en w' => ∃ v, en = .returned v ∧ K (putEnv e o.dst (.v v)) w' := hround
            refine RoundIn.mono hround' ?_
            rintro en w' ⟨v, rfl, hK⟩
            exact After.of hK hH hd rfl fun h => by rw [hfr] at h; cases h
          · exact h.elim
        cases x with
        | func f => exact go f #[] #[] rfl (by simpa using h)
        | tmp t => exact goV h
        | const v => exact goV h
        | global g => exact goV h
      | invoke x m => rw [hc] at h; exact h.elim
    | next x str =>
      rw [ho] at h
      obtain ⟨v, w', hr, hn, hK⟩ := h
      refine wpIn_val hH hk (by simp [ho]) (by simp [ho]) (v := v) (w' := w') ?_ (After.of hK hH hd rfl hn)
      rw [next_ty _ _ o.type] at hr
      unfold execOp
      simp only [ho, Sem.run_bind, hr, Result.andThen, Sem.run_pure]
    | _ =>
      rw [ho] at h
      first
        | (simp only [semV, semU] at h; done)
        | (obtain ⟨v, w', hr, hn, hK⟩ := h
           exact wpIn_val hH hk (by simp [ho]) (by simp [ho]) (semV_exec P (by rw [ho]; rfl) hr) (After.of hK hH hd rfl fun _ => hn.b))
        | (obtain ⟨v, w', hr, hn, hK⟩ := h
           exact wpIn_skip' hH hk (by simp [ho]) (by simp [ho]) (semU_exec P (by rw [ho]; rfl) hr) (After.of hK hH hd rfl fun _ => hn.b))


theorem vcExec_sound {free : Md} {K : Env → World → Prop} {Q : Exit → Act → World → Prop} (h : vcExec P free o e w K) (hH : Holds N e a) (hd : dstOk N o.dst = true) :
    o.wpIn (FW r) 0 P a w (After N free K o a w) Q := by
  unfold vcExec at h
  cases hq : quietB o with
  | false => rw [hq] at h; exact vcE_sound h hH hd
  | true =>
    rw [hq] at h
    have h : vcQ P o e w (fun e' _ => K e' w) := h
    obtain ⟨v, st, hr, ⟨e', hK, hH'⟩, hdef, _⟩ := vcQ_sound h hH hd
    refine ⟨fun _ _ => trivial, ?_⟩
    rw [Oper.semAt_eq _ _ _ hdef, hr w (Ext.refl _), Oper.uponIn_value]
    exact ⟨e', v, hK, hH', rfl, fun _ => NsB.refl _ _⟩

end
end Go.Vc
