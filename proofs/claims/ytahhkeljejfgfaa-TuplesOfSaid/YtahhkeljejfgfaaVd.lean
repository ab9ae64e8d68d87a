/- Shallow verification conditions, part d: code. -/
import Derived.Test.YtahhkeljejfgfaaVc
namespace Go.Vc
open Go Go.RowKit

/-! ### what a piece of code writes, reads, and by how many ways it ends -/
def memN (t : Nat) : List Nat → Bool
  | [] => false
  | s :: r => bif Nat.beq s t then true else memN t r

theorem memN_iff {t : Nat} : ∀ {l : List Nat}, memN t l = true ↔ t ∈ l
  | [] => by simp [memN]
  | s :: r => by
    simp only [memN]
    cases h : Nat.beq s t with
    | true => simp [Nat.eq_of_beq_eq_true h]
    | false =>
      have := Nat.ne_of_beq_eq_false h
      simp [memN_iff (l := r), Ne.symm this]

def opDsts : List Oper → List Nat
  | [] => []
  | o :: l => match o.dst with
    | some d => d :: opDsts l
    | none => opDsts l

def tmpsOf : List Operand → List Nat
  | [] => []
  | .tmp t :: l => t :: tmpsOf l
  | _ :: l => tmpsOf l

def guardReads (ops : Array Oper) (o : Oper) : List Nat :=
  match o.guard with
  | some (j, _) => match (ops[j]?).bind (·.dst) with
    | some s => [s]
    | none => []
  | none => []

def minusN (D : List Nat) : List Nat → List Nat
  | [] => []
  | t :: r => bif memN t D then minusN D r else t :: minusN D r
def interN (D : List Nat) : List Nat → List Nat
  | [] => []
  | t :: r => bif memN t D then t :: interN D r else interN D r

/-- what is read ahead of being written -/
def opReads (ops : Array Oper) : List Oper → List Nat → List Nat
  | [], _ => []
  | o :: l, D => minusN D (tmpsOf (opsOf o.op) ++ guardReads ops o) ++ opReads ops l (match o.dst with
    | some d => d :: D
    | none => D)

def dsts : Code → List Nat
  | .region _ ops _ => opDsts ops.toList
  | .seq a b => dsts a ++ dsts b
  | .cond _ a b => dsts a ++ dsts b
  | .block _ c => dsts c
  | .loop c => dsts c
  | .scope c => dsts c
  | _ => []

def exitsTo (id : Nat) : Code → Nat
  | .seq a b => exitsTo id a + exitsTo id b
  | .cond _ a b => exitsTo id a + exitsTo id b
  | .block _ c => exitsTo id c
  | .loop c => exitsTo id c
  | .scope c => exitsTo id c
  | .exit i => bif Nat.beq i id then 1 else 0
  | .rangeFunc _ _ _ b => exitsTo id b
  | _ => 0

/-- two operations that do more than look may come in either order -/
def manyOrders (ops : Array Oper) : Bool :=
  let bs := Region.before ops
  let eff := fun (i : Nat) => match ops[i]? with | some o => !(quietB o) | none => false
  (List.range ops.size).any fun j => eff j && ((List.range j).any fun i => eff i && (!((bs.getD j 0).testBit i) && !((bs.getD i 0).testBit j)))

def normals : Code → Nat
  | .region _ ops draw => bif (draw && manyOrders ops) || ops.any (·.guard.isSome) then 2 else 1
  | .seq a b => bif Nat.beq (normals a) 0 then 0 else normals b
  | .cond _ a b => normals a + normals b
  | .block id c => normals c + exitsTo id c
  | .loop _ => 0
  | .scope c => normals c
  | .exit _ => 0
  | .goto _ => 0
  | .ret => 0
  | .refuse _ => 0
  | _ => 1

/-- what is written for sure -/
def must : Code → List Nat
  | .region _ ops _ => opDsts ops.toList
  | .seq a b => must a ++ must b
  | .cond _ a b => bif Nat.beq (normals a) 0 then must b else bif Nat.beq (normals b) 0 then must a else interN (must a) (must b)
  | .block id c => bif Nat.beq (exitsTo id c) 0 then must c else []
  | .scope c => must c
  | _ => []

/-- what is read ahead of being written -/
def reads : Code → List Nat
  | .region _ ops _ => opReads ops ops.toList []
  | .seq a b => reads a ++ minusN (must a) (reads b)
  | .cond c a b => tmpsOf [c] ++ (reads a ++ reads b)
  | .block _ c => reads c
  | .loop c => reads c
  | .scope c => reads c
  | .rangeFunc f _ a b => tmpsOf [f] ++ (reads a ++ reads b)
  | _ => []

def hasRange : Code → Bool
  | .seq a b => hasRange a || hasRange b
  | .cond _ a b => hasRange a || hasRange b
  | .block _ c => hasRange c
  | .loop c => hasRange c
  | .scope c => hasRange c
  | .rangeFunc .. => true
  | _ => false

def wf (N : Nat) : Code → Bool
  | .region _ ops draw => dstsOk N ops.toList && (!draw || bitsOk ops (Region.before ops))
  | .seq a b => wf N a && wf N b
  | .cond _ a b => wf N a && wf N b
  | .block _ c => wf N c
  | .loop c => wf N c
  | .scope c => wf N c
  | .rangeFunc _ ps a b => (ps.toList.all fun t => Nat.blt t N) && (wf N a && wf N b)
  | _ => true

/-! ### functions of n values, one by one -/
def Cur : Nat → Type → Type
  | 0, β => β
  | n + 1, β => Value → Cur n β

def app {β : Type} : (n : Nat) → Cur n β → List Value → β
  | 0, f, _ => f
  | n + 1, f, [] => app n (f undef) []
  | n + 1, f, v :: r => app n (f v) r

def lam {β : Type} : (n : Nat) → (List Value → β) → Cur n β
  | 0, f => f []
  | n + 1, f => fun v => lam n fun r => f (v :: r)

def allC : (n : Nat) → Cur n Prop → Prop
  | 0, p => p
  | n + 1, p => ∀ v, allC n (p v)

theorem app_lam {β : Type} : ∀ (n : Nat) (f : List Value → β) (vs : List Value), vs.length = n → app n (lam n f) vs = f vs
  | 0, f, [], _ => rfl
  | n + 1, f, v :: r, h => by
    simp only [app, lam]
    exact app_lam n _ r (by simpa using h)

theorem allC_app : ∀ (n : Nat) (p : Cur n Prop) (vs : List Value), allC n p → app n p vs
  | 0, _, _, h => h
  | n + 1, _, [], h => allC_app n _ [] (h undef)
  | n + 1, _, v :: r, h => allC_app n _ r (h v)

/-- n slots turn from round to round -/
def LoopC (n : Nat) (vs : List Value) (w : World) (B : List Value → World → (List Value → World → Prop) → Prop) : Prop :=
  ∃ (I : Cur n (World → Prop)) (μ : Cur n (World → Nat)), app n I vs w ∧
    allC n (lam n fun us => ∀ w', app n I us w' → B us w' fun us' w'' => app n I us' w'' ∧ app n μ us' w'' < app n μ us w')

def Loop0 (w : World) (B : World → (World → Prop) → Prop) : Prop :=
  ∃ (I : World → Prop) (μ : World → Nat), I w ∧ ∀ w', I w' → B w' fun w'' => I w'' ∧ μ w'' < μ w'
def Loop1 (a : Value) (w : World) (B : Value → World → (Value → World → Prop) → Prop) : Prop :=
  ∃ (I : Value → World → Prop) (μ : Value → World → Nat), I a w ∧ ∀ a w', I a w' → B a w' fun a' w'' => I a' w'' ∧ μ a' w'' < μ a w'
def Loop2 (a b : Value) (w : World) (B : Value → Value → World → (Value → Value → World → Prop) → Prop) : Prop :=
  ∃ (I : Value → Value → World → Prop) (μ : Value → Value → World → Nat), I a b w ∧ ∀ a b w', I a b w' → B a b w' fun a' b' w'' => I a' b' w'' ∧ μ a' b' w'' < μ a b w'
def Loop3 (a b c : Value) (w : World) (B : Value → Value → Value → World → (Value → Value → Value → World → Prop) → Prop) : Prop :=
  ∃ (I : Value → Value → Value → World → Prop) (μ : Value → Value → Value → World → Nat), I a b c w ∧
    ∀ a b c w', I a b c w' → B a b c w' fun a' b' c' w'' => I a' b' c' w'' ∧ μ a' b' c' w'' < μ a b c w'
def Loop4 (a b c d : Value) (w : World) (B : Value → Value → Value → Value → World → (Value → Value → Value → Value → World → Prop) → Prop) : Prop :=
  ∃ (I : Value → Value → Value → Value → World → Prop) (μ : Value → Value → Value → Value → World → Nat), I a b c d w ∧
    ∀ a b c d w', I a b c d w' → B a b c d w' fun a' b' c' d' w'' => I a' b' c' d' w'' ∧ μ a' b' c' d' w'' < μ a b c d w'

def Loop5 (a b c d e : Value) (w : World) (B : Value → Value → Value → Value → Value → World → (Value → Value → Value → Value → Value → World → Prop) → Prop) : Prop :=
  ∃ (I : Value → Value → Value → Value → Value → World → Prop) (μ : Value → Value → Value → Value → Value → World → Nat), I a b c d e w ∧ ∀ a b c d e w', I a b c d e w' → B a b c d e w' fun a' b' c' d' e' w'' => I a' b' c' d' e' w'' ∧ μ a' b' c' d' e' w'' < μ a b c d e w'
def Loop6 (a b c d e f : Value) (w : World) (B : Value → Value → Value → Value → Value → Value → World → (Value → Value → Value → Value → Value → Value → World → Prop) → Prop) : Prop :=
  ∃ (I : Value → Value → Value → Value → Value → Value → World → Prop) (μ : Value → Value → Value → Value → Value → Value → World → Nat), I a b c d e f w ∧ ∀ a b c d e f w', I a b c d e f w' → B a b c d e f w' fun a' b' c' d' e' f' w'' => I a' b' c' d' e' f' w'' ∧ μ a' b' c' d' e' f' w'' < μ a b c d e f w'
def Loop7 (a b c d e f g : Value) (w : World) (B : Value → Value → Value → Value → Value → Value → Value → World → (Value → Value → Value → Value → Value → Value → Value → World → Prop) → Prop) : Prop :=
  ∃ (I : Value → Value → Value → Value → Value → Value → Value → World → Prop) (μ : Value → Value → Value → Value → Value → Value → Value → World → Nat), I a b c d e f g w ∧ ∀ a b c d e f g w', I a b c d e f g w' → B a b c d e f g w' fun a' b' c' d' e' f' g' w'' => I a' b' c' d' e' f' g' w'' ∧ μ a' b' c' d' e' f' g' w'' < μ a b c d e f g w'
def Loop8 (a b c d e f g h : Value) (w : World) (B : Value → Value → Value → Value → Value → Value → Value → Value → World → (Value → Value → Value → Value → Value → Value → Value → Value → World → Prop) → Prop) : Prop :=
  ∃ (I : Value → Value → Value → Value → Value → Value → Value → Value → World → Prop) (μ : Value → Value → Value → Value → Value → Value → Value → Value → World → Nat), I a b c d e f g h w ∧ ∀ a b c d e f g h w', I a b c d e f g h w' → B a b c d e f g h w' fun a' b' c' d' e' f' g' h' w'' => I a' b' c' d' e' f' g' h' w'' ∧ μ a' b' c' d' e' f' g' h' w'' < μ a b c d e f g h w'
def Loop9 (a b c d e f g h i : Value) (w : World) (B : Value → Value → Value → Value → Value → Value → Value → Value → Value → World → (Value → Value → Value → Value → Value → Value → Value → Value → Value → World → Prop) → Prop) : Prop :=
  ∃ (I : Value → Value → Value → Value → Value → Value → Value → Value → Value → World → Prop) (μ : Value → Value → Value → Value → Value → Value → Value → Value → Value → World → Nat), I a b c d e f g h i w ∧ ∀ a b c d e f g h i w', I a b c d e f g h i w' → B a b c d e f g h i w' fun a' b' c' d' e' f' g' h' i' w'' => I a' b' c' d' e' f' g' h' i' w'' ∧ μ a' b' c' d' e' f' g' h' i' w'' < μ a b c d e f g h i w'
def Loop10 (a b c d e f g h i j : Value) (w : World) (B : Value → Value → Value → Value → Value → Value → Value → Value → Value → Value → World → (Value → Value → Value → Value → Value → Value → Value → Value → Value → Value → World → Prop) → Prop) : Prop :=
  ∃ (I : Value → Value → Value → Value → Value → Value → Value → Value → Value → Value → World → Prop) (μ : Value → Value → Value → Value → Value → Value → Value → Value → Value → Value → World → Nat), I a b c d e f g h i j w ∧ ∀ a b c d e f g h i j w', I a b c d e f g h i j w' → B a b c d e f g h i j w' fun a' b' c' d' e' f' g' h' i' j' w'' => I a' b' c' d' e' f' g' h' i' j' w'' ∧ μ a' b' c' d' e' f' g' h' i' j' w'' < μ a b c d e f g h i j w'

/-- ways meet again: J is what follows -/
def JoinC {α : Type} (J : α) (B : α → Prop) : Prop := B J

/-- the world anew: it holds just what it held -/
def Again (w : World) (K : World → Prop) : Prop := ∀ w', Ext w w' → Ext w' w → K w'
/-- a round of a range over a function is laid -/
def Over (w : World) (K : World → Prop) : Prop := ∀ w', Ext w w' → Ext w' w → Its w w' → K w'
/-- behind a draw: the same, and the bookkeeping too -/
def Drew (w : World) (K : World → Prop) : Prop := ∀ w', Ext w w' → Ext w' w → Ns w w' → K w'

def valsOf (e : Env) : List Nat → Option (List Value)
  | [] => some []
  | t :: r => match look e t with
    | some x => match valsOf e r with
      | some vs => some (x.val :: vs)
      | none => none
    | none => none

def bindSlots : List Nat → List Value → Env → Env
  | t :: r, v :: vs, e => (t, .v v) :: bindSlots r vs e
  | _, _, e => e

def without (D : List Nat) : Env → Env
  | [] => []
  | (t, x) :: r => bif memN t D then without D r else (t, x) :: without D r

def joinSlots (N : Nat) (D R : List Nat) : List Nat := (List.range N).filter fun t => memN t D && memN t R
def loopSlots (N : Nat) (D R : List Nat) (e : Env) : List Nat := (List.range N).filter fun t => memN t D && ((look e t).isSome && memN t R)

def hasRet : Code → Bool
  | .seq a b => hasRet a || hasRet b
  | .cond _ a b => hasRet a || hasRet b
  | .block _ c => hasRet c
  | .loop c => hasRet c
  | .scope c => hasRet c
  | .rangeFunc _ _ a b => hasRet a || hasRet b
  | .ret => true
  | _ => false

def addN (i : Nat) (l : List Nat) : List Nat := bif memN i l then l else i :: l
def joinN : List Nat → List Nat → List Nat
  | [], l => l
  | i :: r, l => addN i (joinN r l)
def dropN (i : Nat) : List Nat → List Nat
  | [] => []
  | j :: r => bif Nat.beq i j then dropN i r else j :: dropN i r

/-- the blocks that a piece of code jumps out of, beyond its own -/
def outIds : Code → List Nat
  | .seq a b => joinN (outIds a) (outIds b)
  | .cond _ a b => joinN (outIds a) (outIds b)
  | .block id c => dropN id (outIds c)
  | .loop c => outIds c
  | .scope c => outIds c
  | .rangeFunc _ _ a b => joinN (outIds a) (outIds b)
  | .exit i => [i]
  | _ => []

def lookK : List (Nat × (World → Prop)) → Nat → World → Prop
  | [], _, _ => False
  | (j, k) :: r, i, w => (i = j ∧ k w) ∨ lookK r i w
def exitKs (K : Nat → World → Prop) : List Nat → List (Nat × (World → Prop))
  | [] => []
  | i :: r => (i, fun w => K i w) :: exitKs K r
theorem lookK_exitKs {K : Nat → World → Prop} : ∀ {l : List Nat} {i : Nat} {w : World}, lookK (exitKs K l) i w → K i w
  | [], _, _, h => h.elim
  | j :: r, i, w, h => by
    rcases h with ⟨rfl, h⟩ | h
    · exact h
    · exact lookK_exitKs h

section
variable (P : Program)

/-- a function value that yields: it goes from state to state; Y says what it yields, Φ what it leans on, Done where it may end; G: no range over a map may go on in a round -/
def IterS {ι : Type} (G : Bool) (g : FuncId) (cap : List Value) (i0 : ι) (Done : ι → Prop) (Y : ι → List Value → ι → World → Prop) (Φ : World → Prop) : Prop :=
  Enters P g ∧ ∀ (l : Nat) (J Jx : ι → World → Prop) (w : World),
    (∀ k w1 w2, Ext w1 w2 → NsB w.heap.size w1 w2 → J k w1 → J k w2) → (∀ k w1 w2, Ext w1 w2 → NsB w.heap.size w1 w2 → Jx k w1 → Jx k w2) →
    (∀ k k' vs w', Φ w' → Y k vs k' w' → J k w' → Yield P l vs w' fun v w'' => (v = .bool true ∧ Φ w'' ∧ J k' w'' ∧ (G = true → Its w' w'')) ∨ (v = .bool false ∧ Jx k w'')) →
    Φ w → J i0 w → CalF P g (.func (.yield l) #[] #[] :: cap) w fun _ w' => (∃ k, Done k ∧ J k w') ∨ ∃ k, Jx k w'

/-- a function value that yields n times: Y says what, Φ what it leans on -/
def IterG (G : Bool) (g : FuncId) (cap : List Value) (n : Nat) (Y : Nat → List Value → World → Prop) (Φ : World → Prop) : Prop :=
  Enters P g ∧ ∀ (l : Nat) (J Jx : Nat → World → Prop) (w : World),
    (∀ k w1 w2, Ext w1 w2 → NsB w.heap.size w1 w2 → J k w1 → J k w2) → (∀ k w1 w2, Ext w1 w2 → NsB w.heap.size w1 w2 → Jx k w1 → Jx k w2) →
    (∀ k vs w', k < n → Φ w' → Y k vs w' → J k w' → Yield P l vs w' fun v w'' => (v = .bool true ∧ Φ w'' ∧ J (k + 1) w'' ∧ (G = true → Its w' w'')) ∨ (v = .bool false ∧ Jx k w'')) →
    Φ w → J 0 w → CalF P g (.func (.yield l) #[] #[] :: cap) w fun _ w' => J n w' ∨ ∃ k, k < n ∧ Jx k w'

/-- the same, of which no range over a map leans on -/
abbrev IterOk (g : FuncId) (cap : List Value) (n : Nat) (Y : Nat → List Value → World → Prop) (Φ : World → Prop) : Prop := IterG P false g cap n Y Φ

/-- a range over a function: B is a round -/
def RangeC (fv : Value) (np : Nat) (w : World) (B : List Value → World → (Exit → World → Prop) → Prop) (Kn Kr : World → Prop) (Ks : List (Nat × (World → Prop))) : Prop :=
  ∃ (ι : Type) (G : Bool) (g : FuncId) (cap : Array Value) (i0 : ι) (Done : ι → Prop) (Y : ι → List Value → ι → World → Prop) (Φ : World → Prop) (I : ι → World → Prop) (Ix : ι → Exit → World → Prop),
    fv = .func (.func g) #[] cap ∧ IterS P G g cap.toList i0 Done Y Φ ∧ (∀ k vs k' w, Y k vs k' w → vs.length = np) ∧
    (∀ w w', Ext w w' → Φ w → Φ w') ∧ (∀ k w w', Ext w w' → I k w → I k w') ∧ (∀ k ex w w', Ext w w' → Ix k ex w → Ix k ex w') ∧
    Φ w ∧ I i0 w ∧
    allC np (lam np fun vs => ∀ k k' w', Φ w' → Y k vs k' w' → I k w' → B vs w' fun ex w'' => match ex with
      | .normal => Φ w'' ∧ I k' w'' ∧ (G = true → Its w' w'')
      | ex => Ix k ex w'') ∧
    (∀ k w', Done k → I k w' → Kn w') ∧ (∀ k w', Ix k .ret w' → Kr w') ∧ (∀ k i w', Ix k (.exit i) w' → lookK Ks i w')

def Range1 (fv : Value) (w : World) (B : Value → World → (Exit → World → Prop) → Prop) (Kn Kr : World → Prop) (Ks : List (Nat × (World → Prop))) : Prop :=
  ∃ (ι : Type) (G : Bool) (g : FuncId) (cap : Array Value) (i0 : ι) (Done : ι → Prop) (Y : ι → List Value → ι → World → Prop) (Φ : World → Prop) (I : ι → World → Prop) (Ix : ι → Exit → World → Prop),
    fv = .func (.func g) #[] cap ∧ IterS P G g cap.toList i0 Done Y Φ ∧ (∀ k vs k' w, Y k vs k' w → vs.length = 1) ∧
    (∀ w w', Ext w w' → Φ w → Φ w') ∧ (∀ k w w', Ext w w' → I k w → I k w') ∧ (∀ k ex w w', Ext w w' → Ix k ex w → Ix k ex w') ∧
    Φ w ∧ I i0 w ∧
    (∀ a, ∀ k k' w', Φ w' → Y k [a] k' w' → I k w' → B a w' fun ex w'' => match ex with
      | .normal => Φ w'' ∧ I k' w'' ∧ (G = true → Its w' w'')
      | ex => Ix k ex w'') ∧
    (∀ k w', Done k → I k w' → Kn w') ∧ (∀ k w', Ix k .ret w' → Kr w') ∧ (∀ k i w', Ix k (.exit i) w' → lookK Ks i w')

def Range2 (fv : Value) (w : World) (B : Value → Value → World → (Exit → World → Prop) → Prop) (Kn Kr : World → Prop) (Ks : List (Nat × (World → Prop))) : Prop :=
  ∃ (ι : Type) (G : Bool) (g : FuncId) (cap : Array Value) (i0 : ι) (Done : ι → Prop) (Y : ι → List Value → ι → World → Prop) (Φ : World → Prop) (I : ι → World → Prop) (Ix : ι → Exit → World → Prop),
    fv = .func (.func g) #[] cap ∧ IterS P G g cap.toList i0 Done Y Φ ∧ (∀ k vs k' w, Y k vs k' w → vs.length = 2) ∧
    (∀ w w', Ext w w' → Φ w → Φ w') ∧ (∀ k w w', Ext w w' → I k w → I k w') ∧ (∀ k ex w w', Ext w w' → Ix k ex w → Ix k ex w') ∧
    Φ w ∧ I i0 w ∧
    (∀ a b, ∀ k k' w', Φ w' → Y k [a, b] k' w' → I k w' → B a b w' fun ex w'' => match ex with
      | .normal => Φ w'' ∧ I k' w'' ∧ (G = true → Its w' w'')
      | ex => Ix k ex w'') ∧
    (∀ k w', Done k → I k w' → Kn w') ∧ (∀ k w', Ix k .ret w' → Kr w') ∧ (∀ k i w', Ix k (.exit i) w' → lookK Ks i w')

/-- n yields are n states -/
theorem IterG.s {P : Program} {G : Bool} {g : FuncId} {cap : List Value} {n : Nat} {Y : Nat → List Value → World → Prop} {Φ : World → Prop} (h : IterG P G g cap n Y Φ) :
    IterS P G g cap 0 (fun k => k = n) (fun k vs k' w => k < n ∧ k' = k + 1 ∧ Y k vs w) Φ := by
  refine ⟨h.1, fun l J Jx w hJ hJx hround hΦ h0 => ?_⟩
  have := h.2 l J (fun k w => Jx k w) w hJ hJx (fun k vs w' hk hΦ' hY hj => hround k (k + 1) vs w' hΦ' ⟨hk, rfl, hY⟩ hj) hΦ h0
  cases this with
  | code h1 h2 => exact .code h1 (h2.mono fun _ _ ⟨v, h3, h4⟩ => ⟨v, h3, h4.elim (fun h => .inl ⟨n, rfl, h⟩) (fun ⟨k, _, h⟩ => .inr ⟨k, h⟩)⟩)
  | ext v w' h1 h4 => exact .ext v w' h1 (h4.elim (fun h => .inl ⟨n, rfl, h⟩) (fun ⟨k, _, h⟩ => .inr ⟨k, h⟩))

def vc (N : Nat) (free : Md) : Code → List Nat → Env → World → (Exit → Env → World → Prop) → Prop
  | .skip, _, e, w, K => K .normal e w
  | .label _, _, e, w, K => K .normal e w
  | .ret, _, e, w, K => K .ret e w
  | .exit i, _, e, w, K => K (.exit i) e w
  | .region _ ops draw, _, e, w, K =>
    bif draw then Drew w fun w' => vcDraw P free ops e w' (K .normal)
    else vcOps P free ops ops.toList e w (K .normal)
  | .seq x y, rd, e, w, K =>
    bif Nat.ble 2 (normals x) then
      JoinC (lam (joinSlots N (dsts x) (reads y ++ rd)).length fun vs => fun w' => vc N free y rd (bindSlots (joinSlots N (dsts x) (reads y ++ rd)) vs (without (dsts x) e)) w' K)
        fun J => vc N free x (reads y ++ rd) e w fun ex e' w' => match ex with
          | .normal => match valsOf e' (joinSlots N (dsts x) (reads y ++ rd)) with
            | some vs => app (joinSlots N (dsts x) (reads y ++ rd)).length J vs w'
            | none => False
          | ex => K ex e' w'
    else vc N free x (reads y ++ rd) e w fun ex e' w' => match ex with
      | .normal => vc N free y rd e' w' K
      | ex => K ex e' w'
  | .cond c x y, rd, e, w, K =>
    match opd e c with
    | some (.b true) => vc N free x rd e w K
    | some (.b false) => vc N free y rd e w K
    | some (.v v) => Split v (vc N free x rd e w K) (vc N free y rd e w K)
    | some .u => False
    | none => False
  | .block id c, rd, e, w, K => vc N free c rd e w fun ex e' w' => match ex with
    | .exit i => bif Nat.beq i id then K .normal e' w' else K (.exit i) e' w'
    | ex => K ex e' w'
  | .loop c, rd, e, w, K =>
    match valsOf e (loopSlots N (dsts c) (reads c ++ rd) e) with
    | some vs =>
      LoopC (loopSlots N (dsts c) (reads c ++ rd) e).length vs w fun us w' k =>
        vc N free c (reads c ++ rd) (bindSlots (loopSlots N (dsts c) (reads c ++ rd) e) us (without (dsts c) e)) w' fun ex e' w'' => match ex with
          | .normal => match valsOf e' (loopSlots N (dsts c) (reads c ++ rd) e) with
            | some us' => k us' w''
            | none => False
          | ex => K ex e' w''
    | none => False
  | .scope c, rd, e, w, K => vc N free c rd e w K
  | .rangeFunc f ps as body, _, e, w, K =>
    bif free.1 then False else
    match opd e f with
    | some fv =>
      RangeC P fv.val ps.size w
        (fun vs w' k => vc N free as (reads body) (bindSlots ps.toList.reverse vs.reverse e) w' fun ex e' w'' => match ex with
          | .normal => Over w'' fun w3 => vc N free body [] e' w3 fun ex _ w4 => k ex w4
          | _ => False)
        (fun w' => K .normal e w') (bif hasRet body then fun w' => K .ret e w' else fun _ => False) (exitKs (fun i w' => K (.exit i) e w') (outIds body))
    | none => False
  | .goto _, _, _, _, _ => False
  | .refuse _, _, _, _, _ => False

end
end Go.Vc
