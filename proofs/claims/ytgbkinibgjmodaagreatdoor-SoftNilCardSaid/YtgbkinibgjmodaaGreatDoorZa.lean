/- own texts, made small by a tool (wip/ holds them as they were written): no statement of the seat. -/
import Derived.RangeFuncNested
import Derived.RangeFuncLeaves
import Derived.OrdersIn
import Derived.KernelRfl
import Derived.Deep.Upon
import Derived.RangeFuncBound
import Derived.Deep.MidRow
import Derived.Laws.Cover3
import Derived.Laws.Pointers
import Derived.Laws.StructEq
import Derived.Laws.Tables
import Derived.Below
import Derived.Laws.MakeOwn
import Derived.Lib.Overlaps
import Derived.Lib.AppendZerosOnto
import Derived.Lib.SliceRun
import Derived.OpenShut
import Derived.Lib.ConvBytes
import Derived.Laws.BytesArg
import Derived.Laws.Concat
import Derived.MapKept
import Derived.Carry
import Derived.WideKeyArr
import Derived.WideKeyMaps
import Derived.Laws.IdiomRangeMap
import Derived.Shelf.SlSortCmp.NoneTotal
import Derived.Shelf.SlSortCmp.WholeK
import Derived.Ground.SlsfProg
import Derived.WideKeyEntry
import Derived.WalkKit
import Derived.Test.YtgbkinibgjmodaaGreatDoorProg
import Derived.Test.YtgbkinibgjmodaaGreatDoorChecked
set_option linter.unusedVariables false
set_option linter.unusedSimpArgs false
set_option linter.unnecessarySimpa false
open Array renaming getElem?_eq_some_iff→o4,getElem?_toList→V9
open BitVec renaming ofInt→V0
open Bool renaming not_true→Z3,not_false→Y8,and_eq_true→X2,eq_iff_iff→X5,or_eq_false_iff→V7
open Decidable renaming not_not→Z7
open Go renaming Value→x1,World→x2,TypeId→u5,IntKind→r9,Builtin→n0,Program→Y3,Oper→W0,Operand→V5
open Go.Addr renaming add_mid→W5
open Go.Builtin renaming append_→l5,len_→Z8
open Go.Instr renaming loadAt→x7,fieldAt→x8,storeAt→o7,indexAt→j4,buildSlice→j9,extract→c9,sliceAt→Y9
open Go.IntKind renaming i64→X0,u64→X9
open Go.Proofs.Tryz renaming prog→x5
open Go.Result renaming andThen→Z6
open Go.Sem renaming run_bind→Z4,run_pure→Z9
open Go.Sort renaming Holds→V6
open Go.Value renaming int→Y5
open Int renaming toNat_natCast→c8
open List renaming getElem?_eq_getElem→y0,getElem?_eq_some_iff→x3,mem_of_getElem?→x4,getElem?_map→x6,replicate→v8,take_add_one→u4,getD_eq_getElem?_getD→u6,length_map→u7,length_append→r8,mem_singleton→p8,mem_append→p9,take_length→o3,length_take→o5,mem_map→o6,eq_nil_of_length_eq_zero→o8,map_append→o9,length_cons→l6,getElem?_eq_none→c6,getElem?_take_of_lt→c7,take_of_length_le→b6,getElem?_append_left→Z0,getElem?_append_right→Z2,getElem?_set→Y0,range→Y1,drop_eq_getElem_cons→Y2,ext_getElem?→Y4,mem_iff_getElem?→Y6,pairwise_iff_getElem→X3,length_set→X4,length→X7,append_assoc→X8,flatMap_cons→W7,length_eq_one_iff→W8,mem_or_eq_of_mem_set→V2,append_nil→V4,mem_cons→V8,getElem?_set_self→U1,length_singleton→U2
open Nat renaming le_refl→u9,zero_le→Z1,le_trans→Z5,mul_le_mul_right→Y7,sub_self→X6,add_mul→W3,beq→W6,mul_one→W9,zero_add→V3
open Option renaming some→n9,toList_some→l9,map_some→j6,isNone_some→c5,map_eq_some_iff→b8,map→X1
open Option.some renaming inj→j5,injEq→b9
open Prod.mk renaming injEq→V1
namespace Go.Vc
open Go Go.RowKit
def fJ:Obj→Bool
 | .loop _=>false
 | .deferred _=>false
 | .mapIter ..=>false
 |_=>true
def book:Obj→Bool
 | .loop _=>true
 | .deferred _=>true
 |_=>false
theorem y4 {o:Obj} (h:book o=true):fJ o=false:=by cases o <;> first|rfl|cases h
def pI:Obj→Bool
 | .mapIter ..=>true
 |_=>false
theorem y5 {o:Obj} (h:pI o=true):fJ o=false:=by cases o <;> first|rfl|cases h
structure Ext (w w':x2):Prop where
 size:w.heap.size≤w'.heap.size
 aW:∀ (r:Nat) (o:Obj),w.heap[r]? =some o→fJ o=true→w'.heap[r]? =some o
theorem Ext.refl (w:x2):Ext w w:=⟨u9 _,fun _ _ h _=>h⟩
theorem Ext.trans {a b c:x2} (h:Ext a b) (k:Ext b c):Ext a c:=
 ⟨Z5 h.size k.size,fun r o J E=>k.aW r o (h.aW r o J E) E⟩
def h7 (w w':x2):Prop:=w'.tape=w.tape∧w.drawn≤w'.drawn
theorem h7.h8 {w w':x2} (h:w'.tape=w.tape:=by rfl) (k:w'.drawn=w.drawn:=by rfl):h7 w w':=⟨h,Nat.le_of_eq k.symm⟩
theorem h7.trans {a b c:x2} (k:h7 b c) (h:h7 a b):h7 a c:=⟨k.1.trans h.1,Z5 h.2 k.2⟩
structure cA (w w':x2):Prop where
 os:w'.os=w.os
 tape:h7 w w'
 output:w'.output=w.output
 size:w.heap.size≤w'.heap.size
 aW:∀ (r:Nat) (o:Obj),w.heap[r]? =some o→fJ o=false→w'.heap[r]? =some o
structure b2 (n:Nat) (w w':x2):Prop where
 os:w'.os=w.os
 tape:h7 w w'
 output:w'.output=w.output
 size:w.heap.size≤w'.heap.size
 aW:∀ (r:Nat) (o:Obj),w.heap[r]? =some o→book o=true→w'.heap[r]? =some o
 old:∀ (r:Nat) (o:Obj),r<n→w.heap[r]? =some o→fJ o=false→w'.heap[r]? =some o
theorem cA.b {w w':x2} {n:Nat} (h:cA w w'):b2 n w w':=⟨h.os,h.tape,h.output,h.size,fun r o E J=>h.aW r o E (y4 J),fun r o _ E J=>h.aW r o E J⟩
theorem b2.refl (n:Nat) (w:x2):b2 n w w:=⟨rfl,.h8,rfl,u9 _,fun _ _ h _=>h,fun _ _ _ h _=>h⟩
theorem b2.trans {n:Nat} {a b c:x2} (h:b2 n a b) (k:b2 n b c):b2 n a c:=
 ⟨k.os.trans h.os,k.tape.trans h.tape,k.output.trans h.output,Z5 h.size k.size,fun r o J E=>k.aW r o (h.aW r o J E) E,fun r o O J E=>k.old r o O (h.old r o O J E) E⟩
theorem b2.step {n m:Nat} {a b c:x2} (h:b2 n a b) (k:b2 m b c) (hm:a.heap.size≤m):b2 n a c:=
 ⟨k.os.trans h.os,k.tape.trans h.tape,k.output.trans h.output,Z5 h.size k.size,fun r o J E=>k.aW r o (h.aW r o J E) E,
  fun r o O J E=>k.old r o (Nat.lt_of_lt_of_le (o4.1 J).1 hm) (h.old r o O J E) E⟩
theorem b2.cR {n:Nat} {w w':x2} (h:b2 n w w') (J:w.heap.size≤n):cA w w':=
 ⟨h.os,h.tape,h.output,h.size,fun r o E O=>h.old r o (Nat.lt_of_lt_of_le (o4.1 E).1 J) E O⟩
def ej (w w':x2):Prop:=∀ (r:Nat) (o:Obj),w.heap[r]? =some o→pI o=true→w'.heap[r]? =some o
theorem ej.refl (w:x2):ej w w:=fun _ _ h _=>h
theorem ej.trans {a b c:x2} (h:ej a b) (k:ej b c):ej a c:=fun r o J E=>k r o (h r o J E) E
theorem cA.j0 {w w':x2} (h:cA w w'):ej w w':=fun r o E J=>h.aW r o E (y5 J)
abbrev dY:=Bool×Nat
theorem cA.refl (w:x2):cA w w:=⟨rfl,.h8,rfl,u9 _,fun _ _ h _=>h⟩
theorem cA.trans {a b c:x2} (h:cA a b) (k:cA b c):cA a c:=
 ⟨k.os.trans h.os,k.tape.trans h.tape,k.output.trans h.output,Z5 h.size k.size,fun r o J E=>k.aW r o (h.aW r o J E) E⟩
theorem nt (w:x2) (n:Nat):Ext w {w with drawn:=n}:=⟨u9 _,fun _ _ h _=>h⟩
theorem l0 (w:x2) (n:Nat) (h:w.drawn≤n):cA w {w with drawn:=n}:=⟨rfl,⟨rfl,h⟩,rfl,u9 _,fun _ _ h _=>h⟩
theorem l1 (w:x2) (o:Obj):Ext w {w with heap:=w.heap.push o}:=
 ⟨by simp,fun r o' h _=>by
  have E:=(o4.1 h).1;simp only[Array.getElem?_push];rw[if_neg (by omega)];exact h⟩
theorem l2 (w:x2) (o:Obj):cA w {w with heap:=w.heap.push o}:=
 ⟨rfl,.h8,rfl,by simp,fun r o' h _=>by
  have E:=(o4.1 h).1;simp only[Array.getElem?_push];rw[if_neg (by omega)];exact h⟩
inductive dl where
 |v (x:x1)
 |b (c:Bool)
 |u
def dl.val:dl→x1
 | .v x=>x
 | .b c=>.bool c
 | .u=>undef
def dl.ofConst:x1→dl
 | .bool c=>.b c
 |x=>.v x
theorem dl.y6 (x:x1):(dl.ofConst x).val=x:=by cases x <;> rfl
abbrev Env:=List (Nat×dl)
def look:Env→Nat→Option dl
 |[],_=>none
 |(s,x)::r,t=>bif W6 s t then some x else look r t
def ds (e:Env):V5→Option dl
 | .tmp t=>look e t
 | .const x=>some (dl.ofConst x)
 | .global g=>some (.v (.pointer (some ⟨g,0,none⟩)))
 | .func f=>some (.v (.func (.func f) #[] #[]))
def cb (e:Env) (x:V5):x1:=
 match ds e x with
 |some y=>y.val
 |none=>undef
def known (e:Env):List V5→Bool
 |[]=>true
 |x::r=>(ds e x).isSome&&known e r
def V6 (N:Nat) (e:Env) (a:Act):Prop:=
 a.tmps.size=N∧ ∀ t x,look e t=some x→a.tmps.getD t undef=x.val
theorem V6.ds {N:Nat} {e:Env} {a:Act} (h:V6 N e a) {x:V5} {y:dl} (J:Vc.ds e x=some y):a.eval x=y.val:=by
 cases x with
 |tmp t=>exact h.2 t y J
 |const v=>simp[Vc.ds] at J;subst J;simp[Act.eval,dl.y6]
 |global g=>simp[Vc.ds] at J;subst J;rfl
 |func f=>simp[Vc.ds] at J;subst J;rfl
theorem V6.eval {N:Nat} {e:Env} {a:Act} (h:V6 N e a) {x:V5} (J:(Vc.ds e x).isSome=true):a.eval x=cb e x:=by
 obtain⟨y,E⟩:=Option.isSome_iff_exists.1 J;rw[h.ds E];simp[cb,E]
theorem pJ {e:Env}:∀ {l:List V5},known e l=true→ ∀ x∈l,(ds e x).isSome=true
 |[],_,_,J=>by cases J
 |y::r,h,x,J=>by
  simp only[known,X2] at h;cases J with
  |head=>exact h.1
  |tail _ J=>exact pJ h.2 x J
def c4 (e:Env) (d:Option Tmp) (x:dl):Env:=
 match d with
 |some t=>(t,x)::e
 |none=>e
def gY (N:Nat) (d:Option Tmp):Bool:=
 match d with
 |some t=>Nat.blt t N
 |none=>true
theorem V6.put {N:Nat} {e:Env} {a:Act} (h:V6 N e a) {d:Option Tmp} (U:gY N d=true) {x:dl} {v:x1} (ac:x.val=v):
  V6 N (c4 e d x) (a.put d v):=by
 cases d with
 |none=>exact h
 |some t=>
  have V:t<N:=by simpa[gY,Nat.blt_eq] using U
  refine⟨by simp[Act.put,h.1],fun s y E=>?_⟩;simp only[c4,look] at E;cases J:W6 t s with
  |true=>
   have O:t=s:=Nat.eq_of_beq_eq_true J;subst O;simp only[J,cond_true,b9] at E;subst E;simp[Act.put,h.1,V,ac]
  |false=>
   have O:t≠s:=Nat.ne_of_beq_eq_false J;simp only[J,cond_false] at E;have:=h.2 s y E;simp only[Act.put,Array.getD_eq_getD_getElem?] at this ⊢;rw[Array.getElem?_setIfInBounds_ne O];exact this
def di (r:Option Nat):Fence:={Fence.wide with round:=r}
theorem pK (r:Option Nat) (n:Nat):(di r).depth.isSome=true→1≤n:=fun h=>by simp[di,Fence.wide] at h
theorem sq {r:Option Nat} {n:Nat} {P:Y3} {f:FuncId} {args:Array x1} {w:x2} {R:Ending→x2→Prop}
  (h:Calls P f args w R):CallsIn (di r) n P f args w R:=by
 have:=(callsIn_wide (n:=n)).2 h;exact this
section
variable (P:Y3)
def aA {α:Type} (s:Sem α) (w:x2) (K:α→x2→Prop):Prop:=∃ v w',s.run P w= .ok v w'∧cA w w'∧K v w'
def nu {α:Type} (free:dY) (s:Sem α) (w:x2) (K:α→x2→Prop):Prop:=∃ v w',s.run P w= .ok v w'∧(free.1=false→b2 free.2 w w')∧K v w'
def Split (x:x1) (A B:Prop):Prop:=∃ c,x= .bool c∧(c=true→A)∧(c=false→B)
def aH:Bool→V5
 |true=>.const (.bool true)
 |false=>.tmp 0
def kX:V5→Bool
 | .const _=>true
 |_=>false
theorem y7 (op:BinOp) (t:u5) (x y:V5) (a b:x1):eqGuard op t x y a b=eqGuard op t (aH (kX x)) (aH (kX y)) a b:=by
 cases x <;> cases y <;> rfl
def aB (op:BinOp) (t:u5) (cx cy:Bool) (a b:x1):Sem x1:=do eqGuard op t (aH cx) (aH cy) a b;binOp op t a b
def nv (s:Sem Next):Sem x1:=do
 match ←s with
 | .value v=>pure v
 |_=>stuck "no value"
def bk (x:x1):Sem x1:=nv (execOp (fun _=>x) {dst:=none,op:=.nilCheck (.tmp 0),type:=0,pos:= "",after:=#[],guard:=none})
def bF (E:V5→x1):List V5→List x1
 |[]=>[]
 |x::r=>E x::bF E r
theorem nw (E:V5→x1):∀ l,bF E l=l.map E
 |[]=>rfl
 |x::r=>by simp[bF,nw E r]
theorem pL (E:V5→x1) (l:Array V5):(bF E l.toList).toArray=l.map E:=by
 apply Array.toList_inj.1;simp[nw]
def partsOf (E:V5→x1):List (Nat×V5)→List (Nat×x1)
 |[]=>[]
 |x::r=>(x.1,E x.2)::partsOf E r
theorem sr (E:V5→x1):∀ l,partsOf E l=l.map fun(i,x)=>(i,E x)
 |[]=>rfl
 |x::r=>by simp[partsOf,sr E r]
theorem y8 (E:V5→x1) (l:Array (Nat×V5)):(partsOf E l.toList).toArray=l.map fun(i,x)=>(i,E x):=by
 apply Array.toList_inj.1;simp[sr]
def opsOf:Op→List V5
 | .alloc _| .ready _| .waits _=>[]
 | .move x| .assign x| .box _ x| .load _ x| .nilCheck x| .unOp _ _ x| .convert _ _ x| .sliceToArrayPointer _ x| .makeInterface _ x
 | .makeChan _ x| .fieldAddr _ x _| .field _ x _| .range _ x| .next x _| .entry x| .typeAssert x _ _ _| .extract x _| .panic x| .recv _ x _=>[x]
 | .pick c a b=>[c,a,b]
 | .build _ E| .buildSlice _ _ E=>E.toList.map (·.2)
 | .store _ a v| .binOp _ _ a v _| .makeSlice _ a v| .indexAddr _ a v| .index _ a v| .lookup _ a v _| .mapEntry _ a v| .send a v=>[a,v]
 | .makeFunc _ first J=>first.toList++J.toList
 | .makeMap _ r=>match r with
  |some x=>[x]
  |none=>[]
 | .slice _ x l h m=>x::((match l with
  |some y=>[y]
  |none=>[])++((match h with
  |some y=>[y]
  |none=>[])++(match m with
  |some y=>[y]
  |none=>[])))
 | .mapUpdate _ m k v| .entryStore _ m k v| .insert _ m k v=>[m,k,v]
 | .call c=>match c.callee with
  | .value f=>f::c.args.toList
  | .invoke r _=>r::c.args.toList
  | .builtin _=>c.args.toList
 | .go _| .defer _| .select ..=>[]
theorem y9 {op:Op} (h1:∀ c,op≠ .go c) (E:∀ c,op≠ .defer c) (O:∀ cs b,op≠ .select cs b):∀ x∈op.operands,x∈opsOf op:=by
 intro x J;cases op <;> simp only[Op.operands,opsOf] at J ⊢ <;> try (first|(simp at J;done)|(simp at J ⊢;exact J))
 case go c=>exact absurd rfl (h1 c)
 case defer c=>exact absurd rfl (E c)
 case select cs b=>exact absurd rfl (O cs b)
 case makeMap t r=>cases r <;> simp at J ⊢ <;> exact J
 case slice t y l h m=>cases l <;> cases h <;> cases m <;> simpa[or_assoc] using J
 case call c=>cases U:c.callee <;> simpa[Call.operands,U] using J
def l3 (E:V5→x1):Op→Option (Sem x1)
 | .pick c a b=>some (do pure (if ←asBool (E c) then E a else E b))
 | .alloc U=>some (Instr.alloc U true (.tuple #[]))
 | .box U x=>some (Instr.box U (E x))
 | .build t parts=>some (Instr.build t (partsOf E parts.toList).toArray)
 | .buildSlice t len parts=>some (j9 t len (partsOf E parts.toList).toArray)
 | .load t a=>some (x7 t (E a))
 | .nilCheck x=>some (bk (E x))
 | .binOp op J x y _=>some (aB op J (kX x) (kX y) (E x) (E y))
 | .unOp op _ x=>some (Op.unary op (E x))
 | .convert src dst x=>some (convert src dst (E x))
 | .makeInterface J x=>some (Instr.makeInterface J (E x))
 | .makeFunc fn first V=>some (Instr.makeFunc fn (bF E first.toList).toArray (bF E V.toList).toArray)
 | .makeMap t r=>some (Instr.makeMap t (r.map E))
 | .makeSlice t l c=>some (Instr.makeSlice t (E l) (E c))
 | .slice t x lo hi mx=>some (Y9 t (E x) (lo.map E) (hi.map E) (mx.map E))
 | .fieldAddr s x f=>some (x8 s (E x) f)
 | .field J x f=>some (Instr.field J (E x) f)
 | .indexAddr t x O=>some (j4 t (E x) (E O))
 | .index J x O=>some (Instr.index J (E x) (E O))
 | .lookup J x O ok=>some (Instr.lookup J (E x) (E O) ok)
 | .mapEntry t m k=>some (Instr.mapEntry t (E m) (E k))
 | .range J x=>some (Instr.range J (E x))
 | .entry W=>some (Instr.entry (E W))
 | .typeAssert x J X ok=>some (Instr.typeAssert (E x) J X ok)
 | .extract t O=>some (c9 (E t) O)
 |_=>none
def pM (E:V5→x1):Op→Option (Sem Unit)
 | .store t a x=>some (o7 t (E a) (E x))
 | .mapUpdate t m k x=>some (Instr.mapUpdate t (E m) (E k) (E x))
 | .insert t m k x=>some (Instr.mapUpdate t (E m) (E k) (E x))
 | .entryStore t m s x=>some (Instr.entryStore t (E m) (E s) (E x))
 |_=>none
def kY (b:n0) (ats:Array u5) (E:u5) (args:Array x1):Option (Sem x1):=
 match b with
 | .append=>some (l5 ats E args)
 | .cap=>some (n0.cap_ ats E args)
 | .clear=>some (n0.clear_ ats E args)
 | .copy=>some (n0.copy_ ats E args)
 | .delete=>some (n0.delete_ ats E args)
 | .len=>some (Z8 ats E args)
 | .max=>some (n0.max_ ats E args)
 | .min=>some (n0.min_ ats E args)
 |_=>none
theorem za {s:Sem Next} {w w':x2} {v:x1} (h:(nv s).run P w= .ok v w'):s.run P w= .ok (.value v) w':=by
 unfold nv at h;rw[Z4] at h;cases E:s.run P w with
 |halt x J=>rw[E] at h;simp[Z6] at h
 |ok x J=>
  rw[E] at h;cases x <;> simp_all [Z6,stuck,Z9]
theorem zb (x:x1) (b:Bool) (t:u5):Instr.next x b 0=Instr.next x b t:=rfl
theorem pN {O:V5→x1} {o:W0} {s:Sem x1} (h:l3 O o.op=some s) {w w':x2} {v:x1} (E:s.run P w= .ok v w'):
  (execOp O o).run P w= .ok (.value v) w':=by
 cases J:o.op with
 |nilCheck x=>
  rw[J] at h;cases h;have:=za P E;unfold execOp at this ⊢;simpa[J] using this
 |pick c x y=>
  rw[J] at h;cases h;unfold execOp;simp only[J,Z4,Z9] at E ⊢;cases U:(asBool (O c)).run P w with
  |halt x V=>rw[U] at E;simp[Z6] at E
  |ok x V=>rw[U] at E;simp only[Z6,Result.ok.injEq] at E ⊢;simp[E]
 |binOp op W x y X=>
  rw[J] at h;cases h;unfold execOp;simp only[J];unfold aB at E;rw[←y7] at E;simp only[Z4,Z9] at E ⊢;rw[E];rfl
 |_=>
  rw[J] at h
  first
   |(cases h;done)
   |(cases h;simp only[pL,y8] at E;unfold execOp;simp only[J,Z4,E,Z6,Z9])
   |(cases h;unfold execOp;simp only[J,Z4,E,Z6,Z9])
theorem zc {E:V5→x1} {o:W0} {s:Sem Unit} (h:pM E o.op=some s) {w w':x2} {v:Unit} (O:s.run P w= .ok v w'):
  (execOp E o).run P w= .ok .skip w':=by
 cases J:o.op with
 |_=>
  rw[J] at h
  first
   |(cases h;done)
   |(cases h;unfold execOp;simp only[J,Z4,O,Z6,Z9])
def Enters (f:FuncId):Prop:=∀ args w,(callFunc f args).run P w= .ok (.enter f args) w
inductive ah (f:FuncId) (args:List x1) (w:x2) (K:x1→x2→Prop):Prop
 |code (h1:Enters P f) (h2:Calls P f args.toArray w fun e w'=>∃ v,e= .returned v∧cA w w'∧K v w')
 |ext (v:x1) (w':x2) (h1:(callFunc f args.toArray).run P w= .ok (.value v) w') (h2:cA w w') (h3:K v w')
inductive fh (f:FuncId) (args:List x1) (w:x2) (K:x1→x2→Prop):Prop
 |code (h1:Enters P f) (h2:Calls P f args.toArray w fun e w'=>∃ v,e= .returned v∧K v w')
 |ext (v:x1) (w':x2) (h1:(callFunc f args.toArray).run P w= .ok (.value v) w') (h3:K v w')
theorem fh.calls {f:FuncId} {args:List x1} {w:x2} {K:x1→x2→Prop} (h:fh P f args w K) (E:Enters P f):Calls P f args.toArray w fun e w'=>∃ v,e= .returned v∧K v w':=by
 cases h with
 |code _ h=>exact h
 |ext v w' h1=>rw[E] at h1;cases h1
def kZ (l:Nat) (args:List x1) (w:x2) (K:x1→x2→Prop):Prop:=
 YieldAt Fence.wide 0 P l args.toArray w fun e w'=>∃ v,e= .returned v∧K v w'
def nx (free:Bool) (f:x1) (args:List x1) (w:x2) (K:x1→x2→Prop):Prop:=
 match f with
 | .func (.func g) first cap=>bif free then fh P g (first.toList++args++cap.toList) w K else ah P g (first.toList++args++cap.toList) w K
 | .func (.yield l) first _=>free=true∧kZ P l (first.toList++args) w K
 |_=>False
def O (s:Sem x1) (w:x2) (K:x1→Prop):Prop:=∃ v,(∀ w',Ext w w'→s.run P w'= .ok v w')∧K v
def zd:List (Nat×Nat):=[(9,22),(22,22)]
def ze (s d:Nat):Bool:=zd.any fun p=>W6 p.1 s&&W6 p.2 d
def gC (o:W0):Bool:=
 match o.op with
 | .convert s d _=>!ze s d
 | .move _| .assign _| .pick .. | .load .. | .nilCheck _| .binOp .. | .unOp .. | .makeInterface .. | .makeFunc .. | .slice .. | .fieldAddr .. | .field ..
 | .indexAddr .. | .index .. | .lookup .. | .extract .. | .build .. | .typeAssert ..=>true
 | .call c=>
  match c.callee with
  | .builtin .len| .builtin .cap| .builtin .min| .builtin .max=>true
  |_=>false
 |_=>false
def bL (s:Sem x1) (v:x1) (w':x2):Prop:=∀ E,Ext w' E→s.run P E= .ok v E
def iK (o:W0) (e:Env) (w:x2) (K:Env→(x2→Prop)→Prop):Prop:=
 bif known e (opsOf o.op) then
  match o.op with
  | .move x| .assign x=>
   match ds e x with
   |some y=>K (c4 e o.dst y) (fun _=>True)
   |none=>False
  | .pick c a b=>
   match ds e c with
   |some (.b true)=>(match ds e a with|some y=>K (c4 e o.dst y) (fun _=>True)|none=>False)
   |some (.b false)=>(match ds e b with|some y=>K (c4 e o.dst y) (fun _=>True)|none=>False)
   |some (.v x)=>Split x (K (c4 e o.dst (.v (cb e a))) (fun _=>True)) (K (c4 e o.dst (.v (cb e b))) (fun _=>True))
   |some .u=>False
   |none=>False
  | .call c=>
   match c.callee with
   | .builtin b=>
    match kY b c.argTypes o.type (bF (cb e) c.args.toList).toArray with
    |some s=>O P s w fun v=>K (c4 e o.dst (.v v)) (bL P s v)
    |none=>False
   |_=>False
  |op=>
   match l3 (cb e) op with
   |some s=>O P s w fun v=>K (c4 e o.dst (.v v)) (bL P s v)
   |none=>False
 else False
def pO (free:dY) (o:W0) (e:Env) (w:x2) (K:Env→x2→Prop):Prop:=
 bif known e (opsOf o.op) then
  match o.op with
  | .call c=>
   match c.callee with
   | .builtin b=>
    match kY b c.argTypes o.type (bF (cb e) c.args.toList).toArray with
    |some s=>aA P s w fun v w'=>K (c4 e o.dst (.v v)) w'
    |none=>False
   | .value (.func f)=>
    bif free.1 then fh P f (bF (cb e) c.args.toList) w fun v w'=>K (c4 e o.dst (.v v)) w'
    else ah P f (bF (cb e) c.args.toList) w fun v w'=>K (c4 e o.dst (.v v)) w'
   | .value x=>nx P free.1 (cb e x) (bF (cb e) c.args.toList) w fun v w'=>K (c4 e o.dst (.v v)) w'
   | .invoke _ _=>False
  | .next x str=>nu P free (Instr.next (cb e x) str 0) w fun v w'=>K (c4 e o.dst (.v v)) w'
  |op=>
   match l3 (cb e) op with
   |some s=>aA P s w fun v w'=>K (c4 e o.dst (.v v)) w'
   |none=>
    match pM (cb e) op with
    |some s=>aA P s w fun _ w'=>K (c4 e o.dst (.v undef)) w'
    |none=>False
 else False
def k0 (free:dY) (o:W0) (e:Env) (w:x2) (K:Env→x2→Prop):Prop:=
 bif gC o then iK P o e w (fun E _=>K E w) else pO P free o e w K
theorem Enters.of {f:FuncId} {fn:Func} {c:Code} (ag:P.funcs[f]? =some fn) (E:fn.body=some c) (J:(fn.name == "runtime.NumGoroutine")=false):Enters P f:=by
 intro args w;have O:fn.name≠ "runtime.NumGoroutine":=by simpa using J
 unfold callFunc;simp[Z4,program,Sem.run,Z6,ag,O,E,Z9]
variable {P}
variable {N:Nat} {r:Option Nat} {o:W0} {e:Env} {a:Act} {w:x2}
theorem hF (O:V6 N e a) (U:known e (opsOf o.op)=true) (E:∀ cs b,o.op≠ .select cs b) (V:∀ c,o.op≠ .go c:=by simp_all) (W:∀ c,o.op≠ .defer c:=by simp_all):
  execOp a.eval o=execOp (cb e) o:=
 execOp_congr o E fun x J=>O.eval (pJ U x (y9 V W E x J))
theorem l4 {next:Act→x2→Prop} {Q:Exit→Act→x2→Prop} (J:V6 N e a) (O:known e (opsOf o.op)=true) (U:∀ cs b,o.op≠ .select cs b)
  (E:∀ c,o.op≠ .defer c) {v:x1} {w':x2} (V:(execOp (cb e) o).run P w= .ok (.value v) w') (h:next (a.put o.dst v) w') (W:∀ c,o.op≠ .go c:=by simp_all):o.wpIn (di r) 0 P a w next Q:=by
 refine⟨fun _ _=>trivial,?_⟩;rw[W0.semAt_eq _ _ _ E,hF J O U W E,V,W0.uponIn_value];exact h
theorem zf {next:Act→x2→Prop} {Q:Exit→Act→x2→Prop} (J:V6 N e a) (O:known e (opsOf o.op)=true) (U:∀ cs b,o.op≠ .select cs b)
  (E:∀ c,o.op≠ .defer c) {w':x2} (V:(execOp (cb e) o).run P w= .ok .skip w') (h:next (a.put o.dst undef) w') (W:∀ c,o.op≠ .go c:=by simp_all):o.wpIn (di r) 0 P a w next Q:=by
 refine⟨fun _ _=>trivial,?_⟩;rw[W0.semAt_eq _ _ _ E,hF J O U W E,V,W0.uponIn_skip];exact h
def dR (N:Nat) (free:dY) (K:Env→x2→Prop) (o:W0) (a:Act) (w:x2) (a':Act) (w':x2):Prop:=
 ∃ E v,K E w'∧V6 N E a'∧a'=a.put o.dst v∧(free.1=false→b2 free.2 w w')
theorem dR.of {free:dY} {K:Env→x2→Prop} {x:dl} {v:x1} {w':x2} (E:K (c4 e o.dst x) w') (O:V6 N e a) (U:gY N o.dst=true) (J:x.val=v)
  (V:free.1=false→b2 free.2 w w'):dR N free K o a w (a.put o.dst v) w':=⟨_,v,E,O.put U J,rfl,V⟩
theorem ss {free:dY} {K:Env→x2→Prop} {Q:Exit→Act→x2→Prop} {f:FuncId} {args:Array x1} (J:V6 N e a) (O:gY N o.dst=true)
  (h:Calls P f args w fun E w'=>∃ v,E= .returned v∧(free.1=false→b2 free.2 w w')∧K (c4 e o.dst (.v v)) w'):
  o.uponIn (di r) 0 P a (dR N free K o a w) Q (.ok (.enter f args) w):=by
 rw[W0.uponIn_enter];refine⟨pK _ _,CallsIn.mono (sq h) ?_⟩;rintro E w' ⟨v,rfl,U,V⟩;exact dR.of V J O rfl U
theorem iL {x:V5} {y:dl} (h:ds e x=some y):cb e x=y.val:=by simp[cb,h]
theorem su {l:List V5} {x:V5} (E:known e l=true) (J:x∈l):∃ y,ds e x=some y:=Option.isSome_iff_exists.1 (pJ E x J)
theorem sw {K:Env→(x2→Prop)→Prop} (h:iK P o e w K) (X:V6 N e a) (ah:gY N o.dst=true):
  ∃ v,∃ st:x2→Prop,(∀ w',Ext w w'→(execOp a.eval o).run P w'= .ok (.value v) w')∧(∃ Y,K Y st∧V6 N Y (a.put o.dst v))∧(∀ c,o.op≠ .defer c)∧
   (∀ w',st w'→ ∀ O,Ext w' O→(execOp a.eval o).run P O= .ok (.value v) O):=by
 unfold iK at h;cases W:known e (opsOf o.op) with
 |false=>rw[W] at h;exact h.elim
 |true=>
  rw[W] at h;simp only[cond_true] at h;have put:∀ {x:dl} {v:x1} {st:x2→Prop},K (c4 e o.dst x) st→x.val=v→ ∃ Y,K Y st∧V6 N Y (a.put o.dst v):=fun h1 Z=>⟨_,h1,X.put ah Z⟩;cases E:o.op with
  |move x=>
   rw[E] at h;simp only at h;cases J:ds e x with
   |none=>rw[J] at h;exact h.elim
   |some y=>
    rw[J] at h;have all:∀ w':x2,(execOp a.eval o).run P w'= .ok (.value y.val) w':=fun w'=>by
     rw[hF X W (by simp[E])];unfold execOp;simp only[E,Z9,iL J]
    exact⟨y.val,_,fun w' _=>all w',put h rfl,by simp,fun _ _ O _=>all O⟩
  |assign x=>
   rw[E] at h;simp only at h;cases J:ds e x with
   |none=>rw[J] at h;exact h.elim
   |some y=>
    rw[J] at h;have all:∀ w':x2,(execOp a.eval o).run P w'= .ok (.value y.val) w':=fun w'=>by
     rw[hF X W (by simp[E])];unfold execOp;simp only[E,Z9,iL J]
    exact⟨y.val,_,fun w' _=>all w',put h rfl,by simp,fun _ _ O _=>all O⟩
  |pick c x y=>
   rw[E] at h;simp only at h;have ac:=W;rw[E] at ac;obtain⟨ak,J⟩:=su ac (x:=x) (by simp[opsOf]);obtain⟨al,af⟩:=su ac (x:=y) (by simp[opsOf]);have aa:∀ (t:Bool) (w':x2),cb e c= .bool t→(execOp a.eval o).run P w'= .ok (.value (if t=true then cb e x else cb e y)) w':=by
    intro t w' ad;rw[hF X W (by simp[E])];unfold execOp;simp[E,ad,asBool,Z9]
   cases U:ds e c with
   |none=>rw[U] at h;exact h.elim
   |some ai=>
    rw[U] at h;cases ai with
    |b t=>
     cases t with
     |true=>
      simp only[J] at h;exact⟨_,_,fun w' _=>aa true w' (iL U),put h (by simp[iL J]),by simp,fun _ _ w' _=>aa true w' (iL U)⟩
     |false=>
      simp only[af] at h;exact⟨_,_,fun w' _=>aa false w' (iL U),put h (by simp[iL af]),by simp,fun _ _ w' _=>aa false w' (iL U)⟩
    |v z=>
     obtain⟨t,aj,ad,ag⟩:=h;have V:=fun w'=>aa t w' (by rw[iL U];exact aj);cases t with
     |true=>exact⟨_,_,fun w' _=>V w',put (ad rfl) rfl,by simp,fun _ _ w' _=>V w'⟩
     |false=>exact⟨_,_,fun w' _=>V w',put (ag rfl) rfl,by simp,fun _ _ w' _=>V w'⟩
    |u=>exact h.elim
  |call c=>
   rw[E] at h;simp only at h;cases U:c.callee with
   |builtin b=>
    rw[U] at h;simp only at h;rw[pL] at h;cases ab:kY b c.argTypes o.type (c.args.map (cb e)) with
    |none=>rw[ab] at h;exact h.elim
    |some s=>
     rw[ab] at h;obtain⟨v,V,ae⟩:=h;have all:∀ w':x2,s.run P w'= .ok v w'→(execOp a.eval o).run P w'= .ok (.value v) w':=fun w' V=>by
      rw[hF X W (by simp[E])];unfold execOp;cases b <;> simp only[kY] at ab <;> first|(cases ab;done)|(cases ab;simp[E,U,resolve,invoke,builtin,V,Z6])
     exact⟨v,_,fun w' hw=>all w' (V w' hw),put ae rfl,by simp,fun w' h1 O Z=>all O (h1 O Z)⟩
   |value x=>rw[U] at h;exact h.elim
   |invoke x m=>rw[U] at h;exact h.elim
  |_=>
   rw[E] at h
   first
    |(simp only[l3] at h;done)
    |(obtain⟨v,V,ae⟩:=h
      refine⟨v,_,fun w' hw=>?_,put ae rfl,by simp,fun w' h1 O Z=>?_⟩
      ·rw[hF X W (by simp[E])];exact pN P (by rw[E];rfl) (V w' hw)
      ·rw[hF X W (by simp[E])];exact pN P (by rw[E];rfl) (h1 O Z))
theorem zg {free:dY} {K:Env→x2→Prop} {Q:Exit→Act→x2→Prop} (h:pO P free o e w K) (J:V6 N e a) (Y:gY N o.dst=true):
  o.wpIn (di r) 0 P a w (dR N free K o a w) Q:=by
 unfold pO at h;cases W:known e (opsOf o.op) with
 |false=>rw[W] at h;exact h.elim
 |true=>
  rw[W] at h;simp only[cond_true] at h;cases E:o.op with
  |call c=>
   rw[E] at h;simp only at h;cases Z:c.callee with
   |builtin b=>
    rw[Z] at h;simp only at h;rw[pL] at h;cases aa:kY b c.argTypes o.type (c.args.map (cb e)) with
    |none=>rw[aa] at h;exact h.elim
    |some s=>
     rw[aa] at h;obtain⟨v,w',O,X,V⟩:=h;refine l4 J W (by simp[E]) (by simp[E]) (v:=v) (w':=w') ?_ (dR.of V J Y rfl fun _=>X.b);unfold execOp;cases b <;> simp only[kY] at aa <;> first|(cases aa;done)|(cases aa;simp[E,Z,resolve,invoke,builtin,O,Z6])
   |value x=>
    rw[Z] at h;have step:∀ (d:Deferred) (y:x1),cb e x=y→Deferred.ofValue y (c.args.map (cb e))=pure d→
      (invoke d.target d.args).run P w=(execOp (cb e) o).run P w:=by
     intro d y U ak;unfold execOp;simp only[E,Z,resolve,U,ak,Z4,Z9,Z6]
    have ad:∀ (g:FuncId) (first cap:Array x1),cb e x= .func (.func g) first cap→
      (execOp (cb e) o).run P w=(callFunc g (first.toList++bF (cb e) c.args.toList++cap.toList).toArray).run P w:=by
     intro g first cap U
     rw[←step {target:=.fn (.func g) cap,args:=first++c.args.map (cb e)} _ U rfl];simp only[invoke];have ae:first++c.args.map (cb e)++cap=(first.toList++bF (cb e) c.args.toList++cap.toList).toArray:=by apply Array.toList_inj.1;simp[nw]
     rw[ae]
    have enter:∀ (g:FuncId) (first cap:Array x1),cb e x= .func (.func g) first cap→Enters P g→
      (execOp (cb e) o).run P w= .ok (.enter g (first.toList++bF (cb e) c.args.toList++cap.toList).toArray) w:=by
     intro g first cap U ab
     rw[ad g first cap U,ab]
    have go:∀ (g:FuncId) (first cap:Array x1),cb e x= .func (.func g) first cap→
      (bif free.1 then fh P g (first.toList++bF (cb e) c.args.toList++cap.toList) w fun v w'=>K (c4 e o.dst (.v v)) w'
       else ah P g (first.toList++bF (cb e) c.args.toList++cap.toList) w fun v w'=>K (c4 e o.dst (.v v)) w')→
      o.wpIn (di r) 0 P a w (dR N free K o a w) Q:=by
     intro g first cap U h
     obtain⟨fr,aq⟩:=free;cases fr with
     |true=>
      rcases h with⟨ab,af⟩|⟨v,w',O,V⟩
      ·refine⟨fun _ _=>trivial,?_⟩;rw[W0.semAt_eq _ _ _ (by simp[E]),hF J W (by simp[E])];rw[enter g first cap U ab];exact ss J Y (af.mono fun ac w' ⟨v,h1,ag⟩=>⟨v,h1,(fun h=>by cases h),ag⟩)
      ·rw[←ad g first cap U] at O;exact l4 J W (by simp[E]) (by simp[E]) O (dR.of V J Y rfl fun h=>by cases h)
     |false=>
      rcases h with⟨ab,af⟩|⟨v,w',O,X,V⟩
      ·refine⟨fun _ _=>trivial,?_⟩;rw[W0.semAt_eq _ _ _ (by simp[E]),hF J W (by simp[E])];rw[enter g first cap U ab];exact ss J Y (af.mono fun ac w' ⟨v,h1,X,ag⟩=>⟨v,h1,fun _=>X.b,ag⟩)
      ·rw[←ad g first cap U] at O;exact l4 J W (by simp[E]) (by simp[E]) O (dR.of V J Y rfl fun _=>X.b)
    have ai:nx P free.1 (cb e x) (bF (cb e) c.args.toList) w (fun v w'=>K (c4 e o.dst (.v v)) w')→
      o.wpIn (di r) 0 P a w (dR N free K o a w) Q:=by
     intro h;unfold nx at h;split at h
     ·rename_i g first cap U
      exact go g first cap U h
     ·rename_i l first cap U
      obtain⟨al,fn,tmps,aj,body,am,ao⟩:=h;refine⟨fun _ _=>trivial,?_⟩;rw[W0.semAt_eq _ _ _ (by simp[E]),hF J W (by simp[E])];have:(execOp (cb e) o).run P w= .ok (.round l fn tmps aj body) w:=by
       rw[←step {target:=.fn (.yield l) cap,args:=first++c.args.map (cb e)} _ U rfl,←am];have ae:(first.toList++bF (cb e) c.args.toList).toArray=first++c.args.map (cb e):=by apply Array.toList_inj.1;simp[nw]
       rw[ae];rfl
      rw[this,W0.uponIn_round];refine⟨pK _ _,?_⟩;have ap:RoundIn (di r) (0-1) P l fn tmps aj body w fun ac w'=>∃ v,ac= .returned v∧K (c4 e o.dst (.v v)) w':=ao;refine RoundIn.mono ap ?_;rintro ac w' ⟨v,rfl,V⟩;exact dR.of V J Y rfl fun h=>by rw[al] at h;cases h
     ·exact h.elim
    cases x with
    |func f=>exact go f #[] #[] rfl (by simpa using h)
    |tmp t=>exact ai h
    |const v=>exact ai h
    |global g=>exact ai h
   |invoke x m=>rw[Z] at h;exact h.elim
  |next x str=>
   rw[E] at h;obtain⟨v,w',O,X,V⟩:=h;refine l4 J W (by simp[E]) (by simp[E]) (v:=v) (w':=w') ?_ (dR.of V J Y rfl X);rw[zb _ _ o.type] at O;unfold execOp;simp only[E,Z4,O,Z6,Z9]
  |_=>
   rw[E] at h
   first
    |(simp only[l3,pM] at h;done)
    |(obtain⟨v,w',O,X,V⟩:=h
      exact l4 J W (by simp[E]) (by simp[E]) (pN P (by rw[E];rfl) O) (dR.of V J Y rfl fun _=>X.b))
    |(obtain⟨v,w',O,X,V⟩:=h
      exact zf J W (by simp[E]) (by simp[E]) (zc P (by rw[E];rfl) O) (dR.of V J Y rfl fun _=>X.b))
theorem ny {free:dY} {K:Env→x2→Prop} {Q:Exit→Act→x2→Prop} (h:k0 P free o e w K) (J:V6 N e a) (O:gY N o.dst=true):
  o.wpIn (di r) 0 P a w (dR N free K o a w) Q:=by
 unfold k0 at h;cases U:gC o with
 |false=>rw[U] at h;exact zg h J O
 |true=>
  rw[U] at h;have h:iK P o e w (fun E _=>K E w):=h;obtain⟨v,st,V,⟨E,W,X⟩,Y,_⟩:=sw h J O;refine⟨fun _ _=>trivial,?_⟩;rw[W0.semAt_eq _ _ _ Y,V w (Ext.refl _),W0.uponIn_value];exact⟨E,v,W,X,rfl,fun _=>b2.refl _ _⟩
end
section
variable {P:Y3}
def Still {α:Type} (P:Y3) (s:Sem α):Prop:=∀ w v E,s.run P w= .ok v E→E=w∧ ∀ w',s.run P w'= .ok v w'
theorem Still.pure {α:Type} (a:α):Still P (Pure.pure a:Sem α):=fun w v E h=>by
 rw[Z9] at h;cases h;exact⟨rfl,fun w'=>by rw[Z9]⟩
theorem Still.bind {α β:Type} {s:Sem α} {f:α→Sem β} (O:Still P s) (ag:∀ a,Still P (f a)):Still P (s >>= f):=fun w v U h=>by
 rw[Z4] at h;cases E:s.run P w with
 |halt x J=>rw[E] at h;simp[Z6] at h
 |ok a J=>
  rw[E] at h;obtain⟨rfl,V⟩:=O w a J E;obtain⟨rfl,W⟩:=ag a _ v U h;exact⟨rfl,fun w'=>by rw[Z4,V w'];exact W w'⟩
theorem Still.never {α:Type} {s:Sem α} (h:∀ w v E,s.run P w≠ .ok v E):Still P s:=fun w v E h'=>absurd h' (h w v E)
theorem Still.stuck {α:Type} (m:String):Still P (stuck m:Sem α):=.never fun w v E h=>by simp[Go.stuck] at h
theorem Still.unsupported {α:Type} (m):Still P (unsupported m:Sem α):=.never fun w v E h=>by simp[Go.unsupported] at h
theorem Still.program:Still P program:=fun w v E h=>by cases h;exact⟨rfl,fun _=>rfl⟩
theorem Still.underlying (t:u5):Still P (underlying t):=Still.bind .program fun p=>by
 cases p.underlying t with
 |some d=>exact Still.pure d
 |none=>exact Still.stuck _
theorem Still.typeInfo (t:u5):Still P (typeInfo t):=Still.bind .program fun p=>by
 cases p.info? t with
 |some d=>exact Still.pure d
 |none=>exact Still.stuck _
theorem Still.sizeOf (t:u5):Still P (sizeOf t):=Still.bind (.typeInfo t) fun _=>Still.pure _
theorem Still.boundsPanic {α:Type} (k:r9) (x y:Int) (c:BoundsCode):Still P (boundsPanic k x y c:Sem α):=.never fun w v E h=>by
 have J:∀ (s:Sem Bool) (w:x2) (v:α) (E:x2),(s >>= fun b=>(runtimePanic (.bounds (X0.wrap x) y b c):Sem α)).run P w≠ .ok v E:=by
  intro s w v E h;rw[Z4] at h;cases O:s.run P w with
  |halt x U=>rw[O] at h;simp[Z6] at h
  |ok a U=>rw[O] at h;simp[Z6,Go.runtimePanic,Go.goPanic] at h
 unfold Go.boundsPanic at h;dsimp only at h;split at h
 ·exact J _ _ _ _ h
 ·exact J _ _ _ _ h
theorem Still.asIntOf (v:x1):Still P (asIntOf v):=by
 unfold Go.asIntOf;split
 ·exact Still.pure _
 ·exact Still.unsupported _
 ·exact Still.stuck _
theorem Still.sureAddr (v:x1):Still P (Instr.sureAddr v):=by
 unfold Instr.sureAddr;split
 ·exact Still.pure _
 ·exact Still.stuck _
theorem Still.extract (v:x1) (i:Nat):Still P (c9 v i):=by
 unfold c9;split
 ·split
  ·exact Still.pure _
  ·exact Still.stuck _
 ·exact Still.stuck _
theorem Still.indexAt (t:u5) (x i:x1):Still P (j4 t x i):=by
 have tail:∀ (t:u5) (k:r9) (i:Int) (base:Option Addr) (len:Nat) (E:u5),Still P (do
   let J:=len≤1&&(match ←Go.underlying t with| .array ..=>true|_=>false)
   match base with
   |some a=>
    if 0≤i∧i<len then Pure.pure (x1.pointer (some (a.add (i.toNat*(←Go.sizeOf E)))))
    else if J then Go.unsupported (.noEntry "op/indexAddr.an index out of range at an array of length 0 or 1 (ledger 616)")
    else Go.boundsPanic k i len .index
   |none=>Go.boundsPanic k i 0 .index):=by
  intro t k i base len E;refine .bind (.underlying t) fun d=>?_;cases base with
  |none=>exact Still.boundsPanic _ _ _ _
  |some a=>
   dsimp only;split
   ·exact .bind (.sizeOf E) fun _=>.pure _
   ·split <;> split <;> first|exact Still.unsupported _|exact Still.boundsPanic _ _ _ _
 unfold j4;refine .bind (.asIntOf i) fun O=>?_;refine .bind (.underlying t) fun d=>?_;split
 ·refine .bind (.sureAddr _) fun b=>?_;refine .bind (.pure _) fun y=>?_;exact tail _ _ _ _ _ _
 ·refine .bind (.pure _) fun y=>?_;exact tail _ _ _ _ _ _
 ·refine .bind (.stuck _) fun y=>?_;exact tail _ _ _ _ _ _
end
section
variable (P:Y3)
def nz (free:dY) (ops:Array W0) (o:W0) (e:Env) (w:x2) (K:Env→x2→Prop):Prop:=
 match o.guard with
 |none=>k0 P free o e w K
 |some (j,b)=>
  match (ops[j]?).bind (·.dst) with
  |none=>False
  |some s=>
   match look e s with
   |some (.b c)=>bif xor c b then K (c4 e o.dst .u) w else k0 P free o e w K
   |some (.v x)=>
    Split x (bif b then k0 P free o ((s,.b true)::e) w K else K (c4 ((s,.b true)::e) o.dst .u) w)
     (bif b then K (c4 ((s,.b false)::e) o.dst .u) w else k0 P free o ((s,.b false)::e) w K)
   |some .u=>K (c4 e o.dst .u) w
   |none=>False
def k1 (free:dY) (ops:Array W0):List W0→Env→x2→(Env→x2→Prop)→Prop
 |[],e,w,K=>K e w
 |o::l,e,w,K=>nz P free ops o e w fun E w'=>k1 free ops l E w' K
def pP (ops:Array W0) (o:W0) (e:Env) (w:x2) (K:Env→(x2→Prop)→Prop):Prop:=
 match o.guard with
 |none=>iK P o e w K
 |some (j,b)=>
  match (ops[j]?).bind (·.dst) with
  |none=>False
  |some s=>
   match look e s with
   |some (.b c)=>bif xor c b then K (c4 e o.dst .u) (fun _=>True) else iK P o e w K
   |some (.v x)=>
    Split x (bif b then iK P o ((s,.b true)::e) w K else K (c4 ((s,.b true)::e) o.dst .u) (fun _=>True))
     (bif b then K (c4 ((s,.b false)::e) o.dst .u) (fun _=>True) else iK P o ((s,.b false)::e) w K)
   |some .u=>K (c4 e o.dst .u) (fun _=>True)
   |none=>False
def iM (o:W0):Bool:=
 match o.op with
 | .move _| .assign _| .extract .. | .indexAddr ..=>true
 |_=>false
def jo (ops:Array W0):List Nat→Option Nat
 |[]=>none
 |i::r=>match ops[i]? with
  |some o=>bif gC o then some i else jo ops r
  |none=>jo ops r
def pQ (p:Nat→Prop):List Nat→Prop
 |[]=>True
 |[i]=>p i
 |i::r=>p i∧pQ p r
def h9 (bs:Array Nat) (j k:Nat):Bool:=!(W6 k j)&&(!((bs.getD j 0).testBit k)&& !((bs.getD k 0).testBit j))
def l7 (same:Bool) (q:Nat) (w:x2) (st:x2→Prop) (E:List (x2×List (Nat×(x2→Prop)))):List (x2×List (Nat×(x2→Prop))):=
 match same,E with
 |true,g::r=>(g.1,(q,st)::g.2)::r
 |_,E=>(w,[(q,st)])::E
def l8 (bs:Array Nat) (j:Nat):List (Nat×(x2→Prop))→Bool
 |[]=>false
 |x::r=>h9 bs j x.1||l8 bs j r
def k2 (bs:Array Nat) (j:Nat) (w':x2):List (Nat×(x2→Prop))→Prop
 |[]=>True
 |x::r=>bif h9 bs j x.1 then x.2 w'∧k2 bs j w' r else k2 bs j w' r
def j1 (bs:Array Nat) (j:Nat) (w':x2) (C:Prop):List (x2×List (Nat×(x2→Prop)))→Prop
 |[]=>C
 |g::r=>bif l8 bs j g.2 then (Ext g.1 w'∨k2 bs j w' g.2)∧j1 bs j w' C r else j1 bs j w' C r
def jp (free:dY) (ops:Array W0) (bs:Array Nat):Nat→Array Bool→Bool→List (x2×List (Nat×(x2→Prop)))→Env→x2→(Env→x2→Prop)→Prop
 |0,E,_,_,e,w,K=>match Region.ready .any ops E with|[]=>K e w|_=>False
 |fuel+1,E,same,J,e,w,K=>
  match Region.ready .any ops E with
  |[]=>K e w
  |i::r=>
   match jo ops (i::r) with
   |some q=>
    bif Region.free .any ops E q then
     match ops[q]? with
     |some o=>pP P ops o e w fun O st=>
       bif iM o then jp free ops bs fuel (E.setIfInBounds q true) same J O w K
       else jp free ops bs fuel (E.setIfInBounds q true) true (l7 same q w st J) O w K
     |none=>False
    else False
   |none=>
    pQ (fun j=>match ops[j]? with
     |some o=>nz P free ops o e w fun O w'=>j1 bs j w' (jp free ops bs fuel (E.setIfInBounds j true) false J O w' K) J
     |none=>False) (i::r)
def pR (free:dY) (ops:Array W0) (e:Env) (w:x2) (K:Env→x2→Prop):Prop:=
 bif Region.noSelect ops then jp P free ops (Region.before ops) ops.size (Array.replicate ops.size false) false [] e w K else False
end
section
variable {P:Y3} {N:Nat} {r:Option Nat} {free:dY} {ops:Array W0}
theorem zh {e:Env} {a:Act} (O:V6 N e a) {j s:Nat} {c:Bool} (U:(ops[j]?).bind (·.dst)=some s) {x:dl} (V:look e s=some x) (J:x.val= .bool c):
  yielded ops a.tmps j=some c:=by
 have h:=O.2 s x V;rw[J] at h;have W:a.tmps[s]? =some (.bool c):=by
  rw[Array.getD_eq_getD_getElem?] at h;cases E:a.tmps[s]? with
  |none=>rw[E] at h;simp[undef] at h
  |some y=>rw[E] at h;simpa using h
 simp[yielded,U,W]
theorem nA {e:Env} {a:Act} (E:V6 N e a) {o:W0} {j s:Nat} {b c:Bool} (O:o.guard=some (j,b)) (U:(ops[j]?).bind (·.dst)=some s) {x:dl}
  (V:look e s=some x) (J:x.val= .bool c):Region.wanted o (yielded ops a.tmps)= !(xor c b):=by
 simp only[Region.wanted,O,zh E U V J];cases c <;> cases b <;> rfl
theorem sx {e:Env} {a:Act} (J:V6 N e a) {o:W0} {j s:Nat} {b:Bool} (O:o.guard=some (j,b)) (U:(ops[j]?).bind (·.dst)=some s)
  (V:look e s=some .u):Region.wanted o (yielded ops a.tmps)=false:=by
 have h:=J.2 s .u V;have W:yielded ops a.tmps j=none:=by
  rw[Array.getD_eq_getD_getElem?] at h;unfold yielded;rw[U];cases E:a.tmps[s]? with
  |none=>simp[E]
  |some y=>
   rw[E] at h;simp only[Option.getD_some,dl.val] at h;subst h;simp[E,undef]
 simp[Region.wanted,O,W]
theorem V6.lit {e:Env} {a:Act} (O:V6 N e a) {s:Nat} {x:dl} {c:Bool} (V:look e s=some x) (J:x.val= .bool c):V6 N ((s,.b c)::e) a:=by
 refine⟨O.1,fun t y E=>?_⟩;simp only[look] at E;cases U:W6 s t with
 |true=>
  have:s=t:=Nat.eq_of_beq_eq_true U;subst this;simp only[U,cond_true,b9] at E;subst E;rw[O.2 s x V,J];rfl
 |false=>simp only[U,cond_false] at E;exact O.2 t y E
theorem sy {o:W0} {e:Env} {a:Act} {w:x2} {K:Env→x2→Prop} {Q:Exit→Act→x2→Prop} (h:nz P free ops o e w K) (E:V6 N e a) (O:gY N o.dst=true):
  (Region.wanted o (yielded ops a.tmps)=true∧o.wpIn (di r) 0 P a w (dR N free K o a w) Q)∨
  (Region.wanted o (yielded ops a.tmps)=false∧dR N free K o a w (a.put o.dst undef) w):=by
 unfold nz at h;cases U:o.guard with
 |none=>rw[U] at h;exact .inl ⟨by simp[Region.wanted,U],ny h E O⟩
 |some Z=>
  obtain⟨j,b⟩:=Z;rw[U] at h;simp only at h;cases W:(ops[j]?).bind (·.dst) with
  |none=>rw[W] at h;exact h.elim
  |some s=>
   rw[W] at h;simp only at h;cases V:look e s with
   |none=>rw[V] at h;exact h.elim
   |some x=>
    rw[V] at h;cases x with
    |b c=>
     simp only at h;have hw:=nA E U W V (c:=c) rfl;cases J:xor c b with
     |true=>
      rw[J] at h hw;exact .inr ⟨hw,dR.of h E O rfl fun _=>b2.refl _ _⟩
     |false=>
      rw[J] at h hw;exact .inl ⟨hw,ny h E O⟩
    |v y=>
     simp only at h;obtain⟨c,rfl,X,ag⟩:=h;have hw:=nA E U W V (c:=c) rfl;have Y:=E.lit V (c:=c) rfl;cases c with
     |true=>
      have X:=X rfl;cases b with
      |true=>exact .inl ⟨hw,ny X Y O⟩
      |false=>exact .inr ⟨hw,dR.of X Y O rfl fun _=>b2.refl _ _⟩
     |false=>
      have ag:=ag rfl;cases b with
      |true=>exact .inr ⟨hw,dR.of ag Y O rfl fun _=>b2.refl _ _⟩
      |false=>exact .inl ⟨hw,ny ag Y O⟩
    |u=>exact .inr ⟨sx E U W V,dR.of h E O rfl fun _=>b2.refl _ _⟩
def eQ (D:List Nat) (a a':Act):Prop:=a'.defers=a.defers∧ ∀ t,t∉D→a'.tmps.getD t undef=a.tmps.getD t undef
theorem eQ.refl (D:List Nat) (a:Act):eQ D a a:=⟨rfl,fun _ _=>rfl⟩
theorem eQ.trans {D:List Nat} {a b c:Act} (h:eQ D a b) (k:eQ D b c):eQ D a c:=⟨k.1.trans h.1,fun t E=>(k.2 t E).trans (h.2 t E)⟩
theorem eQ.put {D:List Nat} (a:Act) {d:Option Tmp} (v:x1) (E:∀ t,d=some t→t∈D):eQ D a (a.put d v):=by
 cases d with
 |none=>exact eQ.refl _ _
 |some s=>
  refine⟨rfl,fun t J=>?_⟩;have O:s≠t:=fun h=>J (h▸E s rfl);simp only[Act.put,Array.getD_eq_getD_getElem?];rw[Array.getElem?_setIfInBounds_ne O]
def jq (N:Nat) (free:dY) (K:Env→x2→Prop) (D:List Nat) (a:Act) (w:x2) (a':Act) (w':x2):Prop:=
 ∃ E,K E w'∧V6 N E a'∧eQ D a a'∧(free.1=false→b2 free.2 w w')
theorem jq.step {K:Env→x2→Prop} {D:List Nat} {a E a':Act} {w J w':x2} (h:jq N free K D E J a' w') (O:eQ D a E) (U:free.1=false→b2 free.2 w J):
  jq N free K D a w a' w':=by
 obtain⟨V,h1,W,X,Y⟩:=h;exact⟨V,h1,W,O.trans X,fun ag=>(U ag).trans (Y ag)⟩
def j2 (N:Nat) (l:List W0):Bool:=l.all fun o=>gY N o.dst
theorem zi {K:Env→x2→Prop} {D:List Nat} {Q:Exit→Act→x2→Prop} (aa:∀ o∈ops.toList,∀ t,o.dst=some t→t∈D) (X:j2 N ops.toList=true):
  ∀ (l:List W0) (k:Nat) (e:Env) (a:Act) (w:x2),(∀ j,l[j]? =ops[k+j]?)→k1 P free ops l e w K→V6 N e a→
   (∀ a' w',jq N free K D a w a' w'→Q .normal a' w')→wpOpsIn (di r) 0 P ops Q (List.range' k l.length) a w:=by
 intro l;induction l with
 |nil=>
  intro k e a w _ h O U;exact U a w ⟨e,h,O,eQ.refl _ _,fun _=>b2.refl _ _⟩
 |cons o l ab=>
  intro k e a w Y h O U;have V:=Y 0;simp only[List.getElem?_cons_zero,Nat.add_zero] at V;have Z:o∈ops.toList:=by
   have:=V.symm;rw[←V9] at this;exact x4 this
  have ac:gY N o.dst=true:=by
   simp only[j2,List.all_eq_true] at X;exact X o Z
  have ad:∀ j,l[j]? =ops[k+1+j]?:=fun j=>by
   have:=Y (j+1);rw[List.getElem?_cons_succ] at this;rw[this];congr 1;omega
  have next:∀ W E,dR N free (fun ae w'=>k1 P free ops l ae w' K) o a w W E→wpOpsIn (di r) 0 P ops Q (List.range' (k+1) l.length) W E:=by
   rintro W E ⟨af,v,ag,ah,rfl,ai⟩;refine ab (k+1) af _ E ad ag ah fun a' w' aj=>U a' w' (aj.step (eQ.put a v fun t ak=>aa o Z t ak) ai)
  simp only[k1] at h;show wpOpsIn (di r) 0 P ops Q (k::List.range' (k+1) l.length) a w;unfold wpOpsIn;rw[←V];simp only;rcases sy (r:=r) (Q:=Q) h O ac with⟨hw,J⟩|⟨hw,J⟩
  ·rw[if_pos hw];exact W0.wpIn_mono next J
  ·rw[hw];exact⟨fun _ _=>trivial,next _ _ J⟩
theorem zj {K:Env→x2→Prop} {D:List Nat} {Q:Exit→Act→x2→Prop} {id:Nat} {e:Env} {a:Act} {w:x2} (E:∀ o∈ops.toList,∀ t,o.dst=some t→t∈D)
  (J:j2 N ops.toList=true) (h:k1 P free ops ops.toList e w K) (O:V6 N e a) (U:∀ a' w',jq N free K D a w a' w'→Q .normal a' w'):
  (Code.region id ops false).wpIn (di r) 0 P Q a w:=by
 refine wpIn_region ?_;have:=zi (r:=r) E J ops.toList 0 e a w (fun j=>by simp) h O U;rw[List.range_eq_range'];simpa using this
end
section
variable {P:Y3} {N:Nat} {r:Option Nat} {free:dY} {ops:Array W0} {Q:Exit→Act→x2→Prop}
theorem zk (E:Option Nat) (o:W0) (O:∀ cs b,o.op≠ .select cs b) (a:Act) (d:Option Tmp) (v:x1) (h:∀ t,d=some t→t∉o.looksAt ops):
  o.semAt E (a.put d v).eval=o.semAt E a.eval:=by
 have he:=execOp_put o O a d v h;unfold W0.semAt;split
 ·rename_i l c U;have:resolve (a.put d v).eval c o.type=resolve a.eval c o.type:=resolve_congr c o.type fun x J=>Act.eval_put fun t V W=>h t V (by
   subst W;refine List.mem_append_left _ (List.mem_filterMap.2 ⟨.tmp t,?_,rfl⟩);rw[U];simpa[Op.operands] using J)
  rw[this]
 ·exact he
def jr (o:W0) (w0:x2) (st:x2→Prop) (w':x2):Prop:=iM o=true∨Ext w0 w'∨ ∃ E,st E∧Ext E w'
theorem jr.ext {o:W0} {w0 w w':x2} {st:x2→Prop} (h:jr o w0 st w) (k:Ext w w'):jr o w0 st w':=by
 rcases h with h|h|⟨E,h1,J⟩
 ·exact .inl h
 ·exact .inr (.inl (h.trans k))
 ·exact .inr (.inr ⟨E,h1,J.trans k⟩)
theorem zl {o:W0} (hm:iM o=true) {E:V5→x1} {v:x1} {w w':x2} (h:(execOp E o).run P w= .ok (.value v) w):(execOp E o).run P w'= .ok (.value v) w':=by
 unfold iM at hm;split at hm
 ·rename_i x J;unfold execOp at h ⊢;simp only[J,Z9,Result.ok.injEq,and_true] at h ⊢;exact h
 ·rename_i x J;unfold execOp at h ⊢;simp only[J,Z9,Result.ok.injEq,and_true] at h ⊢;exact h
 ·rename_i x i J;unfold execOp at h ⊢;simp only[J] at h ⊢;exact ((Still.bind (Still.extract _ _) fun _=>Still.pure _) _ _ _ h).2 _
 ·rename_i t x i J;unfold execOp at h ⊢;simp only[J] at h ⊢;exact ((Still.bind (Still.indexAt _ _ _) fun _=>Still.pure _) _ _ _ h).2 _
 ·cases hm
def fK (P:Y3) (ops:Array W0) (o:W0) (v:x1) (a:Act) (w0:x2→Prop):Prop:=
 (Region.wanted o (yielded ops a.tmps)=true∧(∀ c,o.op≠ .defer c)∧ ∀ w',w0 w'→(execOp a.eval o).run P w'= .ok (.value v) w')∨
 (Region.wanted o (yielded ops a.tmps)=false∧v=undef)
theorem fK.put {o E:W0} {v:x1} {a:Act} {w0:x2→Prop} (J:fK P ops o v a w0) (O:∀ cs b,o.op≠ .select cs b) (h:∀ t,E.dst=some t→t∉o.looksAt ops) (u:x1):
  fK P ops o v (a.put E.dst u) w0:=by
 unfold fK at*;rw[execOp_put o O a E.dst u h,wanted_put o a E.dst u h];exact J
theorem fK.go {i:Nat} {E:W0} {v:x1} {a:Act} {w0:x2→Prop} {w:x2} (hi:ops[i]? =some E) (J:fK P ops E v a w0) (hw:w0 w) {K:Act→x2→Prop} (h:K (a.put E.dst v) w):
  wpOpIn (di r) 0 P ops Q i K a w:=by
 unfold wpOpIn;simp only[hi];rcases J with⟨h1,O,U⟩|⟨h1,rfl⟩
 ·rw[if_pos h1];refine⟨fun _ _=>trivial,?_⟩;rw[W0.semAt_eq _ _ _ O,U w hw,W0.uponIn_value];exact h
 ·rw[h1];exact⟨fun _ _=>trivial,h⟩
theorem zm {j:Nat} {E O:W0} {v:x1} (X:ops[j]? =some O) (Y:E.apart ops O=true) (Z:∀ cs b,E.op≠ .select cs b) (aa:∀ cs b,O.op≠ .select cs b)
  (V:∀ c a w,¬Q (.panic c) a w) {K:Act→x2→Prop} {a:Act} {w:x2} {w0:x2→Prop} (J:fK P ops E v a w0) (h:wpOpIn (di r) 0 P ops Q j K (a.put E.dst v) w):
  wpOpIn (di r) 0 P ops Q j (fun a' w'=>fK P ops E v a' w0∧K (a'.put E.dst v) w') a w:=by
 obtain⟨h1,U,ab⟩:=W0.apart_spec Y;have aW:∀ (a:Act),fK P ops E v a w0→ ∀ u,fK P ops E v (a.put O.dst u) w0:=fun a J u=>J.put Z ab u;have ac:∀ d,fK P ops E v {a with defers:=d::a.defers} w0:=fun d=>J;unfold wpOpIn at*;simp only[X] at*;rw[wanted_put O a E.dst v h1] at h;split
 ·rename_i hw;simp only[hw,if_true] at h;obtain⟨_,h⟩:=h;refine⟨fun _ _=>trivial,?_⟩;rw[zk _ O aa a E.dst v h1] at h;generalize (O.semAt (di r).round a.eval).run P w=res at*;cases res with
  |ok n w'=>
   cases n <;> simp only[W0.uponIn] at h ⊢
   case value u=>exact⟨aW a J u,by rw[←Act.put_comm a v u U];exact h⟩
   case skip=>exact⟨aW a J _,by rw[←Act.put_comm a v undef U];exact h⟩
   case defer d=>
    refine⟨aW _ (ac d) _,?_⟩;rw[←Act.put_comm _ v undef U,←Act.put_defers];exact h
   case enter f args=>
    refine⟨h.1,CallsIn.mono h.2 fun e W he=>?_⟩;cases e with
    |returned u=>exact⟨aW a J u,by rw[←Act.put_comm a v u U];exact he⟩
    |panicked c=>exact absurd he (V _ _ _)
    |outgrown=>exact he
   case row row args=>exact⟨h.1,RowsIn.mono h.2 fun u W he=>⟨aW a J u,by rw[←Act.put_comm a v u U];exact he⟩⟩
   case round l f tmps ad body=>
    refine⟨h.1,RoundIn.mono h.2 fun e W he=>?_⟩;cases e with
    |returned u=>exact⟨aW a J u,by rw[←Act.put_comm a v u U];exact he⟩
    |panicked c=>exact absurd he (V _ _ _)
    |outgrown=>exact he
  |halt x w'=>
   cases x <;> simp only[W0.uponIn] at h ⊢
   case panic u=>exact absurd h (V _ _ _)
 ·rename_i hw;simp only[hw] at h;exact⟨fun _ _=>trivial,aW a J _,by rw[←Act.put_comm a v undef U];exact h.2⟩
def iN (ops:Array W0) (bs:Array Nat):Bool:=
 (Y1 ops.size).all fun j=>(Y1 ops.size).all fun k=>!((bs.getD j 0).testBit k)||
  (match ops[j]? with
   |some o=>o.after.any fun e=>Region.binds .any e&&Nat.blt e.on j&&(W6 e.on k||(bs.getD e.on 0).testBit k)
   |none=>false)
def Down (ops:Array W0) (E:Array Bool):Prop:=
 ∀ (x:Nat) (o:W0),ops[x]? =some o→E.getD x false=true→ ∀ e∈o.after,Region.binds .any e=true→E.getD e.on false=true
theorem sz {bs:Array Nat} (E:iN ops bs=true) {j k:Nat} (U:j<ops.size) (V:k<ops.size) (h:(bs.getD j 0).testBit k=true):
  ∃ o,ops[j]? =some o∧ ∃ e∈o.after,Region.binds .any e=true∧e.on<j∧(e.on=k∨(bs.getD e.on 0).testBit k=true):=by
 simp only[iN,List.all_eq_true,List.mem_range] at E;have:=E j U k V;rw[h] at this;simp only[Z3,Bool.false_or] at this;cases O:ops[j]? with
 |none=>rw[O] at this;cases this
 |some o=>
  rw[O] at this;obtain⟨e,he,J⟩:=Array.any_eq_true'.1 this;simp only[X2,Nat.blt_eq,Bool.or_eq_true] at J;exact⟨o,rfl,e,he,J.1.1,J.1.2,J.2.imp (fun h=>Nat.eq_of_beq_eq_true h) id⟩
theorem zn {bs:Array Nat} {E:Array Bool} (U:iN ops bs=true) (V:Down ops E):∀ (j k:Nat),j<ops.size→k<ops.size→E.getD j false=true→
  (bs.getD j 0).testBit k=true→E.getD k false=true:=by
 intro j;induction j using Nat.strongRecOn with
 |_ j W=>
  intro k X J Y h;obtain⟨o,Z,e,he,aa,ab,h⟩:=sz U X J h;have O:=V j o Z Y e he aa;rcases h with rfl|h
  ·exact O
  ·exact W e.on ab k (by omega) J O h
theorem sA {bs:Array Nat} {E:Array Bool} (J:iN ops bs=true) (X:Down ops E) {j k:Nat} (O:k<ops.size) (Y:j∈Region.ready .any ops E)
  (h:(bs.getD j 0).testBit k=true):E.getD k false=true:=by
 obtain⟨_,o,U,Z⟩:=mem_ready.1 Y;have aa:=(o4.1 U).1;obtain⟨o',V,e,he,ab,ac,h⟩:=sz J aa O h;rw[U] at V;cases V;have W:=Z e he ab;rcases h with rfl|h
 ·exact W
 ·exact zn J X e.on k (by omega) O W h
theorem Down.set {E:Array Bool} (X:Down ops E) {i:Nat} (Y:i∈Region.ready .any ops E):Down ops (E.setIfInBounds i true):=by
 intro x o J O e he U;by_cases V:x=i
 ·subst V;obtain⟨_,o',W,Z⟩:=mem_ready.1 Y;rw[J] at W;cases W;exact getD_set_true (Z e he U)
 ·rw[getD_set_ne false (Ne.symm V)] at O;exact getD_set_true (X x o J O e he U)
theorem pS {E:Array Bool} {k:Nat} (h:E.getD k true=false):E.getD k false=false:=by
 rcases Nat.lt_or_ge k E.size with h'|h'
 ·simpa[h'] using h
 ·simp[Array.getElem?_eq_none h'] at h
def js (ops:Array W0) (i:Nat):Bool:=match ops[i]? with
 |some o=>gC o
 |none=>false
def jt (bs:Array Nat) (E:List (x2×List (Nat×(x2→Prop)))) (j:Nat) (w':x2):Prop:=∀ g∈E,∀ x∈g.2,h9 bs j x.1=true→Ext g.1 w'∨x.2 w'
theorem pT {bs:Array Nat} {j:Nat} {w':x2}:∀ {l:List (Nat×(x2→Prop))},k2 bs j w' l→ ∀ x∈l,h9 bs j x.1=true→x.2 w'
 |[],_,_,h,_=>by cases h
 |y::l,h,x,J,hu=>by
  unfold k2 at h;cases E:h9 bs j y.1 with
  |true=>
   rw[E] at h;cases J with
   |head=>exact h.1
   |tail _ J=>exact pT h.2 x J hu
  |false=>
   rw[E] at h;cases J with
   |head=>rw[E] at hu;cases hu
   |tail _ J=>exact pT (show k2 bs j w' l from h) x J hu
theorem sB {bs:Array Nat} {j:Nat}:∀ {l:List (Nat×(x2→Prop))},l8 bs j l=false→ ∀ x∈l,h9 bs j x.1=false
 |[],_,_,h=>by cases h
 |y::l,h,x,J=>by
  simp only[l8,V7] at h;cases J with
  |head=>exact h.1
  |tail _ J=>exact sB h.2 x J
theorem pU {bs:Array Nat} {j:Nat} {w':x2} {C:Prop}:∀ {W:List (x2×List (Nat×(x2→Prop)))},j1 bs j w' C W→C∧jt bs W j w'
 |[],h=>⟨h,fun g X=>by cases X⟩
 |g::r,h=>by
  unfold j1 at h;cases hu:l8 bs j g.2 with
  |true=>
   rw[hu] at h;obtain⟨h1,U⟩:=pU h.2;refine⟨h1,fun V E x J O=>?_⟩;cases E with
   |head=>exact h.1.imp id fun h=>pT h x J O
   |tail _ E=>exact U V E x J O
  |false=>
   rw[hu] at h;obtain⟨h1,U⟩:=pU (show j1 bs j w' C r from h);refine⟨h1,fun V E x J O=>?_⟩;cases E with
   |head=>rw[sB hu x J] at O;cases O
   |tail _ E=>exact U V E x J O
def pV (ops:Array W0) (bs:Array Nat) (E:List (x2×List (Nat×(x2→Prop)))) (j:Nat) (w w':x2):Prop:=(js ops j=true→Ext w w')∧(js ops j=false→jt bs E j w')
def gf (r:Option Nat) (P:Y3) (ops:Array W0) (bs:Array Nat) (Q:Exit→Act→x2→Prop):Nat→Array Bool→List (x2×List (Nat×(x2→Prop)))→Act→x2→Prop
 |0,E,_,a,w=>Region.ready .any ops E=[]∧Q .normal a w
 |fuel+1,E,J,a,w=>(Region.ready .any ops E=[]→Q .normal a w)∧
  ∀ i∈Region.ready .any ops E,wpOpIn (di r) 0 P ops Q i (fun a' w'=>pV ops bs J i w w'∧gf r P ops bs Q fuel (E.setIfInBounds i true) J a' w') a w
theorem gf.any {bs:Array Nat}:∀ (fuel:Nat) (E:Array Bool) (J:List (x2×List (Nat×(x2→Prop)))) (a:Act) (w:x2),gf r P ops bs Q fuel E J a w→wpAnyIn (di r) 0 P .any ops Q fuel E a w
 |0,_,_,_,_,h=>h
 |fuel+1,_,_,_,_,h=>⟨h.1,fun i hi=>wpOpIn_mono (fun a' w' h'=>gf.any fuel _ _ a' w' h'.2) (h.2 i hi)⟩
theorem zo {bs:Array Nat} {E:Array Bool} (J:iN ops bs=true) (O:Down ops E) {i j:Nat} {W:W0} (hi:ops[i]? =some W)
  (U:i∈Region.ready .any ops E) (V:j∈Region.ready .any ops E) (X:j≠i):h9 bs j i=true:=by
 have Y:=(o4.1 hi).1;obtain⟨Z,ad,aa,_⟩:=mem_ready.1 V;have ab:=(o4.1 aa).1;have ac:=(mem_ready.1 U).1;simp only[h9,X2,Bool.not_eq_true'];refine⟨?_,?_,?_⟩
 ·cases h:W6 i j with
  |true=>exact absurd (Nat.eq_of_beq_eq_true h).symm X
  |false=>rfl
 ·cases h:(bs.getD j 0).testBit i with
  |true=>have:=sA J O Y V h;rw[pS ac] at this;cases this
  |false=>rfl
 ·cases h:(bs.getD i 0).testBit j with
  |true=>have:=sA J O ab U h;rw[pS Z] at this;cases this
  |false=>rfl
theorem gf.take {bs:Array Nat} (am:iN ops bs=true) (ao:Region.noSelect ops=true) (ap:∀ c a w,¬Q (.panic c) a w) {i:Nat} {J:W0} {v:x1} (hi:ops[i]? =some J) (aq:gC J=true)
  {w0:x2} {Y ev':List (x2×List (Nat×(x2→Prop)))} (ad:∀ j w',jt bs ev' j w'→jt bs Y j w') {st:x2→Prop} (au:iM J=false→ ∀ j w',h9 bs j i=true→jt bs ev' j w'→Ext w0 w'∨st w'):
  ∀ (fuel:Nat) (E:Array Bool) (a:Act) (w:x2),Down ops E→
   (∀ j W,ops[j]? =some W→j≠i→E.getD j true=false→(∀ e∈W.after,Region.binds .any e=true→e.on≠i)→J.apart ops W=true)→
   i∈Region.ready .any ops E→fK P ops J v a (jr J w0 st)→jr J w0 st w→
   gf r P ops bs Q fuel (E.setIfInBounds i true) ev' (a.put J.dst v) w→gf r P ops bs Q (fuel+1) E Y a w:=by
 have ae:=Region.noSelect_spec ao;have av:js ops i=true:=by simp[js,hi,aq]
 have fL:∀ (fuel:Nat) (E:Array Bool) (a:Act) (w:x2),gf r P ops bs Q fuel E ev' a w→gf r P ops bs Q fuel E Y a w:=by
  intro fuel;induction fuel with
  |zero=>intro E a w h;exact h
  |succ fuel aa=>intro E a w h;exact⟨h.1,fun j U=>wpOpIn_mono (fun a' w' h'=>⟨⟨h'.1.1,fun ab=>ad _ _ (h'.1.2 ab)⟩,aa _ a' w' h'.2⟩) (h.2 j U)⟩
 have af:∀ w,pV ops bs Y i w w:=fun w=>⟨fun _=>Ext.refl _,fun h=>by rw[av] at h;cases h⟩;intro fuel;induction fuel with
 |zero=>
  intro E a w _ _ V Z hw H;refine⟨fun h=>(by rw[h] at V;cases V),fun j U=>?_⟩;by_cases O:j=i
  ·subst O;exact Z.go hi hw ⟨af w,fL _ _ _ _ H⟩
  ·have:=ready_mono U O;rw[H.1] at this;cases this
 |succ fuel aa=>
  intro E a w ag ah V Z hw H;refine⟨fun h=>(by rw[h] at V;cases V),fun j U=>?_⟩;by_cases O:j=i
  ·subst O;exact Z.go hi hw ⟨af w,fL _ _ _ _ H⟩
  ·have h1:=H.2 j (ready_mono U O);have hu:=zo am ag hi V U O;obtain⟨ai,W,ac,aw⟩:=mem_ready.1 U;have ax:∀ e∈W.after,Region.binds .any e=true→e.on≠i:=fun e he ay az=>by
    have h1:=aw e he ay;rw[az,pS (mem_ready.1 V).1] at h1;cases h1
   have aA:=zm ac (ah j W ac O ai ax) (fun cs b=>ae i J cs b hi) (fun cs b=>ae j W cs b ac) ap Z h1;have aB:∀ k ok,ops[k]? =some ok→k≠i→(E.setIfInBounds j true).getD k true=false→
     (∀ e∈ok.after,Region.binds .any e=true→e.on≠i)→J.apart ops ok=true:=fun k ok aC aD aj aE=>by
    refine ah k ok aC aD ?_ aE;by_cases ak:j=k
    ·subst ak;exact ai
    ·rw[getD_set_ne true ak] at aj;exact aj
   refine wpOpIn_mono (fun a' w' X=>⟨⟨X.2.1.1,fun ab=>ad _ _ (X.2.1.2 ab)⟩,aa (E.setIfInBounds j true) a' w' (ag.set U) aB (ready_mono V (Ne.symm O)) X.1 ?_ ?_⟩) aA
   ·cases hm:iM J with
    |true=>exact .inl hm
    |false=>
     cases al:js ops j with
     |true=>exact hw.ext (X.2.1.1 al)
     |false=>exact .inr ((au hm j w' hu (X.2.1.2 al)).imp id fun h=>⟨w',h,Ext.refl _⟩)
   ·rw[Array.setIfInBounds_comm _ _ O];exact X.2.2
theorem sC {p:Nat→Prop}:∀ {l:List Nat},pQ p l→ ∀ i∈l,p i
 |[],_,_,h=>by cases h
 |[i],h,j,E=>by cases E with
  |head=>exact h
  |tail _ h=>cases h
 |i::k::l,h,j,E=>by
  obtain⟨h1,J⟩:=h;cases E with
  |head=>exact h1
  |tail _ E=>exact sC J j E
theorem pW:∀ {l:List Nat} {q:Nat},jo ops l=some q→q∈l∧ ∃ o,ops[q]? =some o∧gC o=true
 |[],q,h=>by cases h
 |i::l,q,h=>by
  simp only[jo] at h;cases E:ops[i]? with
  |none=>rw[E] at h;obtain⟨h1,J⟩:=pW h;exact⟨.tail _ h1,J⟩
  |some o=>
   rw[E] at h;simp only at h;cases O:gC o with
   |true=>rw[O] at h;simp only[cond_true,b9] at h;subst h;exact⟨.head _,o,E,O⟩
   |false=>rw[O] at h;obtain⟨h1,J⟩:=pW h;exact⟨.tail _ h1,J⟩
theorem zp {o:W0} {e:Env} {a:Act} {w:x2} {K:Env→(x2→Prop)→Prop} (h:pP P ops o e w K) (E:V6 N e a) (aa:gY N o.dst=true):
  ∃ v st,fK P ops o v a (jr o w st)∧ ∃ O,K O st∧V6 N O (a.put o.dst v):=by
 unfold pP at h;have X:∀ {e:Env},V6 N e a→iK P o e w K→Region.wanted o (yielded ops a.tmps)=true→ ∃ v st,fK P ops o v a (jr o w st)∧ ∃ O,K O st∧V6 N O (a.put o.dst v):=fun E h hw=>by
  obtain⟨v,st,h1,ab,ac,ad⟩:=sw h E aa;exact⟨v,st,.inl ⟨hw,ac,fun w' J=>J.elim (fun hm=>zl hm (h1 w (Ext.refl w))) fun h=>h.elim (h1 w') fun⟨ae,af,ah⟩=>ad ae af w' ah⟩,ab⟩
 have skip:∀ {e:Env},V6 N e a→K (c4 e o.dst .u) (fun _=>True)→Region.wanted o (yielded ops a.tmps)=false→ ∃ v st,fK P ops o v a (jr o w st)∧ ∃ O,K O st∧V6 N O (a.put o.dst v):=fun E h hw=>
  ⟨undef,_,.inr ⟨hw,rfl⟩,_,h,E.put aa rfl⟩
 cases U:o.guard with
 |none=>rw[U] at h;exact X E h (by simp[Region.wanted,U])
 |some ai=>
  obtain⟨j,b⟩:=ai;rw[U] at h;simp only at h;cases W:(ops[j]?).bind (·.dst) with
  |none=>rw[W] at h;exact h.elim
  |some s=>
   rw[W] at h;simp only at h;cases V:look e s with
   |none=>rw[V] at h;exact h.elim
   |some x=>
    rw[V] at h;cases x with
    |b c=>
     simp only at h;have hw:=nA E U W V (c:=c) rfl;cases J:xor c b with
     |true=>rw[J] at h hw;exact skip E h hw
     |false=>rw[J] at h hw;exact X E h hw
    |v y=>
     simp only at h;obtain⟨c,rfl,Y,ag⟩:=h;have hw:=nA E U W V (c:=c) rfl;have Z:=E.lit V (c:=c) rfl;cases c with
     |true=>
      have Y:=Y rfl;cases b with
      |true=>exact X Z Y hw
      |false=>exact skip Z Y hw
     |false=>
      have ag:=ag rfl;cases b with
      |true=>exact skip Z ag hw
      |false=>exact X Z ag hw
    |u=>exact skip E h (sx E U W V)
theorem pX:∀ {l:List Nat},jo ops l=none→ ∀ j∈l,js ops j=false
 |[],_,_,h=>by cases h
 |i::l,h,j,E=>by
  simp only[jo] at h;cases J:ops[i]? with
  |none=>
   rw[J] at h;cases E with
   |head=>simp[js,J]
   |tail _ E=>exact pX h j E
  |some o=>
   rw[J] at h;simp only at h;cases O:gC o with
   |true=>rw[O] at h;cases h
   |false=>
    rw[O] at h;cases E with
    |head=>simp[js,J,O]
    |tail _ E=>exact pX h j E
theorem zq {bs:Array Nat} {same:Bool} {q:Nat} {w:x2} {st:x2→Prop} {E:List (x2×List (Nat×(x2→Prop)))} (U:same=true→ ∃ ks r,E=(w,ks)::r):
  (∀ j w',jt bs (l7 same q w st E) j w'→jt bs E j w')∧(∀ j w',h9 bs j q=true→jt bs (l7 same q w st E) j w'→Ext w w'∨st w')∧ ∃ ks r,l7 same q w st E=(w,ks)::r:=by
 cases same with
 |true=>
  obtain⟨ks,r,rfl⟩:=U rfl;refine⟨fun j w' h g O x J hu=>?_,fun j w' hu h=>h (w,(q,st)::ks) (.head _) (q,st) (.head _) hu,_,_,rfl⟩;cases O with
  |head=>exact h (w,(q,st)::ks) (.head _) x (.tail _ J) hu
  |tail _ O=>exact h g (.tail _ O) x J hu
 |false=>
  refine⟨fun j w' h g O x J hu=>h g (.tail _ O) x J hu,fun j w' hu h=>h (w,[(q,st)]) (.head _) (q,st) (.head _) hu,_,_,rfl⟩
theorem zr {K:Env→x2→Prop} {D:List Nat} {bs:Array Nat} (ao:iN ops bs=true) (ap:Region.noSelect ops=true) (aq:∀ c a w,¬Q (.panic c) a w)
  (ai:∀ o∈ops.toList,∀ t,o.dst=some t→t∈D) (au:j2 N ops.toList=true):
  ∀ (fuel:Nat) (O:Array Bool) (same:Bool) (U:List (x2×List (Nat×(x2→Prop)))) (e:Env) (a:Act) (w:x2),Down ops O→(same=true→ ∃ ks r,U=(w,ks)::r)→
   jp P free ops bs fuel O same U e w K→V6 N e a→
   (∀ a' w',jq N free K D a w a' w'→Q .normal a' w')→gf r P ops bs Q fuel O U a w:=by
 have ad:∀ {j:Nat} {o:W0},ops[j]? =some o→o∈ops.toList:=fun h=>by
  rw[←V9] at h;exact x4 h
 have ok:∀ {j:Nat} {o:W0},ops[j]? =some o→gY N o.dst=true:=fun h=>by
  simp only[j2,List.all_eq_true] at au;exact au _ (ad h)
 intro fuel;induction fuel with
 |zero=>
  intro O same U e a w Y aj h aa Z;unfold jp at h;cases W:Region.ready .any ops O with
  |nil=>rw[W] at h;exact⟨W,Z a w ⟨e,h,aa,eQ.refl _ _,fun _=>b2.refl _ _⟩⟩
  |cons i l=>rw[W] at h;exact h.elim
 |succ fuel ak=>
  intro O same U e a w Y aj h aa Z;unfold jp at h;cases W:Region.ready .any ops O with
  |nil=>
   rw[W] at h;refine⟨fun _=>Z a w ⟨e,h,aa,eQ.refl _ _,fun _=>b2.refl _ _⟩,fun i hi=>?_⟩;rw[W] at hi;cases hi
  |cons i l=>
   rw[W] at h;simp only at h;cases ae:jo ops (i::l) with
   |some q=>
    rw[ae] at h;simp only at h;obtain⟨aA,o,E,av⟩:=pW ae;cases af:Region.free .any ops O q with
    |false=>rw[af] at h;exact h.elim
    |true=>
     rw[af,E] at h;simp only[cond_true] at h;obtain⟨v,st,aw,ag,X,ax⟩:=zp h aa (ok E);have ah:q∈Region.ready .any ops O:=by rw[W];exact aA
     cases hm:iM o with
     |true=>
      rw[hm] at X;refine gf.take ao ap aq E av (w0:=w) (ev':=U) (fun _ _ h=>h) (fun h=>by rw[hm] at h;cases h) fuel O a w Y (Region.free_spec E af) ah aw (.inr (.inl (Ext.refl _))) ?_;exact ak _ same U ag _ w (Y.set ah) aj X ax fun a' w' V=>Z a' w' (V.step (eQ.put a v fun t ab=>ai o (ad E) t ab) fun _=>b2.refl _ _)
     |false=>
      rw[hm] at X;obtain⟨h1,aB,aC⟩:=zq (bs:=bs) (q:=q) (st:=st) aj;refine gf.take ao ap aq E av (w0:=w) (ev':=l7 same q w st U) h1 (fun _=>aB) fuel O a w Y (Region.free_spec E af) ah aw (.inr (.inl (Ext.refl _))) ?_;exact ak _ true _ ag _ w (Y.set ah) (fun _=>aC) X ax fun a' w' V=>Z a' w' (V.step (eQ.put a v fun t ab=>ai o (ad E) t ab) fun _=>b2.refl _ _)
   |none=>
    rw[ae] at h;simp only at h;refine⟨(fun ay=>by rw[W] at ay;cases ay),fun j az=>?_⟩;have al:=az;rw[W] at al;have aD:=pX ae j al;have V:=sC h j al;cases E:ops[j]? with
    |none=>rw[E] at V;exact V.elim
    |some o=>
     rw[E] at V;simp only at V;unfold wpOpIn;simp only[E];have next:∀ am ac,dR N free (fun ag w'=>j1 bs j w' (jp P free ops bs fuel (O.setIfInBounds j true) false U ag w' K) U) o a w am ac→
       pV ops bs U j w ac∧gf r P ops bs Q fuel (O.setIfInBounds j true) U am ac:=by
      rintro am ac ⟨aE,v,X,aF,rfl,aG⟩;obtain⟨X,aH⟩:=pU X;exact⟨⟨fun h=>(by rw[aD] at h;cases h),fun _=>aH⟩,
       ak _ false U aE _ ac (Y.set az) (fun h=>by cases h) X aF fun a' w' V=>Z a' w' (V.step (eQ.put a v fun t ab=>ai o (ad E) t ab) aG)⟩
     rcases sy (r:=r) (Q:=Q) V aa (ok E) with⟨hw,J⟩|⟨hw,J⟩
     ·rw[if_pos hw];exact W0.wpIn_mono next J
     ·rw[hw];exact⟨fun _ _=>trivial,next _ _ J⟩
theorem zs (hm:P.follows .mixedOrders=true) {K:Env→x2→Prop} {D:List Nat} {id:Nat} {e:Env} {a:Act} {w:x2} (O:iN ops (Region.before ops)=true) (U:∀ c a w,¬Q (.panic c) a w)
  (V:∀ o∈ops.toList,∀ t,o.dst=some t→t∈D) (W:j2 N ops.toList=true)
  (h:∀ w',Ext w w'→Ext w' w→cA w w'→pR P free ops e w' K) (X:V6 N e a) (Y:∀ a' w',jq N free K D a w a' w'→Q .normal a' w'):
  (Code.region id ops true).wpIn (di r) 0 P Q a w:=by
 refine wpIn_region_any hm ?_;have h:=h {w with drawn:=w.drawn+1} (nt w _) ⟨u9 _,fun _ _ h _=>h⟩ (l0 w _ (Nat.le_succ _));unfold pR at h;cases E:Region.noSelect ops with
 |false=>rw[E] at h;exact h.elim
 |true=>
  rw[E] at h;refine gf.any _ _ _ _ _ (zr O E U V W ops.size _ false [] e a _ ?_ (fun h=>by cases h) h X fun a' w' Z=>Y a' w' (Z.step (eQ.refl _ _) fun _=>(l0 w _ (Nat.le_succ _)).b));intro x o _ J;rcases Nat.lt_or_ge x ops.size with h'|h'
  ·simp[h'] at J
  ·simp[h'] at J
end
def gD (t:Nat):List Nat→Bool
 |[]=>false
 |s::r=>bif W6 s t then true else gD t r
theorem pY {t:Nat}:∀ {l:List Nat},gD t l=true↔t∈l
 |[]=>by simp[gD]
 |s::r=>by
  simp only[gD];cases h:W6 s t with
  |true=>simp[Nat.eq_of_beq_eq_true h]
  |false=>
   have:=Nat.ne_of_beq_eq_false h;simp[pY (l:=r),Ne.symm this]
def j3:List W0→List Nat
 |[]=>[]
 |o::l=>match o.dst with
  |some d=>d::j3 l
  |none=>j3 l
def tmpsOf:List V5→List Nat
 |[]=>[]
 | .tmp t::l=>t::tmpsOf l
 |_::l=>tmpsOf l
def zt (ops:Array W0) (o:W0):List Nat:=
 match o.guard with
 |some (j,_)=>match (ops[j]?).bind (·.dst) with
  |some s=>[s]
  |none=>[]
 |none=>[]
def nB (D:List Nat):List Nat→List Nat
 |[]=>[]
 |t::r=>bif gD t D then nB D r else t::nB D r
def pZ (D:List Nat):List Nat→List Nat
 |[]=>[]
 |t::r=>bif gD t D then t::pZ D r else pZ D r
def sD (ops:Array W0):List W0→List Nat→List Nat
 |[],_=>[]
 |o::l,D=>nB D (tmpsOf (opsOf o.op)++zt ops o)++sD ops l (match o.dst with
  |some d=>d::D
  |none=>D)
def cG:Code→List Nat
 | .region _ ops _=>j3 ops.toList
 | .seq a b=>cG a++cG b
 | .cond _ a b=>cG a++cG b
 | .block _ c=>cG c
 | .loop c=>cG c
 | .scope c=>cG c
 |_=>[]
def gZ (id:Nat):Code→Nat
 | .seq a b=>gZ id a+gZ id b
 | .cond _ a b=>gZ id a+gZ id b
 | .block _ c=>gZ id c
 | .loop c=>gZ id c
 | .scope c=>gZ id c
 | .exit i=>bif W6 i id then 1 else 0
 | .rangeFunc _ _ _ b=>gZ id b
 |_=>0
def zu (ops:Array W0):Bool:=
 let bs:=Region.before ops;let E:=fun(i:Nat)=>match ops[i]? with|some o=>!(gC o)|none=>false
 (Y1 ops.size).any fun j=>E j&&((Y1 j).any fun i=>E i&&(!((bs.getD j 0).testBit i)&& !((bs.getD i 0).testBit j)))
def ia:Code→Nat
 | .region _ ops E=>bif (E&&zu ops)||ops.any (·.guard.isSome) then 2 else 1
 | .seq a b=>bif W6 (ia a) 0 then 0 else ia b
 | .cond _ a b=>ia a+ia b
 | .block id c=>ia c+gZ id c
 | .loop _=>0
 | .scope c=>ia c
 | .exit _=>0
 | .goto _=>0
 | .ret=>0
 | .refuse _=>0
 |_=>1
def iO:Code→List Nat
 | .region _ ops _=>j3 ops.toList
 | .seq a b=>iO a++iO b
 | .cond _ a b=>bif W6 (ia a) 0 then iO b else bif W6 (ia b) 0 then iO a else pZ (iO a) (iO b)
 | .block id c=>bif W6 (gZ id c) 0 then iO c else[]
 | .scope c=>iO c
 |_=>[]
def reads:Code→List Nat
 | .region _ ops _=>sD ops ops.toList []
 | .seq a b=>reads a++nB (iO a) (reads b)
 | .cond c a b=>tmpsOf [c]++(reads a++reads b)
 | .block _ c=>reads c
 | .loop c=>reads c
 | .scope c=>reads c
 | .rangeFunc f _ a b=>tmpsOf [f]++(reads a++reads b)
 |_=>[]
def hG:Code→Bool
 | .seq a b=>hG a||hG b
 | .cond _ a b=>hG a||hG b
 | .block _ c=>hG c
 | .loop c=>hG c
 | .scope c=>hG c
 | .rangeFunc ..=>true
 |_=>false
def wf (N:Nat):Code→Bool
 | .region _ ops E=>j2 N ops.toList&&(!E||iN ops (Region.before ops))
 | .seq a b=>wf N a&&wf N b
 | .cond _ a b=>wf N a&&wf N b
 | .block _ c=>wf N c
 | .loop c=>wf N c
 | .scope c=>wf N c
 | .rangeFunc _ J a b=>(J.toList.all fun t=>Nat.blt t N)&&(wf N a&&wf N b)
 |_=>true
def j7:Nat→Type→Type
 |0,β=>β
 |n+1,β=>x1→j7 n β
def app {β:Type}:(n:Nat)→j7 n β→List x1→β
 |0,f,_=>f
 |n+1,f,[]=>app n (f undef) []
 |n+1,f,v::r=>app n (f v) r
def lam {β:Type}:(n:Nat)→(List x1→β)→j7 n β
 |0,f=>f []
 |n+1,f=>fun v=>lam n fun r=>f (v::r)
def nC:(n:Nat)→j7 n Prop→Prop
 |0,p=>p
 |n+1,p=>∀ v,nC n (p v)
theorem nD {β:Type}:∀ (n:Nat) (f:List x1→β) (vs:List x1),vs.length=n→app n (lam n f) vs=f vs
 |0,f,[],_=>rfl
 |n+1,f,v::r,h=>by
  simp only[app,lam];exact nD n _ r (by simpa using h)
theorem nE:∀ (n:Nat) (p:j7 n Prop) (vs:List x1),nC n p→app n p vs
 |0,_,_,h=>h
 |n+1,_,[],h=>nE n _ [] (h undef)
 |n+1,_,v::r,h=>nE n _ r (h v)
def zv (n:Nat) (vs:List x1) (w:x2) (B:List x1→x2→(List x1→x2→Prop)→Prop):Prop:=
 ∃ (I:j7 n (x2→Prop)) (E:j7 n (x2→Nat)),app n I vs w∧
  nC n (lam n fun us=>∀ w',app n I us w'→B us w' fun J O=>app n I J O∧app n E J O<app n E us w')
def zw (w:x2) (B:x2→(x2→Prop)→Prop):Prop:=
 ∃ (I:x2→Prop) (E:x2→Nat),I w∧ ∀ w',I w'→B w' fun J=>I J∧E J<E w'
def bV (a:x1) (w:x2) (B:x1→x2→(x1→x2→Prop)→Prop):Prop:=
 ∃ (I:x1→x2→Prop) (E:x1→x2→Nat),I a w∧ ∀ a w',I a w'→B a w' fun a' J=>I a' J∧E a' J<E a w'
def bM (a b:x1) (w:x2) (B:x1→x1→x2→(x1→x1→x2→Prop)→Prop):Prop:=
 ∃ (I:x1→x1→x2→Prop) (E:x1→x1→x2→Nat),I a b w∧ ∀ a b w',I a b w'→B a b w' fun a' J O=>I a' J O∧E a' J O<E a b w'
def k3 (a b c:x1) (w:x2) (B:x1→x1→x1→x2→(x1→x1→x1→x2→Prop)→Prop):Prop:=
 ∃ (I:x1→x1→x1→x2→Prop) (E:x1→x1→x1→x2→Nat),I a b c w∧
  ∀ a b c w',I a b c w'→B a b c w' fun a' J O U=>I a' J O U∧E a' J O U<E a b c w'
def nF (a b c d:x1) (w:x2) (B:x1→x1→x1→x1→x2→(x1→x1→x1→x1→x2→Prop)→Prop):Prop:=
 ∃ (I:x1→x1→x1→x1→x2→Prop) (E:x1→x1→x1→x1→x2→Nat),I a b c d w∧
  ∀ a b c d w',I a b c d w'→B a b c d w' fun a' J O U V=>I a' J O U V∧E a' J O U V<E a b c d w'
def ma (a b c d e:x1) (w:x2) (B:x1→x1→x1→x1→x1→x2→(x1→x1→x1→x1→x1→x2→Prop)→Prop):Prop:=
 ∃ (I:x1→x1→x1→x1→x1→x2→Prop) (E:x1→x1→x1→x1→x1→x2→Nat),I a b c d e w∧ ∀ a b c d e w',I a b c d e w'→B a b c d e w' fun a' J O U V W=>I a' J O U V W∧E a' J O U V W<E a b c d e w'
def zx (a b c d e f:x1) (w:x2) (B:x1→x1→x1→x1→x1→x1→x2→(x1→x1→x1→x1→x1→x1→x2→Prop)→Prop):Prop:=
 ∃ (I:x1→x1→x1→x1→x1→x1→x2→Prop) (E:x1→x1→x1→x1→x1→x1→x2→Nat),I a b c d e f w∧ ∀ a b c d e f w',I a b c d e f w'→B a b c d e f w' fun a' J O U V W X=>I a' J O U V W X∧E a' J O U V W X<E a b c d e f w'
def bR {α:Type} (E:α) (B:α→Prop):Prop:=B E
def sE (w:x2) (K:x2→Prop):Prop:=∀ w',Ext w w'→Ext w' w→K w'
def Over (w:x2) (K:x2→Prop):Prop:=∀ w',Ext w w'→Ext w' w→ej w w'→K w'
def dj (w:x2) (K:x2→Prop):Prop:=∀ w',Ext w w'→Ext w' w→cA w w'→K w'
def hI (e:Env):List Nat→Option (List x1)
 |[]=>some []
 |t::r=>match look e t with
  |some x=>match hI e r with
   |some vs=>some (x.val::vs)
   |none=>none
  |none=>none
def gE:List Nat→List x1→Env→Env
 |t::r,v::vs,e=>(t,.v v)::gE r vs e
 |_,_,e=>e
def iP (D:List Nat):Env→Env
 |[]=>[]
 |(t,x)::r=>bif gD t D then iP D r else (t,x)::iP D r
def mb (N:Nat) (D R:List Nat):List Nat:=(Y1 N).filter fun t=>gD t D&&gD t R
def mc (N:Nat) (D R:List Nat) (e:Env):List Nat:=(Y1 N).filter fun t=>gD t D&&((look e t).isSome&&gD t R)
def gF:Code→Bool
 | .seq a b=>gF a||gF b
 | .cond _ a b=>gF a||gF b
 | .block _ c=>gF c
 | .loop c=>gF c
 | .scope c=>gF c
 | .rangeFunc _ _ a b=>gF a||gF b
 | .ret=>true
 |_=>false
def zy (i:Nat) (l:List Nat):List Nat:=bif gD i l then l else i::l
def nG:List Nat→List Nat→List Nat
 |[],l=>l
 |i::r,l=>zy i (nG r l)
def p0 (i:Nat):List Nat→List Nat
 |[]=>[]
 |j::r=>bif W6 i j then p0 i r else j::p0 i r
def ha:Code→List Nat
 | .seq a b=>nG (ha a) (ha b)
 | .cond _ a b=>nG (ha a) (ha b)
 | .block id c=>p0 id (ha c)
 | .loop c=>ha c
 | .scope c=>ha c
 | .rangeFunc _ _ a b=>nG (ha a) (ha b)
 | .exit i=>[i]
 |_=>[]
def md:List (Nat×(x2→Prop))→Nat→x2→Prop
 |[],_,_=>False
 |(j,k)::r,i,w=>(i=j∧k w)∨md r i w
def p1 (K:Nat→x2→Prop):List Nat→List (Nat×(x2→Prop))
 |[]=>[]
 |i::r=>(i,fun w=>K i w)::p1 K r
theorem sF {K:Nat→x2→Prop}:∀ {l:List Nat} {i:Nat} {w:x2},md (p1 K l) i w→K i w
 |[],_,_,h=>h.elim
 |j::r,i,w,h=>by
  rcases h with⟨rfl,h⟩|h
  ·exact h
  ·exact sF h
section
variable (P:Y3)
def me {U:Type} (G:Bool) (g:FuncId) (cap:List x1) (Z:U) (aa:U→Prop) (ab:U→List x1→U→x2→Prop) (X:x2→Prop):Prop:=
 Enters P g∧ ∀ (l:Nat) (O V:U→x2→Prop) (w:x2),
  (∀ k E J,Ext E J→b2 w.heap.size E J→O k E→O k J)→(∀ k E J,Ext E J→b2 w.heap.size E J→V k E→V k J)→
  (∀ k Y vs w',X w'→ab k vs Y w'→O k w'→kZ P l vs w' fun v W=>(v= .bool true∧X W∧O Y W∧(G=true→ej w' W))∨(v= .bool false∧V k W))→
  X w→O Z w→fh P g (.func (.yield l) #[] #[]::cap) w fun _ w'=>(∃ k,aa k∧O k w')∨ ∃ k,V k w'
def p2 (G:Bool) (g:FuncId) (cap:List x1) (n:Nat) (X:Nat→List x1→x2→Prop) (W:x2→Prop):Prop:=
 Enters P g∧ ∀ (l:Nat) (O U:Nat→x2→Prop) (w:x2),
  (∀ k E J,Ext E J→b2 w.heap.size E J→O k E→O k J)→(∀ k E J,Ext E J→b2 w.heap.size E J→U k E→U k J)→
  (∀ k vs w',k<n→W w'→X k vs w'→O k w'→kZ P l vs w' fun v V=>(v= .bool true∧W V∧O (k+1) V∧(G=true→ej w' V))∨(v= .bool false∧U k V))→
  W w→O 0 w→fh P g (.func (.yield l) #[] #[]::cap) w fun _ w'=>O n w'∨ ∃ k,k<n∧U k w'
abbrev k4 (g:FuncId) (cap:List x1) (n:Nat) (E:Nat→List x1→x2→Prop) (J:x2→Prop):Prop:=p2 P false g cap n E J
def zz (aa:x1) (W:Nat) (w:x2) (B:List x1→x2→(Exit→x2→Prop)→Prop) (ab ac:x2→Prop) (ad:List (Nat×(x2→Prop))):Prop:=
 ∃ (E:Type) (G:Bool) (g:FuncId) (cap:Array x1) (Y:E) (Z:E→Prop) (X:E→List x1→E→x2→Prop) (J:x2→Prop) (I:E→x2→Prop) (O:E→Exit→x2→Prop),
  aa= .func (.func g) #[] cap∧me P G g cap.toList Y Z X J∧(∀ k vs U w,X k vs U w→vs.length=W)∧
  (∀ w w',Ext w w'→J w→J w')∧(∀ k w w',Ext w w'→I k w→I k w')∧(∀ k ex w w',Ext w w'→O k ex w→O k ex w')∧
  J w∧I Y w∧
  nC W (lam W fun vs=>∀ k U w',J w'→X k vs U w'→I k w'→B vs w' fun ex V=>match ex with
   | .normal=>J V∧I U V∧(G=true→ej w' V)
   |ex=>O k ex V)∧
  (∀ k w',Z k→I k w'→ab w')∧(∀ k w',O k .ret w'→ac w')∧(∀ k i w',O k (.exit i) w'→md ad i w')
def zA (Z:x1) (w:x2) (B:x1→x2→(Exit→x2→Prop)→Prop) (aa ab:x2→Prop) (ac:List (Nat×(x2→Prop))):Prop:=
 ∃ (E:Type) (G:Bool) (g:FuncId) (cap:Array x1) (X:E) (Y:E→Prop) (W:E→List x1→E→x2→Prop) (J:x2→Prop) (I:E→x2→Prop) (O:E→Exit→x2→Prop),
  Z= .func (.func g) #[] cap∧me P G g cap.toList X Y W J∧(∀ k vs U w,W k vs U w→vs.length=1)∧
  (∀ w w',Ext w w'→J w→J w')∧(∀ k w w',Ext w w'→I k w→I k w')∧(∀ k ex w w',Ext w w'→O k ex w→O k ex w')∧
  J w∧I X w∧
  (∀ a,∀ k U w',J w'→W k [a] U w'→I k w'→B a w' fun ex V=>match ex with
   | .normal=>J V∧I U V∧(G=true→ej w' V)
   |ex=>O k ex V)∧
  (∀ k w',Y k→I k w'→aa w')∧(∀ k w',O k .ret w'→ab w')∧(∀ k i w',O k (.exit i) w'→md ac i w')
def zB (Z:x1) (w:x2) (B:x1→x1→x2→(Exit→x2→Prop)→Prop) (aa ab:x2→Prop) (ac:List (Nat×(x2→Prop))):Prop:=
 ∃ (E:Type) (G:Bool) (g:FuncId) (cap:Array x1) (X:E) (Y:E→Prop) (W:E→List x1→E→x2→Prop) (J:x2→Prop) (I:E→x2→Prop) (O:E→Exit→x2→Prop),
  Z= .func (.func g) #[] cap∧me P G g cap.toList X Y W J∧(∀ k vs U w,W k vs U w→vs.length=2)∧
  (∀ w w',Ext w w'→J w→J w')∧(∀ k w w',Ext w w'→I k w→I k w')∧(∀ k ex w w',Ext w w'→O k ex w→O k ex w')∧
  J w∧I X w∧
  (∀ a b,∀ k U w',J w'→W k [a,b] U w'→I k w'→B a b w' fun ex V=>match ex with
   | .normal=>J V∧I U V∧(G=true→ej w' V)
   |ex=>O k ex V)∧
  (∀ k w',Y k→I k w'→aa w')∧(∀ k w',O k .ret w'→ab w')∧(∀ k i w',O k (.exit i) w'→md ac i w')
theorem p2.s {P:Y3} {G:Bool} {g:FuncId} {cap:List x1} {n:Nat} {O:Nat→List x1→x2→Prop} {E:x2→Prop} (h:p2 P G g cap n O E):
  me P G g cap 0 (fun k=>k=n) (fun k vs U w=>k<n∧U=k+1∧O k vs w) E:=by
 refine⟨h.1,fun l V W w X Y Z hE aa=>?_⟩;have:=h.2 l V (fun k w=>W k w) w X Y (fun k vs w' ab hac ad ae=>Z k (k+1) vs w' hac ⟨ab,rfl,ad⟩ ae) hE aa;cases this with
 |code h1 af=>exact .code h1 (af.mono fun _ _ ⟨v,ag,J⟩=>⟨v,ag,J.elim (fun h=>.inl ⟨n,rfl,h⟩) (fun⟨k,_,h⟩=>.inr ⟨k,h⟩)⟩)
 |ext v w' h1 J=>exact .ext v w' h1 (J.elim (fun h=>.inl ⟨n,rfl,h⟩) (fun⟨k,_,h⟩=>.inr ⟨k,h⟩))
def dm (N:Nat) (free:dY):Code→List Nat→Env→x2→(Exit→Env→x2→Prop)→Prop
 | .skip,_,e,w,K=>K .normal e w
 | .label _,_,e,w,K=>K .normal e w
 | .ret,_,e,w,K=>K .ret e w
 | .exit i,_,e,w,K=>K (.exit i) e w
 | .region _ ops U,_,e,w,K=>
  bif U then dj w fun w'=>pR P free ops e w' (K .normal)
  else k1 P free ops ops.toList e w (K .normal)
 | .seq x y,rd,e,w,K=>
  bif Nat.ble 2 (ia x) then
   bR (lam (mb N (cG x) (reads y++rd)).length fun vs=>fun w'=>dm N free y rd (gE (mb N (cG x) (reads y++rd)) vs (iP (cG x) e)) w' K)
    fun V=>dm N free x (reads y++rd) e w fun ex E w'=>match ex with
     | .normal=>match hI E (mb N (cG x) (reads y++rd)) with
      |some vs=>app (mb N (cG x) (reads y++rd)).length V vs w'
      |none=>False
     |ex=>K ex E w'
  else dm N free x (reads y++rd) e w fun ex E w'=>match ex with
   | .normal=>dm N free y rd E w' K
   |ex=>K ex E w'
 | .cond c x y,rd,e,w,K=>
  match ds e c with
  |some (.b true)=>dm N free x rd e w K
  |some (.b false)=>dm N free y rd e w K
  |some (.v v)=>Split v (dm N free x rd e w K) (dm N free y rd e w K)
  |some .u=>False
  |none=>False
 | .block id c,rd,e,w,K=>dm N free c rd e w fun ex E w'=>match ex with
  | .exit i=>bif W6 i id then K .normal E w' else K (.exit i) E w'
  |ex=>K ex E w'
 | .loop c,rd,e,w,K=>
  match hI e (mc N (cG c) (reads c++rd) e) with
  |some vs=>
   zv (mc N (cG c) (reads c++rd) e).length vs w fun us w' k=>
    dm N free c (reads c++rd) (gE (mc N (cG c) (reads c++rd) e) us (iP (cG c) e)) w' fun ex E J=>match ex with
     | .normal=>match hI E (mc N (cG c) (reads c++rd) e) with
      |some W=>k W J
      |none=>False
     |ex=>K ex E J
  |none=>False
 | .scope c,rd,e,w,K=>dm N free c rd e w K
 | .rangeFunc f O X body,_,e,w,K=>
  bif free.1 then False else
  match ds e f with
  |some Y=>
   zz P Y.val O.size w
    (fun vs w' k=>dm N free X (reads body) (gE O.toList.reverse vs.reverse e) w' fun ex E J=>match ex with
     | .normal=>Over J fun Z=>dm N free body [] E Z fun ex _ aa=>k ex aa
     |_=>False)
    (fun w'=>K .normal e w') (bif gF body then fun w'=>K .ret e w' else fun _=>False) (p1 (fun i w'=>K (.exit i) e w') (ha body))
  |none=>False
 | .goto _,_,_,_,_=>False
 | .refuse _,_,_,_,_=>False
end
theorem nH {n:Nat} {w0 w:x2} (h:b2 n w0 w) {l:Nat} (V:w0.heap.size≤l) (o:Obj):b2 n w0 (w.putObj l o):=
 ⟨h.os,h.tape,h.output,by simpa using h.size,fun r x E J=>by
  have O:=(o4.1 E).1;rw[x2.putObj_heap_other (by omega)];exact h.aW r x E J,fun r x U E J=>by
  have O:=(o4.1 E).1;rw[x2.putObj_heap_other (by omega)];exact h.old r x U E J⟩
theorem sG {w0 w:x2} (h:ej w0 w) {l:Nat} {J:Obj} (U:w.heap[l]? =some J) (V:pI J=false) (o:Obj):ej w0 (w.putObj l o):=fun r x W E=>by
 have h1:=h r x W E;by_cases O:r=l
 ·subst O;rw[U] at h1;cases h1;rw[V] at E;cases E
 ·rw[x2.putObj_heap_other O];exact h1
theorem mf {w:x2} {l:Nat} {J:Obj} (V:w.heap[l]? =some J) (W:fJ J=false) (o:Obj):Ext w (w.putObj l o):=
 ⟨by simp,fun r x E O=>by
  by_cases U:r=l
  ·subst U;rw[V] at E;cases E;rw[W] at O;cases O
  ·rw[x2.putObj_heap_other U];exact E⟩
theorem sH {w:x2} {l:Nat} {o:Obj} (U:fJ o=false):Ext (w.putObj l o) w:=
 ⟨by simp,fun r x E J=>by
  by_cases O:r=l
  ·subst O;rcases Nat.lt_or_ge r w.heap.size with h|h
   ·rw[x2.putObj_heap_same h] at E;cases E;rw[U] at J;cases J
   ·rw[Array.getElem?_eq_none (by simpa using h)] at E;cases E
  ·rw[x2.putObj_heap_other O] at E;exact E⟩
theorem k5 (w:x2) (o:Obj):Ext w (w.alloc o):=l1 w o
theorem k6 (w:x2) (o:Obj):cA w (w.alloc o):=l2 w o
def hJ (D:Nat):Deferred:={target:=.collected D,args:=#[]}
def iQ (w:x2) (J:List Deferred):Prop:=∃ E:List Nat,J=E.map hJ∧E.Nodup∧ ∀ D∈E,w.heap[D]? =some (.deferred (some []))
theorem iQ.cR {n:Nat} {w w':x2} {E:List Deferred} (h:iQ w E) (J:b2 n w w'):iQ w' E:=by
 obtain⟨O,h1,U,V⟩:=h;exact⟨O,h1,U,fun D W=>J.aW D _ (V D W) rfl⟩
section
variable {P:Y3} {N:Nat}
def zC (w:x2) (J O:List Deferred):Prop:=∃ E:List Nat,O=E.map hJ++J∧ ∀ D∈E,w.heap.size≤D
def eR (n:Nat) (w:x2) (J:List Deferred) (w':x2) (E:List Deferred):Prop:=b2 n w w'∧iQ w' E∧zC w J E
theorem eR.refl {n:Nat} {w:x2} {E:List Deferred} (h:iQ w E):eR n w E w E:=⟨b2.refl _ _,h,[],rfl,fun _ h=>by cases h⟩
theorem eR.trans {n:Nat} {w E w':x2} {J O U:List Deferred} (h:eR n w J E O) (k:eR n E O w' U):eR n w J w' U:=by
 obtain⟨V,ad,W,a3,a4⟩:=h;obtain⟨X,Y,Z,aa,ab⟩:=k;refine⟨V.trans X,Y,Z++W,by simp[aa,a3],fun D ac=>?_⟩;rcases p9.1 ac with h|h
 ·exact Z5 V.size (ab D h)
 ·exact a4 D h
theorem eR.same {n:Nat} {w w':x2} {E:List Deferred} (h:iQ w E) (J:b2 n w w'):eR n w E w' E:=⟨J,h.cR J,[],rfl,fun _ h=>by cases h⟩
def ib:Exit→Bool
 | .panic _=>false
 | .outgrown=>false
 | .goto _=>false
 |_=>true
def ju (N:Nat) (free:dY) (J:Bool) (K:Exit→Env→x2→Prop) (D:List Nat) (a:Act) (w:x2) (ex:Exit) (a':Act) (w':x2):Prop:=
 ib ex=true∧ ∃ E,K ex E w'∧V6 N E a'∧(∀ t,t∉D→a'.tmps.getD t undef=a.tmps.getD t undef)∧(J=true→a'.defers=a.defers)∧
  (free.1=false→eR free.2 w a.defers w' a'.defers)
theorem ju.step {free:dY} {J O:Bool} {K:Exit→Env→x2→Prop} {D U:List Nat} {a E a':Act} {w V w':x2} {ex:Exit} (h:ju N free O K U E V ex a' w')
  (X:∀ t,t∈U→t∈D) (Y:∀ t,t∉D→E.tmps.getD t undef=a.tmps.getD t undef) (Z:J=true→O=true) (ag:J=true→E.defers=a.defers)
  (aa:free.1=false→eR free.2 w a.defers V E.defers):ju N free J K D a w ex a' w':=by
 obtain⟨ab,ac,h1,ad,ae,af,ah⟩:=h;exact⟨ab,ac,h1,ad,fun t W=>(ae t fun h=>W (X t h)).trans (Y t W),fun h=>(af (Z h)).trans (ag h),fun h=>(aa h).trans (ah h)⟩
theorem nI {D:List Nat} {t:Nat} {x:dl}:∀ {e:Env},look (iP D e) t=some x→look e t=some x∧t∉D
 |[],h=>by cases h
 |(s,y)::r,h=>by
  simp only[iP] at h;cases hm:gD s D with
  |true=>
   rw[hm] at h;simp only[cond_true] at h;obtain⟨h1,J⟩:=nI h;refine⟨?_,J⟩;simp only[look];cases E:W6 s t with
   |true=>exact absurd (pY.1 hm) (by rw[Nat.eq_of_beq_eq_true E];exact J)
   |false=>exact h1
  |false=>
   rw[hm] at h;simp only[cond_false,look] at h ⊢;cases E:W6 s t with
   |true=>
    rw[E] at h;refine⟨h,fun O=>?_⟩;rw[←Nat.eq_of_beq_eq_true E] at O;rw[pY.2 O] at hm;cases hm
   |false=>
    rw[E] at h;exact nI h
theorem p3 {a:Act} {e:Env}:∀ {S:List Nat} {vs:List x1},V6 N e a→(∀ p∈S.zip vs,a.tmps.getD p.1 undef=p.2)→V6 N (gE S vs e) a
 |[],_,h,_=>by simpa[gE] using h
 |t::r,[],h,_=>by simpa[gE] using h
 |t::r,v::vs,h,O=>by
  have U:=p3 (S:=r) (vs:=vs) h fun p V=>O p (by simp[V]);refine⟨U.1,fun s x E=>?_⟩;simp only[gE,look] at E;cases J:W6 t s with
  |true=>
   rw[J] at E;simp only[cond_true,b9] at E;subst E;rw[←Nat.eq_of_beq_eq_true J];exact O (t,v) (by simp)
  |false=>rw[J] at E;exact U.2 s x E
theorem nJ {e:Env} {a:Act} (O:V6 N e a):∀ {S:List Nat} {vs:List x1},hI e S=some vs→vs.length=S.length∧ ∀ p∈S.zip vs,a.tmps.getD p.1 undef=p.2
 |[],vs,h=>by simp[hI] at h;subst h;simp
 |t::r,vs,h=>by
  simp only[hI] at h;cases J:look e t with
  |none=>rw[J] at h;cases h
  |some x=>
   rw[J] at h;simp only at h;cases ac:hI e r with
   |none=>rw[ac] at h;cases h
   |some us=>
    rw[ac] at h;simp only[b9] at h;subst h;obtain⟨h1,U⟩:=nJ O ac;refine⟨by simp[h1],fun p E=>?_⟩;simp only[List.zip_cons_cons,V8] at E;rcases E with rfl|E
    ·exact O.2 t x J
    ·exact U p E
theorem zD {a a':Act} {e E:Env} {D:List Nat} (J:V6 N e a) (O:V6 N E a') (U:∀ t,t∉D→a'.tmps.getD t undef=a.tmps.getD t undef):V6 N (iP D e) a':=
 ⟨O.1,fun t x h=>by
  obtain⟨h1,V⟩:=nI h;rw[U t V];exact J.2 t x h1⟩
theorem zE {o:W0} {t:Nat} (E:o.dst=some t) (l:List W0) (hm:o∈l):t∈j3 l:=by
 induction l with
 |nil=>cases hm
 |cons o' l J=>
  simp only[j3];rcases V8.1 hm with h|h
  ·rw[←h,E];simp
  ·have:=J h;cases o'.dst with
   |none=>exact this
   |some d=>exact .tail _ this
theorem sI {free:dY} {J:Bool} {K:Exit→Env→x2→Prop} {D:List Nat} {a a':Act} {w w':x2} (O:free.1=false→iQ w a.defers) (h:jq N free (K .normal) D a w a' w'):
  ju N free J K D a w .normal a' w':=by
 obtain⟨U,h1,V,E,W⟩:=h;exact⟨rfl,U,h1,V,E.2,fun _=>E.1,fun ag=>by rw[E.1];exact eR.same (O ag) (W ag)⟩
theorem sJ:∀ (E:List Nat) (vs:List x1) (p:Nat) (v:x1) (e:Env),E.length=vs.length→gE (E++[p]) (vs++[v]) e=gE E vs ((p,.v v)::e)
 |[],[],_,_,_,_=>rfl
 |[],_::_,_,_,_,h=>by simp at h
 |_::_,[],_,_,_,h=>by simp at h
 |q::E,u::vs,p,v,e,h=>by
  simp only[List.cons_append,gE];rw[sJ E vs p v e (by simpa using h)]
theorem sK:∀ (E:List Nat) (vs:List x1) (J:Array x1) (e:Env),E.length=vs.length→(E.all fun t=>Nat.blt t N)=true→V6 N e {tmps:=J,defers:=[]}→
  V6 N (gE E.reverse vs.reverse e) {tmps:=(E.zip vs).foldl (fun J (p:Nat×x1)=>J.setIfInBounds p.1 p.2) J,defers:=[]}
 |[],[],_,_,_,_,h=>h
 |[],_::_,_,_,h,_,_=>by simp at h
 |_::_,[],_,_,h,_,_=>by simp at h
 |p::E,v::vs,J,e,V,O,h=>by
  have U:E.length=vs.length:=by simpa using V
  simp only[List.all_cons,X2] at O;simp only[List.zip_cons_cons,List.foldl_cons,List.reverse_cons];rw[sJ _ _ _ _ _ (by simpa using U)];exact sK E vs _ _ U O.2 (h.put (d:=some p) (x:=.v v) (v:=v) O.1 rfl)
def gG (free:dY) (c:Code):Bool:=free.1|| !hG c
theorem sL:∀ f a b:Bool,(f|| !(a||b))=true→(f|| !a)=true:=by decide
theorem sM:∀ f a b:Bool,(f|| !(a||b))=true→(f|| !b)=true:=by decide
def exitCode:Exit→Option Code
 | .ret=>some .ret
 | .exit id=>some (.exit id)
 |_=>none
end
section
variable {P:Y3} {N:Nat}
def Sound (P:Y3) (N:Nat) (c:Code):Prop:=
 ∀ (free:dY) (r:Option Nat) (rd:List Nat) (e:Env) (a:Act) (w:x2) (K:Exit→Env→x2→Prop) (Q:Exit→Act→x2→Prop),
  wf N c=true→(∀ l,r=some l→free.1=false∧ ∃ E,w.heap[l]? =some (.loop E))→(free.1=false→iQ w a.defers)→
  dm P N free c rd e w K→V6 N e a→(∀ ex a' w',ju N free (gG free c) K (cG c) a w ex a' w'→Q ex a' w')→(∀ J a w,¬Q (.panic J) a w)→
  c.wpIn (di r) 0 P Q a w
theorem zF {x y:Code} (J:Sound P N x) (ay:Sound P N y):Sound P N (.seq x y):=by
 intro free r rd e a w K Q ad ak az h al am ao;simp only[wf,X2] at ad;have ap:∀ t,t∈cG x→t∈cG (.seq x y):=fun t W=>by simp[cG,W]
 have aA:∀ t,t∈cG y→t∈cG (.seq x y):=fun t W=>by simp[cG,W]
 have aq:gG free (.seq x y)=true→gG free x=true:=fun h=>sL _ _ _ h;have aB:gG free (.seq x y)=true→gG free y=true:=fun h=>sM _ _ _ h;refine wpIn_seq ?_;have au:∀ (O:Env) (U:Act) (E:x2),dm P N free y rd O E K→V6 N O U→(∀ t,t∉cG x→U.tmps.getD t undef=a.tmps.getD t undef)→
   (gG free (.seq x y)=true→U.defers=a.defers)→(free.1=false→eR free.2 w a.defers E U.defers)→y.wpIn (di r) 0 P Q U E:=by
  intro O U E h1 X Y ag V;refine ay free r rd O U E K Q ad.2 ?_ (fun h=>(V h).2.1) h1 X ?_ ao
  ·intro l aC;obtain⟨av,aD,ab⟩:=ak l aC;exact⟨av,aD,(V av).1.aW _ _ ab rfl⟩
  ·intro ex a' w' aa;exact am ex a' w' (aa.step aA (fun t W=>Y t fun h=>W (ap t h)) aB ag V)
 have aw:∀ (Z:Exit→Env→x2→Prop),dm P N free x (reads y++rd) e w Z→
   (∀ O U E,ju N free (gG free x) Z (cG x) a w .normal U E→V6 N O U→Z .normal O E→(∀ t,t∉cG x→U.tmps.getD t undef=a.tmps.getD t undef)→
    (gG free (.seq x y)=true→U.defers=a.defers)→(free.1=false→eR free.2 w a.defers E U.defers)→y.wpIn (di r) 0 P Q U E)→
   (∀ ex O E,ex≠ .normal→Z ex O E→K ex O E)→x.wpIn (di r) 0 P (Exit.then (y.wpIn (di r) 0 P Q) Q) a w:=by
  intro Z ac V aE;refine J free r _ e a w Z _ ad.1 ak az ac al ?_ ?_
  ·intro ex U E aa;cases ex with
   |normal=>
    have aF:=aa;obtain⟨ab,O,h1,ae,af,ah,ai⟩:=aa;exact V O U E aF ae h1 af (fun h=>ah (aq h)) ai
   |_=>
    obtain⟨ab,O,h1,ae,af,ah,ai⟩:=aa;refine am _ U E ⟨ab,O,aE _ O E (by simp) h1,ae,fun t W=>af t fun h=>W (ap t h),fun h=>ah (aq h),ai⟩
  ·intro aG a w aH;exact ao aG a w aH
 simp only[dm] at h;cases ax:Nat.ble 2 (ia x) with
 |false=>
  rw[ax] at h;refine aw _ h (fun O U E _ X h1 Y ag V=>au O U E h1 X Y ag V) ?_;intro ex O E aj h1;cases ex <;> first|exact absurd rfl aj|exact h1
 |true=>
  rw[ax] at h;refine aw _ h (fun O U E _ X h1 Y ag V=>?_) ?_
  ·simp only at h1;cases ac:hI O (mb N (cG x) (reads y++rd)) with
   |none=>rw[ac] at h1;exact h1.elim
   |some vs=>
    rw[ac] at h1;obtain⟨aI,aJ⟩:=nJ X ac;simp only at h1;rw[nD _ _ _ aI] at h1;exact au _ U E h1 (p3 (zD al X Y) aJ) Y ag V
  ·intro ex O E aj h1;cases ex <;> first|exact absurd rfl aj|exact h1
theorem zG {c:Code} (ax:Sound P N c):Sound P N (.loop c):=by
 intro free r rd e a w K Q al ay az h ab aA aB;simp only[wf] at al;simp only[dm] at h;generalize aP:mc N (cG c) (reads c++rd) e=S at h;cases ac:hI e S with
 |none=>rw[ac] at h;exact h.elim
 |some vs=>
  rw[ac] at h;simp only at h;obtain⟨I,aC,U,aD⟩:=h;obtain⟨aE,aF⟩:=nJ ab ac;let Inv:Act→x2→Prop:=fun E J=>∃ us,us.length=S.length∧app S.length I us J∧(∀ p∈S.zip us,E.tmps.getD p.1 undef=p.2)∧E.tmps.size=N∧
   (∀ t,t∉cG c→E.tmps.getD t undef=a.tmps.getD t undef)∧(gG free c=true→E.defers=a.defers)∧(free.1=false→eR free.2 w a.defers J E.defers)
  let V:Act→List x1:=fun E=>S.map fun t=>E.tmps.getD t undef;have am:∀ (E:Act) (us:List x1),us.length=S.length→(∀ p∈S.zip us,E.tmps.getD p.1 undef=p.2)→V E=us:=by
   intro E us W X;apply List.ext_getElem
   ·simp[V,W]
   ·intro i h1 O;have hi:i<S.length:=by simpa[V] using h1
    have aG:(S[i],us[i])∈S.zip us:=by
     have:=List.getElem_mem (l:=S.zip us) (n:=i) (by simp[List.length_zip,W,hi]);simpa using this
    simpa[V] using X _ aG
  refine wpIn_loop Inv (fun E J=>app S.length aC (V E) J) ⟨vs,aE,U,aF,ab.1,fun _ _=>rfl,fun _=>rfl,fun ag=>eR.refl (az ag)⟩ ?_;rintro E J ⟨us,W,aH,X,aI,ao,ag,Y⟩;have Z:=nE S.length _ us aD;rw[nD _ _ _ W] at Z;have Z:=Z J aH;have aJ:V6 N (gE S us (iP (cG c) e)) E:=by
   refine p3 (a:=E) (e:=iP (cG c) e) ⟨aI,fun t x aa=>?_⟩ X;obtain⟨h1,O⟩:=nI aa;rw[ao t O];exact ab.2 t x h1
  refine ax free r _ _ E J _ _ al ?_ (fun h=>(Y h).2.1) Z aJ ?_ ?_
  ·intro l aK;obtain⟨ap,aL,U⟩:=ay l aK;exact⟨ap,aL,(Y ap).1.aW _ _ U rfl⟩
  ·intro ex ad aM ae;have aq:∀ t,t∉cG c→ad.tmps.getD t undef=a.tmps.getD t undef:=by
    obtain⟨_,_,_,_,af,_,_⟩:=ae;exact fun t aa=>(af t aa).trans (ao t aa)
   cases ex with
   |normal=>
    obtain⟨U,ah,h1,O,af,ai,aj⟩:=ae;simp only at h1;cases ak:hI ah S with
    |none=>rw[ak] at h1;exact h1.elim
    |some au=>
     rw[ak] at h1;obtain⟨av,aw⟩:=nJ O ak;refine⟨⟨au,av,h1.1,aw,O.1,aq,fun h=>(ai h).trans (ag h),fun h=>(Y h).trans (aj h)⟩,?_⟩;rw[am E us W X,am ad au av aw];exact h1.2
   |_=>
    obtain⟨U,ah,h1,O,af,ai,aj⟩:=ae;exact aA _ ad aM ⟨U,ah,h1,O,aq,fun h=>(ai h).trans (ag h),fun h=>(Y h).trans (aj h)⟩
  ·intro aN a w aO;exact aB aN a w aO
theorem zH {f:V5} {ad:Array Tmp} {ak body:Code} (bj:Sound P N ak) (ay:Sound P N body):Sound P N (.rangeFunc f ad ak body):=by
 intro free r rd e a w K Q aX az bk h ap bl b7;simp only[wf,X2] at aX;obtain⟨bm,bn,bo⟩:=aX;simp only[dm] at h;obtain⟨fr,b⟩:=free;cases fr with
 |true=>exact h.elim
 |false=>
  simp only[cond_false] at h;cases ag:ds e f with
  |none=>rw[ag] at h;exact h.elim
  |some b8=>
   rw[ag] at h;obtain⟨aY,G,g,cap,b9,ca,cb,aH,I,aI,bp,⟨aZ,bq⟩,br,ha1,aA,aJ,hbt,bu,bw,bx,bz,bA⟩:=h;have bB:∀ k ex w',ib ex=true→ex≠ .normal→aI k ex w'→K ex e w':=by
    intro k ex w' aq aK J;cases ex with
    |normal=>exact absurd rfl aK
    |ret=>
     have:=bz k w' J;cases az:gF body with
     |true=>rw[az] at this;exact this
     |false=>rw[az] at this;exact this.elim
    |exit i=>exact sF (bA k i w' J)
    |_=>cases aq
   have bC:a.eval f= .func (.func g) #[] cap:=by rw[ap.ds ag];exact bp
   refine wpIn_rangeFunc ?_;intro fn _;obtain⟨D,mark,l,Z,O,bD,W,bE,aL,aB,bF,aC⟩:∃ (D:Nat) (mark:List Deferred) (l:Nat) (Z:x2) (O:LoopState→Option Code→Loop),
     (Instr.enterLoop fn a.tmps ad ak body (di r).round).run P w= .ok (l,mark) Z∧
     O=(fun st bG=>{state:=st,pending:=bG,fn,tmps:=a.tmps,params:=ad,assign:=ak,body,defers:=D})∧
     Z.heap[l]? =some (.loop (O .ready none))∧(mark=[]∨(mark=[hJ D]∧Z.heap[D]? =some (.deferred (some []))∧w.heap.size≤D∧D≠l))∧Ext w Z∧b2 b w Z∧w.heap.size≤l:=by
    cases r with
    |none=>
     refine⟨w.heap.size,[hJ w.heap.size],w.heap.size+1,_,_,run_enterLoop_outer _ _ _ _ _,rfl,?_,.inr ⟨rfl,?_,u9 _,by omega⟩,?_,?_,by omega⟩
     ·have:=x2.alloc_heap_new (w.alloc (.deferred (some []))) (.loop {state:=.ready,pending:=none,fn,tmps:=a.tmps,params:=ad,assign:=ak,body,defers:=w.heap.size});rwa [x2.size_alloc] at this
     ·exact (Below.heap_alloc _ _ _ (by simp)).trans (x2.alloc_heap_new w _)
     ·exact (k5 w _).trans (k5 _ _)
     ·exact ((k6 w _).trans (k6 _ _)).b
    |some bH=>
     obtain⟨_,bI,aa⟩:=az bH rfl;exact⟨bI.defers,[],w.heap.size,_,_,run_enterLoop_inner aa _ _ _ _ _,rfl,x2.alloc_heap_new w _,.inl rfl,k5 _ _,(k6 _ _).b,u9 _⟩
   let ae:x2→Prop:=fun E=>mark=[]∨(mark=[hJ D]∧E.heap[D]? =some (.deferred (some []))∧w.heap.size≤D∧D≠l);have au:∀ {m:Nat} {A B:x2},b2 m A B→ae A→ae B:=fun ab h=>h.imp id fun⟨h1,U,V⟩=>⟨h1,ab.aW _ _ U rfl,V⟩;have aD:∀ {A:x2} (o:Obj),ae A→ae (A.putObj l o):=fun o h=>h.imp id fun⟨h1,U,V,Y⟩=>⟨h1,(x2.putObj_heap_other Y).trans U,V,Y⟩;let a2:aY→x2→Prop:=fun k E=>I k E∧E.heap[l]? =some (.loop (O .ready none))∧b2 b w E∧ae E;let a6:aY→x2→Prop:=fun k E=>∃ ex c,ib ex=true∧exitCode ex=some c∧aI k ex E∧E.heap[l]? =some (.loop (O .done (some c)))∧b2 b w E∧ae E;have aM:=bq l a2 a6 Z (fun k A B he ab ⟨h1,U,V,Y⟩=>⟨aA k A B he h1,ab.aW _ _ U rfl,V.step ab aB.size,au ab Y⟩)
    (fun k A B he ab ⟨ex,c,aa,h1,U,V,Y,av⟩=>⟨ex,c,aa,h1,aJ k ex A B he U,ab.aW _ _ V rfl,Y.step ab aB.size,au ab av⟩) ?round (ha1 _ _ aB hbt) ⟨aA _ _ _ aB bu,bE,bF,aL⟩
   case round=>
    intro k aN vs E haH a7 ⟨hi,aE,bJ,bK⟩;have aO:=br k vs aN E a7;have a8:=run_yield (P:=P) (args:=vs.toArray) aE (by rw[W];simp[aO]);rw[W] at a8;refine⟨fn,_,ak,body,a8,roundIn_of_wpIn trivial ?_⟩;have bL:(ad.zip vs.toArray).foldl (fun tmps x=>match x with|(t,a)=>tmps.setIfInBounds t a) a.tmps=(ad.toList.zip vs).foldl (fun bM (p:Nat×x1)=>bM.setIfInBounds p.1 p.2) a.tmps:=by
     rw[←Array.foldl_toList,Array.toList_zip]
    have ba:=sK (N:=N) ad.toList vs a.tmps e (by simp[aO]) bm (show V6 N e {tmps:=a.tmps,defers:=[]} from⟨ap.1,ap.2⟩);rw[←bL] at ba;have cc:E.heap[l]? =some (.loop (O .ready none)):=aE;refine bj (false,b) (some l) _ _ _ E _ _ bn (fun l' aP=>⟨rfl,by cases aP;exact⟨_,aE⟩⟩) (fun _=>⟨[],rfl,List.nodup_nil,fun D aL=>by cases aL⟩) (by have ay:=nE _ _ vs bw;rw[nD _ _ _ aO] at ay;exact ay k aN E haH a7 hi) ba ?_ (fun _ _ _ h=>h);intro ex bb X aQ;obtain⟨aa,cd,h1,U,V,Y,av⟩:=aQ;obtain⟨aw,bN,_⟩:=av rfl;cases ex with
    |normal=>
     have al:X.heap[l]? =some (.loop (O .ready none)):=aw.aW _ _ aE rfl;have bO:=(o4.1 al).1;refine⟨_,run_beginRound al (by rw[W]),?_⟩;have bP:Ext X (X.putObj l (.loop {O .ready none with state:=.busy})):=mf al rfl _;have bc:(X.putObj l (.loop {O .ready none with state:=.busy})).heap[l]? =some (.loop {O .ready none with state:=.busy}):=x2.putObj_heap_same bO;have bQ:iQ (X.putObj l (.loop {O .ready none with state:=.busy})) bb.defers:=by
      obtain⟨aF,am,ao,af⟩:=bN;refine⟨aF,am,ao,fun ah ai=>?_⟩;have:=af ah ai;have aK:ah≠l:=fun he=>by rw[he,al] at this;cases this
      rw[x2.putObj_heap_other aK];exact this
     have bd:b2 b w (X.putObj l (.loop {O .ready none with state:=.busy})):=nH (bJ.trans aw) aC _;have be:=aD (.loop {O .ready none with state:=.busy}) (au aw bK);have bR:=h1 _ bP (sH rfl) (sG (ej.refl _) al rfl _);refine ay (false,b) (some l) _ _ bb _ _ _ bo (fun l' aP=>⟨rfl,by cases aP;exact⟨_,bc⟩⟩) (fun _=>bQ) bR U ?_ (fun _ _ _ h=>h);intro bS ce ax aQ;obtain⟨aR,cg,aS,ch,ci,cj,bT⟩:=aQ;obtain⟨ac,_,_⟩:=bT rfl;have aG:ax.heap[l]? =some (.loop {O .ready none with state:=.busy}):=ac.aW _ _ bc rfl;have bf:=(o4.1 aG).1;have bg:=fun bU=>run_endRound (P:=P) bU aG;have aT:∀ (o:Obj),Ext ax (ax.putObj l o):=fun o=>mf aG rfl o;have bh:∀ (ex:Exit) (c:Code),ib ex=true→exitCode ex=some c→aI k ex ax→
       ∃ v w',(Instr.endRound l (some c)).run P ax= .ok v w'∧ ∃ aU,Ending.returned v= .returned aU∧((aU= .bool true∧aH w'∧a2 aN w'∧(G=true→ej E w'))∨(aU= .bool false∧a6 k w')):=by
      intro ex c aq bV bW;refine⟨_,_,bg (some c),_,rfl,.inr ⟨rfl,ex,c,aq,bV,aJ k ex _ _ (aT _) bW,?_,nH (bd.trans ac) aC _,aD _ (au ac be)⟩⟩;rw[x2.putObj_heap_same bf,W];rfl
     cases bS with
     |normal=>
      obtain⟨am,ao,af⟩:=aS;refine⟨_,_,bg none,_,rfl,.inl ⟨rfl,ha1 _ _ (aT _) am,⟨aA _ _ _ (aT _) ao,?_,nH (bd.trans ac) aC _,aD _ (au ac be)⟩,fun bX=>sG (af bX) aG rfl _⟩⟩;rw[x2.putObj_heap_same bf,W];rfl
     |ret=>exact bh .ret _ rfl rfl aS
     |exit id=>exact bh (.exit id) _ rfl rfl aS
     |goto t=>cases aR
     |panic bY=>cases aR
     |outgrown=>cases aR
    |_=>exact h1.elim
   have aM:=fh.calls P aM aZ;refine⟨l,mark,Z,{target:=.fn (.func g) cap,args:=#[.func (.yield l) #[] #[]]},Z,g,#[.func (.yield l) #[] #[]]++cap,Z,bD,?_,fun _ _=>trivial,?_,pK _ _,?_⟩
   ·simp only[resolve,bC];simp[go_sem]
   ·simp only[invoke];exact aZ _ _
   ·have bZ:(#[.func (.yield l) #[] #[]]++cap:Array x1)=(x1.func (.yield l) #[] #[]::cap.toList).toArray:=by apply Array.toList_inj.1;simp
    rw[bZ];refine CallsIn.mono (sq aM) ?_;rintro ck X ⟨v,rfl,b1⟩;have left:∀ (aj:Loop) (ex:Exit),ib ex=true→X.heap[l]? =some (.loop aj)→aj.state≠ .busy→b2 b w X→ae X→K ex e (X.putObj l (.loop {aj with state:=.exhausted}))→
      Q ex {a with defers:=mark++a.defers} (X.putObj l (.loop {aj with state:=.exhausted})):=by
     intro aj ex aq al cl aw bi b3;have ac:b2 b w (X.putObj l (.loop {aj with state:=.exhausted})):=nH aw aC _;refine bl ex _ _ ⟨aq,e,b3,⟨ap.1,ap.2⟩,fun _ _=>rfl,(fun h=>by simp[gG,hG] at h),fun _=>⟨ac,?_,?_⟩⟩
     case refine_2=>
      rcases bi with hm|⟨hm,_,b4,_⟩
      ·exact⟨[],by simp[hm],fun _ h=>by cases h⟩
      ·exact⟨[D],by simp[hm],fun ah ai=>by simp at ai;omega⟩
     obtain⟨aF,am,ao,af⟩:=bk rfl;have aV:=aD (.loop {aj with state:=.exhausted}) bi;rcases aV with hm|⟨hm,aV,b4,_⟩
     ·exact⟨aF,by simp[hm,am],ao,fun ah ai=>ac.aW _ _ (af ah ai) rfl⟩
     ·refine⟨D::aF,by simp[hm,am],List.nodup_cons.2 ⟨fun b5=>?_,ao⟩,fun ah ai=>?_⟩
      ·have:=(o4.1 (af D b5)).1;omega
      ·rcases V8.1 ai with h|h
       ·rw[h];exact aV
       ·exact ac.aW _ _ (af ah h) rfl
    rcases b1 with⟨k,b6,h1,U,V,Y⟩|⟨k,ex,c,aa,h1,U,V,Y,av⟩
    ·refine⟨none,_,by have:=run_endLoop (P:=P) U (by rw[W];simp);rw[W] at this;exact this,?_⟩;have:=left (O .ready none) .normal rfl U (by rw[W];simp) V Y (bx _ _ b6 (aA _ _ _ (mf U rfl _) h1));rw[W] at this;exact this
    ·refine⟨some c,_,by have:=run_endLoop (P:=P) V (by rw[W];simp);rw[W] at this;exact this,?_⟩;have:=left (O .done (some c)) ex aa V (by rw[W];simp) Y av (bB k ex _ aa (by intro he;rw[he] at h1;cases h1) (aJ _ _ _ _ (mf V rfl _) U));rw[W] at this;cases ex with
     |normal=>cases h1
     |ret=>cases h1;exact wpIn_ret this
     |exit id=>cases h1;exact wpIn_exit this
     |goto t=>cases aa
     |panic bY=>cases aa
     |outgrown=>cases aa
theorem nK {b:Frame} {a:Act} {k:List Item} {cs:List Frame} {w:x2} {c:Code}:
  step P (lone (b.atR a (.code (.scope c)::k)) cs w)= .next (lone (b.atR a (.code c:: .inScope c::k)) cs w):=
 step_lone_go (by simp[stepG,stepG.exec,Frame.atR])
theorem zI {b:Frame} {a:Act} {k:List Item} {cs:List Frame} {w:x2} {c:Code}:
  step P (lone (b.atR a (.inScope c::k)) cs w)= .next (lone (b.atR a k) cs w):=
 step_lone_go (by simp[stepG,stepG.exec,Frame.atR])
theorem zJ {F:Fence} {n:Nat} {c:Code} {Q:Exit→Act→x2→Prop} {a:Act} {w:x2} (h:c.wpIn F n P (fun ex a' w'=>ib ex=true∧Q ex a' w') a w):
  (Code.scope c).wpIn F n P Q a w:=by
 intro b k cs ab U V;have E:(lone (b.atR a (.code (.scope c)::k)) cs w).fenced P F:=fenced_calm U V rfl;obtain⟨e,W,X,⟨Y,Z⟩,O⟩:=h b (.inScope c::k) cs ab U V;have J:∀ id,exitTo id (.inScope c::k)=exitTo id k:=fun id=>by simp[exitTo]
 cases e with
 |normal=>exact⟨.normal,W,X,Z,.head E nK (StepsIn.trans O (.one (fenced_calm U V rfl) zI))⟩
 |exit id=>
  exact⟨.exit id,W,X,Z,fun ac aa=>.head E nK (O.1 ac (by rw[J];exact aa)),
   fun ad aa=>let⟨ae,h1,af⟩:=O.2 ad (by rw[J];exact aa);⟨ae,h1,.head E nK af⟩⟩
 |ret=>exact⟨_,W,X,Z,.of_steps (.one E nK) O⟩
 |goto l=>cases Y
 |panic ag=>cases Y
 |outgrown=>cases Y
theorem sound (hm:P.follows .mixedOrders=true) (c:Code):Sound P N c:=by
 induction c with
 |skip=>exact fun free r rd e a w K Q _ _ O h E U _=>wpIn_skip (U _ _ _ ⟨rfl,e,h,E,fun _ _=>rfl,fun _=>rfl,fun ag=>eR.refl (O ag)⟩)
 |label l=>exact fun free r rd e a w K Q _ _ O h E U _=>wpIn_label (U _ _ _ ⟨rfl,e,h,E,fun _ _=>rfl,fun _=>rfl,fun ag=>eR.refl (O ag)⟩)
 |ret=>exact fun free r rd e a w K Q _ _ O h E U _=>wpIn_ret (U _ _ _ ⟨rfl,e,h,E,fun _ _=>rfl,fun _=>rfl,fun ag=>eR.refl (O ag)⟩)
 |exit i=>exact fun free r rd e a w K Q _ _ O h E U _=>wpIn_exit (U _ _ _ ⟨rfl,e,h,E,fun _ _=>rfl,fun _=>rfl,fun ag=>eR.refl (O ag)⟩)
 |goto l=>exact fun free r rd e a w K Q _ _ O h E U _=>h.elim
 |refuse s=>exact fun free r rd e a w K Q _ _ O h E U _=>h.elim
 |region id ops aq=>
  intro free r rd e a w K Q V Y O h E U Z;simp only[wf,X2] at V;have al:∀ o∈ops.toList,∀ t,o.dst=some t→t∈j3 ops.toList:=fun o au t ac=>zE ac _ au;simp only[dm] at h;cases aq with
  |false=>exact zj al V.1 h E fun a' w' W=>U _ _ _ (sI O W)
  |true=>
   simp only[Z3,Bool.false_or] at V;exact zs hm V.2 Z al V.1 (fun w' h1 aa ab=>h w' h1 aa ab) E fun a' w' W=>U _ _ _ (sI O W)
 |seq x y J ah=>exact zF J ah
 |cond c x y J ah=>
  intro free r rd e a w K Q V Y O h E U Z;simp only[wf,X2] at V;have am:∀ ex a' w',ju N free (gG free x) K (cG x) a w ex a' w'→Q ex a' w':=fun ex a' w' W=>U ex a' w' (by
   obtain⟨af,ad,h1,aa,ab,ae,ai⟩:=W;exact⟨af,ad,h1,aa,fun t ac=>ab t fun h=>ac (by simp[cG,h]),(fun h=>ae (sL _ _ _ h)),ai⟩)
  have ao:∀ ex a' w',ju N free (gG free y) K (cG y) a w ex a' w'→Q ex a' w':=fun ex a' w' W=>U ex a' w' (by
   obtain⟨af,ad,h1,aa,ab,ae,ai⟩:=W;exact⟨af,ad,h1,aa,fun t ac=>ab t fun h=>ac (by simp[cG,h]),(fun h=>ae (sM _ _ _ h)),ai⟩)
  simp only[dm] at h;cases X:ds e c with
  |none=>rw[X] at h;exact h.elim
  |some v=>
   rw[X] at h;cases v with
   |b t=>
    cases t with
    |true=>exact wpIn_cond (t:=true) (E.ds X) (J free r rd e a w K Q V.1 Y O h E am Z)
    |false=>exact wpIn_cond (t:=false) (E.ds X) (ah free r rd e a w K Q V.2 Y O h E ao Z)
   |v z=>
    obtain⟨t,av,ac,ag⟩:=h;refine wpIn_cond (t:=t) ((E.ds X).trans av) ?_;cases t with
    |true=>exact J free r rd e a w K Q V.1 Y O (ac rfl) E am Z
    |false=>exact ah free r rd e a w K Q V.2 Y O (ag rfl) E ao Z
   |u=>exact h.elim
 |block id c X=>
  intro free r rd e a w K Q V Y O h E U Z;simp only[wf] at V;simp only[dm] at h;refine wpIn_block (X free r rd e a w _ _ V Y O h E ?_ fun ap a w aj=>Z ap a w aj);intro ex a' w' W;obtain⟨af,ad,h1,aa,ab,ae⟩:=W;cases ex with
  |exit i=>
   simp only[Exit.inBlock];simp only at h1;by_cases hi:i=id
   ·rw[if_pos hi];rw[hi,Nat.beq_refl] at h1;exact U _ _ _ ⟨rfl,ad,h1,aa,ab,ae⟩
   ·rw[if_neg hi];have:W6 i id=false:=by
     cases ak:W6 i id with
     |true=>exact absurd (Nat.eq_of_beq_eq_true ak) hi
     |false=>rfl
    rw[this] at h1;exact U _ _ _ ⟨rfl,ad,h1,aa,ab,ae⟩
  |_=>exact U _ _ _ ⟨af,ad,h1,aa,ab,ae⟩
 |loop c X=>exact zG X
 |scope c X=>
  intro free r rd e a w K Q V Y O h E U Z;exact zJ (X free r rd e a w K (fun ex a' w'=>ib ex=true∧Q ex a' w') V Y O h E (fun ex a' w' W=>⟨W.1,U ex a' w' W⟩) fun ap a w aj=>by cases aj.1)
 |rangeFunc f ax ay body aw ak=>exact zH aw ak
def ic:Nat→List x1→Env
 |_,[]=>[]
 |i,v::r=>(i,.v v)::ic (i+1) r
def j8 (P:Y3) (e:Env) (w:x2):List ResultVar→(List x1→Prop)→Prop
 |[],K=>K []
 | .tmp t::r,K=>match look e t with
  |some x=>j8 P e w r fun vs=>K (x.val::vs)
  |none=>False
 | .cell a t::r,K=>match look e a with
  |some x=>O P (do loadVar t (←asAddr x.val)) w fun v=>j8 P e w r fun vs=>K (v::vs)
  |none=>False
def nL:List x1→x1
 |[v]=>v
 |vs=>.tuple vs.toArray
def iR (P:Y3) (E:List ResultVar) (marks:Bool) (Q:x1→x2→Prop):Exit→Env→x2→Prop
 | .normal,e,w| .ret,e,w=>j8 P e w E fun vs=>bif marks then sE w fun w'=>Q (nL vs) w' else Q (nL vs) w
 |_,_,_=>False
def jv:List ResultVar→List Nat
 |[]=>[]
 | .tmp t::r=>t::jv r
 | .cell a _::r=>a::jv r
theorem sN:∀ (vs:List x1) (i t:Nat) (x:dl),look (ic i vs) t=some x→ ∃ j v,t=i+j∧vs[j]? =some v∧x= .v v
 |[],_,_,_,h=>by cases h
 |v::r,i,t,x,h=>by
  simp only[ic,look] at h;cases E:W6 i t with
  |true=>
   rw[E] at h;simp only[cond_true,b9] at h;exact⟨0,v,by rw[Nat.eq_of_beq_eq_true E];rfl,rfl,h.symm⟩
  |false=>
   rw[E] at h;obtain⟨j,u,h1,J,O⟩:=sN r (i+1) t x h;exact⟨j+1,u,by omega,by simpa using J,O⟩
theorem p4 {n:Nat} (vs:List x1) (h:vs.length≤n):V6 n (ic 0 vs) {tmps:=vs.toArray++Array.replicate (n-vs.toArray.size) undef,defers:=[]}:=by
 refine⟨by simp;omega,fun t x J=>?_⟩;obtain⟨j,v,h1,E,rfl⟩:=sN vs 0 t x J;have h1:t=j:=by omega
 subst h1;have O:t<vs.length:=(x3.1 E).1;rw[Array.getD_eq_getD_getElem?,Array.getElem?_append_left (by simpa using O)];simp[E,dl.val]
def nM (E:Array x1):ResultVar→Sem x1
 | .tmp t=>pure (E.getD t undef)
 | .cell b t=>do loadVar t (←asAddr (E.getD b undef))
theorem zK (fn:Func) (E:Array x1):results fn E=(do let vs ←fn.results.mapM (nM E);pure (if h:vs.size=1 then vs[0] else .tuple vs)):=by
 unfold results;congr 2
theorem p5 {e:Env} {a:Act} {w:x2} (J:V6 N e a):∀ (O:List ResultVar) (K:List x1→Prop),j8 P e w O K→
  ∃ vs,K vs∧vs.length=O.length∧ ∀ w',Ext w w'→(O.mapM (nM a.tmps)).run P w'= .ok vs w'
 |[],K,h=>⟨[],h,rfl,fun w' _=>by simp[Z9]⟩
 | .tmp t::r,K,h=>by
  simp only[j8] at h;cases E:look e t with
  |none=>rw[E] at h;exact h.elim
  |some x=>
   rw[E] at h;obtain⟨vs,h1,U,V⟩:=p5 J r _ h;refine⟨x.val::vs,h1,by simp[U],fun w' hw=>?_⟩;rw[List.mapM_cons];simp only[nM,Z4,Z9,Z6,V w' hw,J.2 t x E]
 | .cell b t::r,K,h=>by
  simp only[j8] at h;cases E:look e b with
  |none=>rw[E] at h;exact h.elim
  |some x=>
   rw[E] at h;obtain⟨v,ac,h⟩:=h;obtain⟨vs,h1,U,V⟩:=p5 J r _ h;refine⟨v::vs,h1,by simp[U],fun w' hw=>?_⟩;rw[List.mapM_cons];have:=ac w' hw;rw[←J.2 b x E] at this;rw[nM,Z4,this];simp only[Z6,Z4,V w' hw,Z9]
theorem p6 {fn:Func} {e:Env} {a:Act} {w:x2} (J:V6 N e a) {K:List x1→Prop} (h:j8 P e w fn.results.toList K):
  ∃ vs,K vs∧ ∀ w',Ext w w'→(results fn a.tmps).run P w'= .ok (nL vs) w':=by
 obtain⟨vs,h1,O,E⟩:=p5 J _ _ h;refine⟨vs,h1,fun w' hw=>?_⟩;have E:=E w' hw;rw[zK,Z4,Array.mapM_eq_mapM_toList,map_eq_pure_bind,Z4,E];simp only[Z6,Z9];cases vs with
 |nil=>rfl
 |cons v r=>
  cases r with
  |nil=>rfl
  |cons u r=>simp[nL]
theorem sO {fn:Func} {tmps:Array x1} {R:Ending→x2→Prop}:∀ (E:List Nat) (w:x2),E.Nodup→(∀ D∈E,w.heap[D]? =some (.deferred (some [])))→
  (∀ w',Ext w w'→Ext w' w→w'.os=w.os→h7 w w'→w'.output=w.output→w.heap.size=w'.heap.size→
   (∀ r,r∉E→w'.heap[r]? =w.heap[r]?)→ ∃ v,(results fn tmps).run P w'= .ok v w'∧R (.returned v) w')→
  LeavesInM Fence.wide 0 P fn tmps R (E.map hJ) .returning w
 |[],w,_,_,h=>by
  obtain⟨v,h1,J⟩:=h w (Ext.refl _) (Ext.refl _) rfl .h8 rfl rfl fun _ _=>rfl;exact⟨v,h1,J⟩
 |D::E,w,O,U,h=>by
  rw[List.nodup_cons] at O;have V:=U D (.head _);refine⟨by simp,.inl ⟨D,_,rfl,run_takeDeferred V,?_⟩⟩;refine sO E _ O.2 (fun Y W=>?_) fun w' h1 J Z aa ab ac ad=>?_
  ·rw[x2.putObj_heap_other (fun he=>O.1 (by rw[←he];exact W))];exact U Y (.tail _ W)
  ·refine h w' ((mf V rfl _).trans h1) (J.trans (sH rfl)) Z aa ab (by simpa using ac) fun r X=>?_;rw[ad r fun hm=>X (.tail _ hm),x2.putObj_heap_other fun he=>X (by rw[he];exact .head _)]
theorem ah.enter (hm:P.follows .mixedOrders=true) {f:FuncId} {fn:Func} {c:Code} (ag:P.funcs[f]? =some fn) (W:fn.body=some c) (ae:(fn.name == "runtime.NumGoroutine")=false)
  (af:wf fn.ntmps c=true) {args:List x1} (ai:Nat.ble args.length fn.ntmps=true) {w:x2} {Q:x1→x2→Prop}
  (h:dm P fn.ntmps (false,w.heap.size) c (jv fn.results.toList) (ic 0 args) w (iR P fn.results.toList true Q)):ah P f args w Q:=by
 refine .code (Enters.of P ag W ae) (callsIn_wide (n:=0).1 (callsIn_of_wp_marks ag W trivial ?_));have aj:=p4 (n:=fn.ntmps) args (Nat.le_of_ble_eq_true ai);refine wpIn_mono (Q:=fun ex a' w'=>ib ex=true∧bodyPostM Fence.wide 0 P fn (fun e w'=>∃ v,e= .returned v∧cA w w'∧Q v w') ex a' w') ?_ fun _ _ _ h=>h.2;refine sound hm c (false,w.heap.size) none _ _ _ w _ _ af (fun l ak=>by cases ak) (fun _=>⟨[],rfl,List.nodup_nil,fun D O=>by cases O⟩) h aj ?_ (fun _ _ _ h=>by cases h.1)
 ·intro ex a' w' al;obtain⟨am,ao,J,ap,_,_,aq⟩:=al;obtain⟨E,⟨U,X,au,O⟩,av,aw,ax⟩:=aq rfl;have ay:∀ D∈U,w.heap.size≤D:=by
   intro D az;have h1:hJ D∈av.map hJ:=by
    have:hJ D∈U.map hJ:=o6.2 ⟨D,az,rfl⟩;rw[←X,aw] at this;simpa using this
   obtain⟨Y,V,aA⟩:=o6.1 h1;have:Y=D:=by simpa[hJ] using aA
   exact this▸ax Y V
  have Z:iR P fn.results.toList true Q .ret ao w'→LeavesInM Fence.wide 0 P fn a'.tmps (fun e aa=>∃ v,e= .returned v∧cA w aa∧Q v aa) a'.defers .returning w':=by
   intro J;rw[X];obtain⟨vs,h1,V⟩:=p6 (fn:=fn) ap J;refine sO U w' au O fun ab ac aB aC aD aE aF aG=>⟨_,V ab ac,_,rfl,?_,h1 ab ac aB⟩;have E:=E.cR (u9 _);refine⟨aC.trans E.os,aD.trans E.tape,aE.trans E.output,by rw[←aF];exact E.size,fun r o ad aH=>?_⟩;have aI:=(o4.1 ad).1;rw[aG r fun hm=>by have:=ay r hm;omega];exact E.aW r o ad aH
  cases ex with
  |normal=>exact⟨rfl,Z J⟩
  |ret=>exact⟨rfl,Z J⟩
  |exit id=>exact J.elim
  |_=>cases am
theorem ah.zL (hm:P.follows .mixedOrders=true) {f:FuncId} {fn:Func} {c:Code} (ag:P.funcs[f]? =some fn) (J:fn.body=some c) (V:(fn.name == "runtime.NumGoroutine")=false)
  (W:wf fn.ntmps c=true) {args:List x1} (X:Nat.ble args.length fn.ntmps=true) (Y:hG c=false) {w:x2} {Q:x1→x2→Prop}
  (h:dm P fn.ntmps (false,w.heap.size) c (jv fn.results.toList) (ic 0 args) w (iR P fn.results.toList false Q)):ah P f args w Q:=by
 refine .code (Enters.of P ag J V) (callsIn_wide (n:=0).1 (callsIn_of_wp ag J trivial ?_));have Z:=p4 (n:=fn.ntmps) args (Nat.le_of_ble_eq_true X);refine wpIn_mono (Q:=fun ex a' w'=>ib ex=true∧bodyPost P fn (fun e w'=>∃ v,e= .returned v∧cA w w'∧Q v w') ex a' w') ?_ fun _ _ _ h=>h.2;refine sound hm c (false,w.heap.size) none _ _ _ w _ _ W (fun l aa=>by cases aa) (fun _=>⟨[],rfl,List.nodup_nil,fun D ab=>by cases ab⟩) h Z ?_ (fun _ _ _ h=>by cases h.1);intro ex a' w' ac;obtain⟨ad,ae,E,af,_,ai,aj⟩:=ac;have ak:a'.defers=[]:=ai (by simp[gG,Y]);have O:iR P fn.results.toList false Q .ret ae w'→a'.defers=[]∧ ∃ v,(results fn a'.tmps).run P w'= .ok v w'∧ ∃ U,Ending.returned v= .returned U∧cA w w'∧Q U w':=by
  intro E;obtain⟨vs,h1,al⟩:=p6 (fn:=fn) af E;exact⟨ak,_,al w' (Ext.refl _),_,rfl,(aj rfl).1.cR (u9 _),h1⟩
 cases ex with
 |normal=>exact⟨rfl,O E⟩
 |ret=>exact⟨rfl,O E⟩
 |exit id=>exact E.elim
 |_=>cases ad
theorem fh.enter (hm:P.follows .mixedOrders=true) {f:FuncId} {fn:Func} {c:Code} (ag:P.funcs[f]? =some fn) (J:fn.body=some c) (V:(fn.name == "runtime.NumGoroutine")=false)
  (W:wf fn.ntmps c=true) {args:List x1} (X:Nat.ble args.length fn.ntmps=true) {w:x2} {Q:x1→x2→Prop}
  (h:dm P fn.ntmps (true,0) c (jv fn.results.toList) (ic 0 args) w (iR P fn.results.toList false Q)):fh P f args w Q:=by
 refine .code (Enters.of P ag J V) (callsIn_wide (n:=0).1 (callsIn_of_wp ag J trivial ?_));have Y:=p4 (n:=fn.ntmps) args (Nat.le_of_ble_eq_true X);refine wpIn_mono (Q:=fun ex a' w'=>ib ex=true∧bodyPost P fn (fun e w'=>∃ v,e= .returned v∧Q v w') ex a' w') ?_ fun _ _ _ h=>h.2;refine sound hm c (true,0) none _ _ _ w _ _ W (fun l Z=>by cases Z) (fun h=>by cases h) h Y ?_ (fun _ _ _ h=>by cases h.1);intro ex a' w' aa;obtain⟨ab,ac,E,ad,_,ae,ai⟩:=aa;have af:a'.defers=[]:=ae rfl;have O:iR P fn.results.toList false Q .ret ac w'→a'.defers=[]∧ ∃ v,(results fn a'.tmps).run P w'= .ok v w'∧ ∃ U,Ending.returned v= .returned U∧Q U w':=by
  intro E;obtain⟨vs,h1,ah⟩:=p6 (fn:=fn) ad E;exact⟨af,_,ah w' (Ext.refl _),_,rfl,h1⟩
 cases ex with
 |normal=>exact⟨rfl,O E⟩
 |ret=>exact⟨rfl,O E⟩
 |exit id=>exact E.elim
 |_=>cases ab
end
def mg (l:List V5) (d:Nat):Nat:=
 match l with
 |[]=>d
 | .tmp t::r=>mg r (Nat.lor d (Nat.shiftLeft 1 t))
 |_::r=>mg r d
def k7:List W0→Nat→Option W0
 |[],_=>none
 |o::_,0=>some o
 |_::l,n+1=>k7 l n
def sP (a b:Nat):Nat:=Nat.xor a (Nat.land a b)
def mh (m t:Nat):Bool:=W6 (Nat.land (Nat.shiftRight m t) 1) 1
def hK (m t:Nat):Nat:=Nat.lor m (Nat.shiftLeft 1 t)
def zM (ops:List W0) (o:W0):Nat:=
 match o.guard with
 |none=>0
 |some (j,_)=>match k7 ops j with
  |some ⟨some d,_,_,_,_,_⟩=>Nat.shiftLeft 1 d
  |_=>0
def nN:List W0→Nat→Nat
 |[],d=>d
 |⟨some t,_,_,_,_,_⟩::l,d=>nN l (hK d t)
 |_::l,d=>nN l d
def sQ (ops:List W0):List W0→Nat→Nat→Nat
 |[],_,r=>r
 |o::l,d,r=>sQ ops l (match o.dst with|some t=>hK d t|none=>d) (Nat.lor r (sP (mg (opsOf o.op) (zM ops o)) d))
def nO:List Nat→Nat→Nat
 |[],_=>0
 |x::_,0=>x
 |_::l,n+1=>nO l n
def sR (e:Edge):Bool:=
 match e.ground with
 | .textOnly _=>false
 | .gcOnly _=>false
 |_=>true
def sS (bs:List Nat):List Edge→Nat→Nat
 |[],s=>s
 |e::r,s=>sS bs r (bif sR e then Nat.lor (hK s e.on) (nO bs e.on) else s)
def p7:List W0→List Nat→List Nat
 |[],bs=>bs
 |o::l,bs=>p7 l (bs++[sS bs o.after.toList 0])
def sT:List W0→Bool
 |[]=>false
 |⟨_,_,_,_,_,some _⟩::_=>true
 |_::l=>sT l
def qa (bs:List Nat) (j k:Nat):Bool:=!(W6 k j)&&(!(mh (nO bs j) k)&& !(mh (nO bs k) j))
def sU (bs:List Nat) (j:Nat):Nat→List W0→Bool
 |_,[]=>false
 |i,o::l=>bif Nat.ble j i then false else (!(gC o)&&qa bs j i)||sU bs j (Nat.succ i) l
def sV (ops:List W0) (bs:List Nat):Nat→List W0→Bool
 |_,[]=>false
 |j,o::l=>(!(gC o)&&sU bs j 0 ops)||sV ops bs (Nat.succ j) l
def iS:Code→Nat
 | .region _ ops E=>bif (E&&sV ops.toList (p7 ops.toList []) 0 ops.toList)||sT ops.toList then 2 else 1
 | .seq a b=>bif W6 (iS a) 0 then 0 else iS b
 | .cond _ a b=>Nat.add (iS a) (iS b)
 | .block id c=>Nat.add (iS c) (gZ id c)
 | .loop _=>0
 | .scope c=>iS c
 | .exit _=>0
 | .goto _=>0
 | .ret=>0
 | .refuse _=>0
 |_=>1
def fM:Code→Nat
 | .region _ ops _=>nN ops.toList 0
 | .seq a b=>Nat.lor (fM a) (fM b)
 | .cond _ a b=>Nat.lor (fM a) (fM b)
 | .block _ c=>fM c
 | .loop c=>fM c
 | .scope c=>fM c
 |_=>0
def iT:Code→Nat
 | .region _ ops _=>nN ops.toList 0
 | .seq a b=>Nat.lor (iT a) (iT b)
 | .cond _ a b=>bif W6 (iS a) 0 then iT b else bif W6 (iS b) 0 then iT a else Nat.land (iT a) (iT b)
 | .block id c=>bif W6 (gZ id c) 0 then iT c else 0
 | .scope c=>iT c
 |_=>0
def eD:Code→Nat
 | .region _ ops _=>sQ ops.toList ops.toList 0 0
 | .seq a b=>Nat.lor (eD a) (sP (eD b) (iT a))
 | .cond c a b=>mg [c] (Nat.lor (eD a) (eD b))
 | .block _ c=>eD c
 | .loop c=>eD c
 | .scope c=>eD c
 | .rangeFunc f _ a b=>mg [f] (Nat.lor (eD a) (eD b))
 |_=>0
def jw:Nat→Nat→Nat→List Nat
 |0,_,_=>[]
 |n+1,k,m=>bif W6 m 0 then[] else bif W6 (Nat.land m 1) 1 then k::jw n (Nat.succ k) (Nat.shiftRight m 1) else jw n (Nat.succ k) (Nat.shiftRight m 1)
def mi (e:Env):List Nat→List Nat
 |[]=>[]
 |t::r=>match look e t with
  |some _=>t::mi e r
  |none=>mi e r
structure jx (B S aG:Type) where
 ie:{x:x1}→x1
 sW:List x1→x1
 no:B
 ig:B
 and:B→B→B
 or:B→B→B
 ext:x2→x2→B
 stays:S→x1→x2→B
 split:x1→B→B→B
 qb:S→x2→(x1→B)→B
 sX:S→x2→(x1→x2→B)→B
 sY:aG→x2→(x2→B)→B
 runN:{fr:Bool}→{n:Nat}→S→x2→(x1→x2→B)→B
 sZ:{f:FuncId}→List x1→x2→(x1→x2→B)→B
 s3:{f:FuncId}→List x1→x2→(x1→x2→B)→B
 s4:{fr:Bool}→x1→List x1→x2→(x1→x2→B)→B
 drew:x2→(x2→B)→B
 again:x2→(x2→B)→B
 over:x2→(x2→B)→B
 dd:(x2→B)→((x2→B)→B)→B
 aL:(x1→x2→B)→((x1→x2→B)→B)→B
 gH:(x1→x1→x2→B)→((x1→x1→x2→B)→B)→B
 s5:(x1→x1→x1→x2→B)→((x1→x1→x1→x2→B)→B)→B
 s6:(x1→x1→x1→x1→x2→B)→((x1→x1→x1→x1→x2→B)→B)→B
 s7:(x1→x1→x1→x1→x1→x2→B)→((x1→x1→x1→x1→x1→x2→B)→B)→B
 s8:x2→(x2→(x2→B)→B)→B
 s9:x1→x2→(x1→x2→(x1→x2→B)→B)→B
 ta:x1→x1→x2→(x1→x1→x2→(x1→x1→x2→B)→B)→B
 tb:x1→x1→x1→x2→(x1→x1→x1→x2→(x1→x1→x1→x2→B)→B)→B
 tc:x1→x1→x1→x1→x2→(x1→x1→x1→x1→x2→(x1→x1→x1→x1→x2→B)→B)→B
 td:x1→x1→x1→x1→x1→x2→(x1→x1→x1→x1→x1→x2→(x1→x1→x1→x1→x1→x2→B)→B)→B
 te:x1→x1→x1→x1→x1→x1→x2→(x1→x1→x1→x1→x1→x1→x2→(x1→x1→x1→x1→x1→x1→x2→B)→B)→B
 tf:x1→x2→(x1→x2→(Exit→x2→B)→B)→(x2→B)→(x2→B)→List (Nat×(x2→B))→B
 tg:x1→x2→(x1→x1→x2→(Exit→x2→B)→B)→(x2→B)→(x2→B)→List (Nat×(x2→B))→B
 loadVar:{t:u5}→x1→S
 alloc:{t:u5}→S
 box:{t:u5}→x1→S
 build:{t:u5}→List (Nat×x1)→S
 buildSlice:{t:u5}→{n:Nat}→List (Nat×x1)→S
 load:{t:u5}→x1→S
 nil:x1→S
 bin:{op:BinOp}→{t:u5}→Bool→Bool→x1→x1→S
 un:{op:UnOp}→x1→S
 conv:{s d:u5}→x1→S
 th:{t:u5}→x1→S
 ti:{f:Fn}→List x1→List x1→S
 tj:{t:u5}→Option x1→S
 tk:{t:u5}→x1→x1→S
 slice:{t:u5}→x1→Option x1→Option x1→Option x1→S
 tm:{t:u5}→x1→{f:Nat}→S
 field:{t:u5}→x1→{f:Nat}→S
 tn:{t:u5}→x1→x1→S
 index:{t:u5}→x1→x1→S
 lookup:{t:u5}→x1→x1→{ok:Bool}→S
 tp:{t:u5}→x1→x1→S
 range:{t:u5}→x1→S
 entry:x1→S
 assert:{t a:u5}→x1→{ok:Bool}→S
 extract:x1→{i:Nat}→S
 next:x1→{b:Bool}→S
 append:{ats:Array u5}→{t:u5}→List x1→S
 cap:{ats:Array u5}→{t:u5}→List x1→S
 clear:{ats:Array u5}→{t:u5}→List x1→S
 copy:{ats:Array u5}→{t:u5}→List x1→S
 delete:{ats:Array u5}→{t:u5}→List x1→S
 len:{ats:Array u5}→{t:u5}→List x1→S
 max:{ats:Array u5}→{t:u5}→List x1→S
 min:{ats:Array u5}→{t:u5}→List x1→S
 store:{t:u5}→x1→x1→aG
 qc:{t:u5}→x1→x1→x1→aG
 tq:{t:u5}→x1→x1→x1→aG
section
variable {B S aG:Type} (A:jx B S aG)
def dl.g:dl→x1
 | .v x=>x
 | .b c=>.bool c
 | .u=>A.ie (x:=undef)
def ka (e:Env):V5→dl
 | .tmp t=>match look e t with
  |some x=>x
  |none=>.u
 | .const (.bool c)=>.b c
 | .const x=>.v (A.ie (x:=x))
 | .global g=>.v (A.ie (x:=.pointer (some ⟨g,0,none⟩)))
 | .func f=>.v (A.ie (x:=.func (.func f) #[] #[]))
def bT (e:Env) (x:V5):x1:=(ka A e x).g A
def kb (e:Env):List V5→List x1
 |[]=>[]
 |x::r=>bT A e x::kb e r
def nP (e:Env):Option V5→Option x1
 |none=>none
 |some x=>some (bT A e x)
def qd (e:Env):List (Nat×V5)→List (Nat×x1)
 |[]=>[]
 |(i,x)::r=>(i,bT A e x)::qd e r
def zN (b:n0) (ats:Array u5) (t:u5) (l:List x1) (K:S→B):B:=
 match b with
 | .append=>K (A.append (ats:=ats) (t:=t) l)
 | .cap=>K (A.cap (ats:=ats) (t:=t) l)
 | .clear=>K (A.clear (ats:=ats) (t:=t) l)
 | .copy=>K (A.copy (ats:=ats) (t:=t) l)
 | .delete=>K (A.delete (ats:=ats) (t:=t) l)
 | .len=>K (A.len (ats:=ats) (t:=t) l)
 | .max=>K (A.max (ats:=ats) (t:=t) l)
 | .min=>K (A.min (ats:=ats) (t:=t) l)
 |_=>A.no
def tr (e:Env) (t:u5) (K:S→B) (E:aG→B):Op→B
 | .alloc t=>K (A.alloc (t:=t))
 | .box t x=>K (A.box (t:=t) (bT A e x))
 | .build t J=>K (A.build (t:=t) (qd A e J.toList))
 | .buildSlice t n J=>K (A.buildSlice (t:=t) (n:=n) (qd A e J.toList))
 | .load t x=>K (A.load (t:=t) (bT A e x))
 | .nilCheck x=>K (A.nil (bT A e x))
 | .binOp op t x y _=>K (A.bin (op:=op) (t:=t) (kX x) (kX y) (bT A e x) (bT A e y))
 | .unOp op _ x=>K (A.un (op:=op) (bT A e x))
 | .convert s d x=>K (A.conv (s:=s) (d:=d) (bT A e x))
 | .makeInterface t x=>K (A.th (t:=t) (bT A e x))
 | .makeFunc f a b=>K (A.ti (f:=f) (kb A e a.toList) (kb A e b.toList))
 | .makeMap t r=>K (A.tj (t:=t) (nP A e r))
 | .makeSlice t l c=>K (A.tk (t:=t) (bT A e l) (bT A e c))
 | .slice t x l h m=>K (A.slice (t:=t) (bT A e x) (nP A e l) (nP A e h) (nP A e m))
 | .fieldAddr t x f=>K (A.tm (t:=t) (bT A e x) (f:=f))
 | .field t x f=>K (A.field (t:=t) (bT A e x) (f:=f))
 | .indexAddr t x i=>K (A.tn (t:=t) (bT A e x) (bT A e i))
 | .index t x i=>K (A.index (t:=t) (bT A e x) (bT A e i))
 | .lookup t x i ok=>K (A.lookup (t:=t) (bT A e x) (bT A e i) (ok:=ok))
 | .mapEntry t m k=>K (A.tp (t:=t) (bT A e m) (bT A e k))
 | .range t x=>K (A.range (t:=t) (bT A e x))
 | .entry x=>K (A.entry (bT A e x))
 | .typeAssert x t a ok=>K (A.assert (t:=t) (a:=a) (bT A e x) (ok:=ok))
 | .extract x i=>K (A.extract (bT A e x) (i:=i))
 | .call ⟨.builtin b,args,ats⟩=>zN A b ats t (kb A e args.toList) K
 | .store t a x=>E (A.store (t:=t) (bT A e a) (bT A e x))
 | .mapUpdate t m k x=>E (A.qc (t:=t) (bT A e m) (bT A e k) (bT A e x))
 | .insert t m k x=>E (A.qc (t:=t) (bT A e m) (bT A e k) (bT A e x))
 | .entryStore t m k x=>E (A.tq (t:=t) (bT A e m) (bT A e k) (bT A e x))
 |_=>A.no
def fi (e:Env) (d:Option Tmp) (x:dl):Env:=
 match d with
 |some t=>(t,x)::e
 |none=>e
def ts (o:W0) (e:Env) (w:x2) (K:Env→(x2→B)→B):B:=
 match o with
 |⟨d,.move x,_,_,_,_⟩=>K (fi e d (ka A e x)) (fun _=>A.ig)
 |⟨d,.assign x,_,_,_,_⟩=>K (fi e d (ka A e x)) (fun _=>A.ig)
 |⟨d,.pick c a b,_,_,_,_⟩=>
  match ka A e c with
  | .b true=>K (fi e d (ka A e a)) (fun _=>A.ig)
  | .b false=>K (fi e d (ka A e b)) (fun _=>A.ig)
  | .v x=>A.split x (K (fi e d (.v (bT A e a))) (fun _=>A.ig)) (K (fi e d (.v (bT A e b))) (fun _=>A.ig))
  | .u=>A.no
 |⟨d,op,t,_,_,_⟩=>tr A e t (fun s=>A.qb s w fun v=>K (fi e d (.v v)) (A.stays s v)) (fun _=>A.no) op
def zO (fr:Bool) (n:Nat) (o:W0) (e:Env) (w:x2) (K:Env→x2→B):B:=
 match o with
 |⟨d,.call ⟨.value (.func f),args,_⟩,_,_,_,_⟩=>
  bif fr then A.s3 (f:=f) (kb A e args.toList) w fun v w'=>K (fi e d (.v v)) w'
  else A.sZ (f:=f) (kb A e args.toList) w fun v w'=>K (fi e d (.v v)) w'
 |⟨d,.call ⟨.value x,args,_⟩,_,_,_,_⟩=>A.s4 (fr:=fr) (bT A e x) (kb A e args.toList) w fun v w'=>K (fi e d (.v v)) w'
 |⟨d,.next x b,_,_,_,_⟩=>A.runN (fr:=fr) (n:=n) (A.next (bT A e x) (b:=b)) w fun v w'=>K (fi e d (.v v)) w'
 |⟨d,op,t,_,_,_⟩=>tr A e t (fun s=>A.sX s w fun v w'=>K (fi e d (.v v)) w') (fun u=>A.sY u w fun w'=>K (fi e d (.v (A.ie (x:=undef)))) w') op
def tt (fr:Bool) (n:Nat) (o:W0) (e:Env) (w:x2) (K:Env→x2→B):B:=
 bif gC o then ts A o e w (fun E _=>K E w) else zO A fr n o e w K
def qe (ops:List W0) (o:W0) (e:Env) (D N:Env→B):B:=
 match o.guard with
 |none=>D e
 |some (j,b)=>
  match k7 ops j with
  |some ⟨some s,_,_,_,_,_⟩=>
   match look e s with
   |some (.b c)=>bif xor c b then N e else D e
   |some (.v x)=>A.split x (bif b then D ((s,.b true)::e) else N ((s,.b true)::e)) (bif b then N ((s,.b false)::e) else D ((s,.b false)::e))
   |some .u=>N e
   |none=>A.no
  |_=>A.no
def qf (fr:Bool) (n:Nat) (ops:List W0):List W0→Env→x2→(Env→x2→B)→B
 |[],e,w,K=>K e w
 |o::l,e,w,K=>qe A ops o e (fun e=>tt A fr n o e w fun E w'=>qf fr n ops l E w' K) (fun e=>qf fr n ops l (fi e o.dst .u) w K)
def tu:List Edge→Nat→Bool
 |[],_=>true
 |e::r,E=>(bif sR e then mh E e.on else true)&&tu r E
def nQ (E:Nat):Nat→List W0→List Nat
 |_,[]=>[]
 |i,o::l=>bif mh E i then nQ E (Nat.succ i) l else bif tu o.after.toList E then i::nQ E (Nat.succ i) l else nQ E (Nat.succ i) l
def tv (ops:List W0):List Nat→Option Nat
 |[]=>none
 |i::r=>match k7 ops i with
  |some o=>bif gC o then some i else tv ops r
  |none=>none
def tw (p:Nat→B):List Nat→B
 |[]=>A.ig
 |[i]=>p i
 |i::r=>A.and (p i) (tw p r)
def tx (same:Bool) (q:Nat) (w:x2) (st:x2→B) (E:List (x2×List (Nat×(x2→B)))):List (x2×List (Nat×(x2→B))):=
 match same,E with
 |true,g::r=>(g.1,(q,st)::g.2)::r
 |_,E=>(w,[(q,st)])::E
def tz (bs:List Nat) (j:Nat):List (Nat×(x2→B))→Bool
 |[]=>false
 |(i,_)::r=>qa bs j i||tz bs j r
def qg (bs:List Nat) (j:Nat) (w':x2):List (Nat×(x2→B))→B
 |[]=>A.ig
 |(i,p)::r=>bif qa bs j i then A.and (p w') (qg bs j w' r) else qg bs j w' r
def nR (bs:List Nat) (j:Nat) (w':x2) (C:B):List (x2×List (Nat×(x2→B)))→B
 |[]=>C
 |(w,l)::r=>bif tz bs j l then A.and (A.or (A.ext w w') (qg A bs j w' l)) (nR bs j w' C r) else nR bs j w' C r
def kc (fr:Bool) (n:Nat) (ops:List W0) (bs:List Nat):Nat→Nat→Bool→List (x2×List (Nat×(x2→B)))→Env→x2→(Env→x2→B)→B
 |0,_,_,_,e,w,K=>K e w
 |fuel+1,J,same,E,e,w,K=>
  match nQ J 0 ops with
  |[]=>K e w
  |i::r=>
   match tv ops (i::r) with
   |some q=>
    match k7 ops q with
    |some o=>qe A ops o e
      (fun e=>ts A o e w fun O st=>
       bif iM o then kc fr n ops bs fuel (hK J q) same E O w K
       else kc fr n ops bs fuel (hK J q) true (tx same q w st E) O w K)
      (fun e=>bif iM o then kc fr n ops bs fuel (hK J q) same E (fi e o.dst .u) w K
       else kc fr n ops bs fuel (hK J q) true (tx same q w (fun _=>A.ig) E) (fi e o.dst .u) w K)
    |none=>A.no
   |none=>
    tw A (fun j=>match k7 ops j with
     |some o=>qe A ops o e (fun e=>tt A fr n o e w fun O w'=>nR A bs j w' (kc fr n ops bs fuel (hK J j) false E O w' K) E)
       (fun e=>nR A bs j w (kc fr n ops bs fuel (hK J j) false E (fi e o.dst .u) w K) E)
     |none=>A.no) (i::r)
def nS (e:Env):List Nat→List x1
 |[]=>[]
 |t::r=>(match look e t with|some x=>x.g A|none=>A.ie (x:=undef))::nS e r
def qh (l:List Nat) (vs:List x1) (e:Env):Env:=
 match l,vs with
 |t::r,v::vs=>(t,.v v)::qh r vs e
 |_,_=>e
def nT (d:Nat):Env→Env
 |[]=>[]
 |(t,x)::r=>bif mh d t then nT d r else (t,x)::nT d r
def zP (l:List Nat) (E:List x1→x2→B) (J:(List x1→x2→B)→B):B:=
 match l with
 |[]=>A.dd (fun w=>E [] w) fun k=>J fun _ w=>k w
 |[_]=>A.aL (fun a w=>E [a] w) fun k=>J fun vs w=>match vs with
  |[a]=>k a w
  |_=>A.no
 |[_,_]=>A.gH (fun a b w=>E [a,b] w) fun k=>J fun vs w=>match vs with
  |[a,b]=>k a b w
  |_=>A.no
 |[_,_,_]=>A.s5 (fun a b c w=>E [a,b,c] w) fun k=>J fun vs w=>match vs with
  |[a,b,c]=>k a b c w
  |_=>A.no
 |[_,_,_,_]=>A.s6 (fun a b c d w=>E [a,b,c,d] w) fun k=>J fun vs w=>match vs with
  |[a,b,c,d]=>k a b c d w
  |_=>A.no
 |[_,_,_,_,_]=>A.s7 (fun a b c d f w=>E [a,b,c,d,f] w) fun k=>J fun vs w=>match vs with
  |[a,b,c,d,f]=>k a b c d f w
  |_=>A.no
 |_=>A.no
def zQ (us:List x1) (w:x2) (E:List x1→x2→(List x1→x2→B)→B):B:=
 match us with
 |[]=>A.s8 w fun w k=>E [] w fun _ w=>k w
 |[a]=>A.s9 a w fun a w k=>E [a] w fun vs w=>match vs with
  |[a]=>k a w
  |_=>A.no
 |[a,b]=>A.ta a b w fun a b w k=>E [a,b] w fun vs w=>match vs with
  |[a,b]=>k a b w
  |_=>A.no
 |[a,b,c]=>A.tb a b c w fun a b c w k=>E [a,b,c] w fun vs w=>match vs with
  |[a,b,c]=>k a b c w
  |_=>A.no
 |[a,b,c,d]=>A.tc a b c d w fun a b c d w k=>E [a,b,c,d] w fun vs w=>match vs with
  |[a,b,c,d]=>k a b c d w
  |_=>A.no
 |[a,b,c,d,f]=>A.td a b c d f w fun a b c d f w k=>E [a,b,c,d,f] w fun vs w=>match vs with
  |[a,b,c,d,f]=>k a b c d f w
  |_=>A.no
 |[a,b,c,d,f,g]=>A.te a b c d f g w fun a b c d f g w k=>E [a,b,c,d,f,g] w fun vs w=>match vs with
  |[a,b,c,d,f,g]=>k a b c d f g w
  |_=>A.no
 |_=>A.no
def qi (K:Nat→x2→B):List Nat→List (Nat×(x2→B))
 |[]=>[]
 |i::r=>(i,fun w=>K i w)::qi K r
def fu (fr:Bool) (n:Nat):Code→Nat→Env→x2→(Exit→Env→x2→B)→B
 | .skip,_,e,w,K=>K .normal e w
 | .label _,_,e,w,K=>K .normal e w
 | .ret,_,e,w,K=>K .ret e w
 | .exit i,_,e,w,K=>K (.exit i) e w
 | .region _ ops W,_,e,w,K=>
  bif W then A.drew w fun w'=>kc A fr n ops.toList (p7 ops.toList []) (ops.toList.length) 0 false [] e w' (K .normal)
  else qf A fr n ops.toList ops.toList e w (K .normal)
 | .seq x y,rd,e,w,K=>
  bif Nat.ble 2 (iS x) then
   zP A (jw 1000 0 (Nat.land (fM x) (Nat.lor (eD y) rd))) (fun vs w'=>fu fr n y rd (qh (jw 1000 0 (Nat.land (fM x) (Nat.lor (eD y) rd))) vs (nT (fM x) e)) w' K)
    fun X=>fu fr n x (Nat.lor (eD y) rd) e w fun ex E w'=>match ex with
     | .normal=>X (nS A E (jw 1000 0 (Nat.land (fM x) (Nat.lor (eD y) rd)))) w'
     |ex=>K ex E w'
  else fu fr n x (Nat.lor (eD y) rd) e w fun ex E w'=>match ex with
   | .normal=>fu fr n y rd E w' K
   |ex=>K ex E w'
 | .cond c x y,rd,e,w,K=>
  match ka A e c with
  | .b true=>fu fr n x rd e w K
  | .b false=>fu fr n y rd e w K
  | .v v=>A.split v (fu fr n x rd e w K) (fu fr n y rd e w K)
  | .u=>A.no
 | .block id c,rd,e,w,K=>fu fr n c rd e w fun ex E w'=>match ex with
  | .exit i=>bif W6 i id then K .normal E w' else K (.exit i) E w'
  |ex=>K ex E w'
 | .loop c,rd,e,w,K=>
  zQ A (nS A e (mi e (jw 1000 0 (Nat.land (fM c) (Nat.lor (eD c) rd))))) w fun us w' k=>
   fu fr n c (Nat.lor (eD c) rd) (qh (mi e (jw 1000 0 (Nat.land (fM c) (Nat.lor (eD c) rd)))) us (nT (fM c) e)) w' fun ex E J=>match ex with
    | .normal=>k (nS A E (mi e (jw 1000 0 (Nat.land (fM c) (Nat.lor (eD c) rd))))) J
    |ex=>K ex E J
 | .scope c,rd,e,w,K=>fu fr n c rd e w K
 | .rangeFunc f Y V body,_,e,w,K=>
  match Y.toList with
  |[p]=>A.tf (bT A e f) w
    (fun a w' k=>fu fr n V (eD body) ((p,.v a)::e) w' fun ex E J=>match ex with
     | .normal=>A.over J fun O=>fu fr n body 0 E O fun ex _ U=>k ex U
     |_=>A.no)
    (fun w'=>K .normal e w') (bif gF body then fun w'=>K .ret e w' else fun _=>A.no) (qi (fun i w'=>K (.exit i) e w') (ha body))
  |[p,q]=>A.tg (bT A e f) w
    (fun a b w' k=>fu fr n V (eD body) ((q,.v b)::(p,.v a)::e) w' fun ex E J=>match ex with
     | .normal=>A.over J fun O=>fu fr n body 0 E O fun ex _ U=>k ex U
     |_=>A.no)
    (fun w'=>K .normal e w') (bif gF body then fun w'=>K .ret e w' else fun _=>A.no) (qi (fun i w'=>K (.exit i) e w') (ha body))
  |_=>A.no
 | .goto _,_,_,_,_=>A.no
 | .refuse _,_,_,_,_=>A.no
def tA:Nat→List x1→Env
 |_,[]=>[]
 |i,v::r=>(i,.v (A.ie (x:=v)))::tA (i+1) r
def nU (e:Env) (w:x2):List ResultVar→(List x1→B)→B
 |[],K=>K []
 | .tmp t::r,K=>nU e w r fun vs=>K ((match look e t with|some x=>x.g A|none=>A.ie (x:=undef))::vs)
 | .cell a t::r,K=>A.qb (A.loadVar (t:=t) (match look e a with|some x=>x.g A|none=>A.ie (x:=undef))) w fun v=>nU e w r fun vs=>K (v::vs)
def nV (vs:List x1) (K:x1→B):B:=
 match vs with
 |[v]=>K v
 |vs=>K (A.sW vs)
def qj:List ResultVar→Nat→Nat
 |[],s=>s
 | .tmp t::r,s=>qj r (hK s t)
 | .cell a _::r,s=>qj r (hK s a)
def zR (E:List ResultVar) (marks:Bool) (Q:x1→x2→B):Exit→Env→x2→B
 | .normal,e,w=>nU A e w E fun vs=>bif marks then A.again w fun w'=>nV A vs fun v=>Q v w' else nV A vs fun v=>Q v w
 | .ret,e,w=>nU A e w E fun vs=>bif marks then A.again w fun w'=>nV A vs fun v=>Q v w' else nV A vs fun v=>Q v w
 |_,_,_=>A.no
def qk (fr marks:Bool) {n:Nat} (fn:Func) (c:Code) (args:List x1) (w:x2) (Q:x1→x2→B):B:=
 fu A fr n c (qj fn.results.toList 0) (tA A 0 args) w (zR A fn.results.toList marks Q)
end
def k8 (P:Y3):jx Prop (Sem x1) (Sem Unit) where
 ie {x}:=x
 sW l:=.tuple l.toArray
 no:=False
 ig:=True
 and:=And
 or:=Or
 ext:=Ext
 stays:=bL P
 split:=Split
 qb:=O P
 sX:=aA P
 sY u w K:=aA P u w fun _ w'=>K w'
 runN {fr n}:=nu P (fr,n)
 sZ {f}:=ah P f
 s3 {f}:=fh P f
 s4 {fr}:=nx P fr
 drew:=dj
 again:=sE
 over:=Over
 dd:=bR
 aL:=bR
 gH:=bR
 s5:=bR
 s6:=bR
 s7:=bR
 s8:=zw
 s9:=bV
 ta:=bM
 tb:=k3
 tc:=nF
 td:=ma
 te:=zx
 tf:=zA P
 tg:=zB P
 loadVar {t} x:=do loadVar t (←asAddr x)
 alloc {t}:=Instr.alloc t true (.tuple #[])
 box {t} x:=Instr.box t x
 build {t} l:=Instr.build t l.toArray
 buildSlice {t n} l:=j9 t n l.toArray
 load {t} x:=x7 t x
 nil x:=bk x
 bin {op t} a b x y:=aB op t a b x y
 un {op} x:=Op.unary op x
 conv {s d} x:=convert s d x
 th {t} x:=Instr.makeInterface t x
 ti {f} a b:=Instr.makeFunc f a.toArray b.toArray
 tj {t} x:=Instr.makeMap t x
 tk {t} l c:=Instr.makeSlice t l c
 slice {t} x l h m:=Y9 t x l h m
 tm {t} x {f}:=x8 t x f
 field {t} x {f}:=Instr.field t x f
 tn {t} x i:=j4 t x i
 index {t} x i:=Instr.index t x i
 lookup {t} x i {ok}:=Instr.lookup t x i ok
 tp {t} m k:=Instr.mapEntry t m k
 range {t} x:=Instr.range t x
 entry x:=Instr.entry x
 assert {t a} x {ok}:=Instr.typeAssert x t a ok
 extract x {i}:=c9 x i
 next x {b}:=Instr.next x b 0
 append {ats t} l:=l5 ats t l.toArray
 cap {ats t} l:=n0.cap_ ats t l.toArray
 clear {ats t} l:=n0.clear_ ats t l.toArray
 copy {ats t} l:=n0.copy_ ats t l.toArray
 delete {ats t} l:=n0.delete_ ats t l.toArray
 len {ats t} l:=Z8 ats t l.toArray
 max {ats t} l:=n0.max_ ats t l.toArray
 min {ats t} l:=n0.min_ ats t l.toArray
 store {t} a x:=o7 t a x
 qc {t} m k x:=Instr.mapUpdate t m k x
 tq {t} m k x:=Instr.entryStore t m k x
end Go.Vc
namespace Go.Proofs.YtgbkinibgjmodaaGreatDoor
open Go Go.Vc Go.RowKit Go.Proofs Go.Proofs.Tryz
set_option maxRecDepth 100000
theorem mixed:x5.follows .mixedOrders=true:=by kernel_rfl
def zS:Nat:=5
def zT:Nat:=14
def zU:Nat:=15
def zV:Nat:=18
def zW:Nat:=19
def tB:Nat:=22
def zX:Nat:=23
def zY:Nat:=24
def ql:Nat:=25
def qm:Nat:=26
def tC:Nat:=27
def qn:Nat:=28
def zZ:Nat:=29
def z1:Nat:=30
def z6:Nat:=31
def z7:Nat:=32
def z8:Nat:=33
def tD:Nat:=42
def tE:Nat:=48
def tF:Nat:=49
def qo:Nat:=50
def tG:Nat:=52
def tH:Nat:=53
def Aa:Nat:=59
def tI:Nat:=60
def Jb:Nat:=61
def Ab:Nat:=62
def Ac:Nat:=63
def Ad:Nat:=64
def Ae:Nat:=66
def Af:Nat:=67
def Ag:Nat:=68
def Ah:Nat:=69
def Ai:Nat:=70
def Aj:Nat:=71
def Ak:Nat:=72
def Al:Nat:=73
def tJ:Nat:=74
def Am:Nat:=75
def An:Nat:=76
def Ao:Nat:=77
def Ap:Nat:=78
def Aq:Nat:=79
def Ar:Nat:=80
def As:Nat:=81
def Au:Nat:=85
def Av:Nat:=89
def Aw:Nat:=90
def Ax:Nat:=91
def tK:Nat:=94
def Ay:Nat:=95
def Az:Nat:=96
def tL:Nat:=97
def AA:Nat:=98
def Jc:Nat:=99
def AB:Nat:=100
def Jd:Nat:=101
def AC:Nat:=102
def qp:Nat:=103
def AD:Nat:=104
def Je:Nat:=105
def AE:Nat:=113
def AF:Nat:=114
def tM:Nat:=116
def AG:Nat:=117
def AH:Nat:=118
def AI:Nat:=119
def AJ:Nat:=121
def AK:Nat:=124
def AL:Nat:=127
def AM:Nat:=128
def tN:Nat:=129
def AN:Nat:=130
def tO:Nat:=131
def tP:Nat:=132
def AO:Nat:=133
def AP:Nat:=134
def AQ:Nat:=135
def AR:Nat:=137
def qq:Nat:=139
def AS:Nat:=140
def tQ:Nat:=141
def AT:Nat:=145
def tR:Nat:=146
def tS:Nat:=147
def mj:Nat:=148
def kd:Nat:=149
def ih:Nat:=150
def tT:Nat:=151
def qs:Nat:=152
def ke:Nat:=153
def tU:Nat:=154
def qt:Nat:=155
def AU:Nat:=156
def AV:Nat:=157
def nW:Nat:=158
def iU:Nat:=159
def tV:Nat:=160
def kf:Nat:=161
def AW:Nat:=162
def AX:Nat:=163
def AY:Nat:=164
def AZ:Nat:=165
def A0:Nat:=166
def A1:Nat:=167
def qu:Nat:=170
def A2:Nat:=171
def A3:Nat:=172
def A4:Nat:=173
def A5:Nat:=174
def nX:Nat:=176
def A6:Nat:=177
def A7:Nat:=181
def cmp_isNaN_int:Nat:=182
def A8:Nat:=183
def jy:Nat:=184
def A9:Nat:=185
def Ba:Nat:=186
def iV:Nat:=187
def Bb:Nat:=188
def tW:Nat:=191
def Bc:Nat:=192
def Bd:Nat:=193
def Be:Nat:=194
def qv:Nat:=196
def Bf:Nat:=197
def Bg:Nat:=198
def tX:Nat:=199
def Bh:Nat:=200
def Bi:Nat:=201
def Bj:Nat:=202
def Bk:Nat:=203
def Bl:Nat:=204
def k9:Nat:=205
def Bm:Nat:=206
def Bn:Nat:=207
def nY:Nat:=208
def Bo:Nat:=209
def Bp:Nat:=210
def tY:Nat:=211
def tZ:Nat:=212
def Bq:Nat:=213
def ml:Nat:=214
def Br:Nat:=215
def qw:Nat:=216
def Bs:Nat:=217
def Bt:Nat:=218
def ua:Nat:=219
def Bu:Nat:=220
def Bv:Nat:=221
def Bw:Nat:=222
def Bx:Nat:=223
def ub:Nat:=224
def By:Nat:=225
def Bz:Nat:=226
def nZ:Nat:=227
def BA:Nat:=228
def BB:Nat:=238
def BC:Nat:=239
def BD:Nat:=240
def BE:Nat:=242
def qx:Nat:=243
def n1:Nat:=244
def BF:Nat:=245
def qy:Nat:=246
def BG:Nat:=247
def BH:Nat:=248
def qz:Nat:=249
def BI:Nat:=250
def BJ:Nat:=251
def uc:Nat:=252
def ud:Nat:=253
def BK:Nat:=254
def BL:Nat:=255
def BM:Nat:=256
def BN:Nat:=257
def BO:Nat:=258
def BP:Nat:=259
def BQ:Nat:=260
def Jf:Nat:=261
def n2:Nat:=263
def ue:Nat:=264
def BR:Nat:=265
def BS:Nat:=266
def BT:Nat:=267
def BU:Nat:=268
def BV:Nat:=269
def Jg:Nat:=271
def BW:Nat:=277
def Jh:Nat:=278
def BX:Nat:=279
def Ji:Nat:=280
def BY:Nat:=281
def BZ:Nat:=282
def la:Nat:=283
def B1:Nat:=284
def B2:Nat:=285
def B3:Nat:=286
def B4:Nat:=295
def B5:Nat:=296
def B6:Nat:=297
def B7:Nat:=298
def iW:Nat:=299
def B8:Nat:=300
def B9:Nat:=302
def Ca:Nat:=303
def Cb:Nat:=304
def Jj:Nat:=305
def Cc:Nat:=309
def Cd:Nat:=310
def Ce:Nat:=312
def Cf:Nat:=313
def Cg:Nat:=314
def Jk:Nat:=315
def Ch:Nat:=316
def Jl:Nat:=317
def Jm:Nat:=318
def Jn:Nat:=319
def Jo:Nat:=320
def Jp:Nat:=321
def cmp_Less_int:Nat:=322
def Jq:Nat:=323
def Jr:Nat:=324
def Js:Nat:=334
def Jt:Nat:=335
abbrev Ci:Nat:=0
abbrev uf:Nat:=1
abbrev aj:Nat:=2
abbrev ab:Nat:=3
abbrev gI:Nat:=4
abbrev bY:Nat:=5
abbrev cc:Nat:=9
abbrev bZ:Nat:=22
abbrev dS:Nat:=25
abbrev al:Nat:=26
abbrev dO:Nat:=27
abbrev ii:Nat:=28
abbrev eE:Nat:=29
abbrev fN:Nat:=30
abbrev bq:Nat:=33
abbrev gg:Nat:=37
abbrev e4:Nat:=39
abbrev bz:Nat:=41
abbrev ap:Nat:=68
abbrev aS:Nat:=70
abbrev fv:Nat:=72
abbrev iX:Nat:=92
abbrev Cj:Nat:=98
abbrev qA:Nat:=111
abbrev qB:Nat:=114
abbrev b5:Nat:=120
abbrev cL:Nat:=122
abbrev mm:Nat:=125
abbrev dZ:Nat:=126
abbrev ch:Nat:=128
abbrev lb:Nat:=130
abbrev a6:Nat:=136
abbrev eF:Nat:=138
abbrev dA:Nat:=147
abbrev ug:Nat:=153
abbrev n3:Nat:=197
abbrev dG:Nat:=200
abbrev fj:Nat:=201
abbrev bC:Nat:=203
abbrev gJ:Nat:=208
abbrev gh:Nat:=209
abbrev bp:Nat:=211
abbrev cP:Nat:=217
abbrev bS:Nat:=219
abbrev dB:Nat:=220
abbrev bN:Nat:=222
abbrev dT:Nat:=224
abbrev cH:Nat:=228
abbrev aY:Nat:=230
abbrev cM:Nat:=232
abbrev bE:Nat:=234
abbrev da:Nat:=238
abbrev aK:Nat:=240
abbrev ij:Nat:=245
abbrev ek:Nat:=247
abbrev fO:Nat:=250
abbrev fP:Nat:=252
abbrev kg:Nat:=253
abbrev n4:Nat:=254
abbrev eG:Nat:=256
abbrev e5:Nat:=258
abbrev dH:Nat:=260
abbrev jz:Nat:=262
abbrev ci:Nat:=271
abbrev ld:Nat:=278
abbrev fw:Nat:=290
abbrev hb:Nat:=296
abbrev db:Nat:=301
abbrev bt:Nat:=304
abbrev eH:Nat:=306
abbrev b7:Nat:=311
abbrev gi:Nat:=320
abbrev ea:Nat:=322
abbrev lf:Nat:=323
abbrev eI:Nat:=326
abbrev Ju:Nat:=332
abbrev lg:Nat:=340
abbrev e6:Nat:=343
abbrev en:Nat:=345
abbrev bO:Nat:=347
abbrev ik:Nat:=363
abbrev gK:Nat:=365
abbrev n5:Nat:=381
abbrev iY:Nat:=394
abbrev jA:Nat:=409
abbrev n7:Nat:=426
theorem aq {f:FuncId} {fn:Func} {c:Code} {args:List x1} {w:x2} {Q:x1→x2→Prop} {O:{B S aG:Type}→jx B S aG→(x1→x2→B)→B} {J:Prop} (ag:x5.funcs[f]? =some fn) (h:J)
  (U:fn.body=some c:=by rfl) (_:∀ {B S aG:Type} (A:jx B S aG) (Q:x1→x2→B),qk A false false (n:=w.heap.size) fn c args w Q=O A Q:=by intros;conv=>lhs;reduce)
  (_:O (k8 x5) Q=J:=by dsimp only[k8]) (e:J=dm x5 fn.ntmps (false,w.heap.size) c (jv fn.results.toList) (ic 0 args) w (iR x5 fn.results.toList false Q):=by kernel_rfl)
  (E:(!(fn.name == "runtime.NumGoroutine")&&wf fn.ntmps c&&Nat.ble args.length fn.ntmps&& !hG c)=true:=by kernel_rfl):ah x5 f args w Q:=by
 simp only[X2,Bool.not_eq_true'] at E;exact ah.zL mixed ag U E.1.1.1 E.1.1.2 E.1.2 E.2 (e▸h)
theorem jB {f:FuncId} {fn:Func} {c:Code} {args:List x1} {w:x2} {Q:x1→x2→Prop} {O:{B S aG:Type}→jx B S aG→(x1→x2→B)→B} {J:Prop} (ag:x5.funcs[f]? =some fn) (h:J)
  (U:fn.body=some c:=by rfl) (_:∀ {B S aG:Type} (A:jx B S aG) (Q:x1→x2→B),qk A false true (n:=w.heap.size) fn c args w Q=O A Q:=by intros;conv=>lhs;reduce)
  (_:O (k8 x5) Q=J:=by dsimp only[k8]) (e:J=dm x5 fn.ntmps (false,w.heap.size) c (jv fn.results.toList) (ic 0 args) w (iR x5 fn.results.toList true Q):=by kernel_rfl)
  (E:(!(fn.name == "runtime.NumGoroutine")&&wf fn.ntmps c&&Nat.ble args.length fn.ntmps)=true:=by kernel_rfl):ah x5 f args w Q:=by
 simp only[X2,Bool.not_eq_true'] at E;exact ah.enter mixed ag U E.1.1 E.1.2 E.2 (e▸h)
theorem n8 {f:FuncId} {fn:Func} {c:Code} {args:List x1} {w:x2} {Q:x1→x2→Prop} {O:{B S aG:Type}→jx B S aG→(x1→x2→B)→B} {J:Prop} (ag:x5.funcs[f]? =some fn) (h:J)
  (U:fn.body=some c:=by rfl) (_:∀ {B S aG:Type} (A:jx B S aG) (Q:x1→x2→B),qk A true false (n:=0) fn c args w Q=O A Q:=by intros;conv=>lhs;reduce)
  (_:O (k8 x5) Q=J:=by dsimp only[k8]) (e:J=dm x5 fn.ntmps (true,0) c (jv fn.results.toList) (ic 0 args) w (iR x5 fn.results.toList false Q):=by kernel_rfl)
  (E:(!(fn.name == "runtime.NumGoroutine")&&wf fn.ntmps c&&Nat.ble args.length fn.ntmps)=true:=by kernel_rfl):fh x5 f args w Q:=by
 simp only[X2,Bool.not_eq_true'] at E;exact fh.enter mixed ag U E.1.1 E.1.2 E.2 (e▸h)
theorem jy.enters:Enters x5 jy:=Enters.of x5 (show x5.funcs[jy]? =some Tryz.f184 from Tryz.func184) rfl (by kernel_rfl)
theorem iV.enters:Enters x5 iV:=Enters.of x5 (show x5.funcs[iV]? =some Tryz.f187 from Tryz.func187) rfl (by kernel_rfl)
theorem la.enters:Enters x5 la:=Enters.of x5 (show x5.funcs[la]? =some Tryz.f283 from Tryz.func283) rfl (by kernel_rfl)
theorem iW.enters:Enters x5 iW:=Enters.of x5 (show x5.funcs[iW]? =some Tryz.f299 from Tryz.func299) rfl (by kernel_rfl)
end Go.Proofs.YtgbkinibgjmodaaGreatDoor
namespace Go.Vc
open Go Go.RowKit
structure af (S:Nat→Prop) (w w':x2):Prop where
 size:w.heap.size≤w'.heap.size
 aW:∀ (r:Nat) (o:Obj),w.heap[r]? =some o→fJ o=true→¬S r→w'.heap[r]? =some o
theorem Ext.U {w w':x2} (S:Nat→Prop) (h:Ext w w'):af S w w':=⟨h.size,fun r o E J _=>h.aW r o E J⟩
theorem af.ext {S:Nat→Prop} {w w':x2} (h:af S w w') (J:∀ r,r<w.heap.size→¬S r):Ext w w':=
 ⟨h.size,fun r o E O=>h.aW r o E O (J r (o4.1 E).1)⟩
theorem af.refl (S:Nat→Prop) (w:x2):af S w w:=⟨u9 _,fun _ _ h _ _=>h⟩
theorem af.trans {S:Nat→Prop} {a b c:x2} (h:af S a b) (k:af S b c):af S a c:=
 ⟨Z5 h.size k.size,fun r o O E J=>k.aW r o (h.aW r o O E J) E J⟩
theorem af.mono {S T:Nat→Prop} {a b:x2} (h:af S a b) (J:∀ r,r<a.heap.size→S r→T r):af T a b:=
 ⟨h.size,fun r o E O U=>h.aW r o E O fun V=>U (J r (o4.1 E).1 V)⟩
theorem Ext.then {S:Nat→Prop} {a b c:x2} (h:Ext a b) (k:af S b c) (O:∀ r,r<a.heap.size→¬S r):Ext a c:=
 ⟨Z5 h.size k.size,fun r o E J=>k.aW r o (h.aW r o E J) J (O r (o4.1 E).1)⟩
theorem qC {w:x2} {b o:Nat} {v:x1} (h:w.cell? ⟨b,o,none⟩=some v):∃ c e f,w.heap[b]? =some (.cells c e f)∧c[o]? =some v:=by
 simp only[x2.cell?] at h;split at h
 ·rename_i c e f E;exact⟨c,e,f,E,by simpa using h⟩
 ·cases h
theorem uh {S:Nat→Prop} {w w':x2} (J:af S w w') {b o:Nat} (E:¬S b) {v:x1} (h:w.cell? ⟨b,o,none⟩=some v):w'.cell? ⟨b,o,none⟩=some v:=by
 obtain⟨c,e,f,O,ac⟩:=qC h;simp[x2.cell?,J.aW b _ O rfl E,ac]
theorem kh {w w':x2} (J:Ext w w') {b o:Nat} {v:x1} (h:w.cell? ⟨b,o,none⟩=some v):w'.cell? ⟨b,o,none⟩=some v:=
 uh (J.U fun _=>False) (fun h=>h) h
theorem lh {w w':x2} (J:Ext w w') {b o:Nat} {cs:List x1} (h:w.rangeAt b o cs):w'.rangeAt b o cs:=fun j v ac=>kh J (h j v ac)
theorem oa {S:Nat→Prop} {w w':x2} (J:af S w w') {b o:Nat} (E:¬S b) {cs:List x1} (h:w.rangeAt b o cs):w'.rangeAt b o cs:=fun j v ac=>uh J E (h j v ac)
def ad (w:x2) (g:Nat) (e:u5) (cs:List x1):Prop:=w.heap[g]? =some (.cells cs.toArray e (0,0))
theorem ad.ext {w w':x2} {g:Nat} {e:u5} {cs:List x1} (h:ad w g e cs) (J:Ext w w'):ad w' g e cs:=J.aW g _ h rfl
theorem ad.U {S:Nat→Prop} {w w':x2} {g:Nat} {e:u5} {cs:List x1} (h:ad w g e cs) (J:af S w w') (E:¬S g):ad w' g e cs:=J.aW g _ h rfl E
theorem ad.lt {w:x2} {g:Nat} {e:u5} {cs:List x1} (h:ad w g e cs):g<w.heap.size:=(o4.1 h).1
theorem ad.cell {w:x2} {g:Nat} {e:u5} {cs:List x1} (h:ad w g e cs) {o:Nat} {v:x1} (ac:cs[o]? =some v):w.cell? ⟨g,o,none⟩=some v:=by
 unfold ad at h;simp[x2.cell?,h,ac]
theorem ad.range {w:x2} {g:Nat} {e:u5} {cs:List x1} (h:ad w g e cs):w.rangeAt g 0 cs:=fun j v ac=>by rw[V3];exact h.cell ac
theorem ad.frozen {w:x2} {g:Nat} {e:u5} {cs:List x1} (h:ad w g e cs) (o:Nat) (E:Option Nat):w.frozen? ⟨g,o,E⟩=false:=by
 unfold ad at h;simp[x2.frozen?,h]
def bG (w:x2) (k:Nat) (v:x1) (n:Nat) (cs:List x1):Prop:=
 cs.length=n*k∧ ∃ b o base cap,v= .slice base n cap∧n≤cap∧cap≤maxLen∧(0<n→base=some ⟨b,o,none⟩)∧w.rangeAt b o cs
theorem bG.ext {w w':x2} {k:Nat} {v:x1} {n:Nat} {cs:List x1} (h:bG w k v n cs) (J:Ext w w'):bG w' k v n cs:=by
 obtain⟨h1,b,o,base,cap,E,O,U,V,W⟩:=h;exact⟨h1,b,o,base,cap,E,O,U,V,lh J W⟩
theorem bG.le {w:x2} {k:Nat} {v:x1} {n:Nat} {cs:List x1} (h:bG w k v n cs):n≤maxLen:=by
 obtain⟨_,_,_,_,_,_,E,J,_⟩:=h;exact Z5 E J
theorem bG.nil (w:x2) (k:Nat):bG w k (.slice none 0 0) 0 []:=⟨by simp,0,0,none,0,rfl,u9 _,Z1 _,fun h=>absurd h (Nat.lt_irrefl _),fun j v h=>by simp at h⟩
def aE (P:Y3) (t:u5) (k b:Nat) (z:x1):Prop:=∃ i,P.info? t=some i∧i.size=k∧i.bytes=b∧i.zero=some z
theorem aE.of {P:Y3} {t:u5} {k b:Nat} {z:x1} (h:(P.info? t).map (fun i=>(i.size,i.bytes,i.zero))=some (k,b,some z)):aE P t k b z:=by
 cases hi:P.info? t with
 |none=>simp[hi] at h
 |some i=>simp[hi] at h;exact⟨i,hi,h⟩
theorem aE.size {P:Y3} {t:u5} {k b:Nat} {z:x1} (h:aE P t k b z):(P.info? t).map (·.size)=some k:=by
 obtain⟨i,hi,E,_⟩:=h;simp[hi,E]
def bn (P:Y3) (t:u5) (J:List (Nat×Nat)):Prop:=∃ E,P.underlying t=some (.struct E)∧E.toList.map (fun f=>(f.offset,((P.info? f.type).map (·.size)).getD 0))=J
def ui (P:Y3) (t:u5):Option (List (Nat×Nat)):=match P.underlying t with
 |some (.struct E)=>some (E.toList.map fun f=>(f.offset,((P.info? f.type).map (·.size)).getD 0))
 |_=>none
theorem bn.of {P:Y3} {t:u5} {E:List (Nat×Nat)} (h:ui P t=some E):bn P t E:=by
 unfold ui at h;split at h
 ·rename_i J hu;exact⟨J,hu,by simpa using h⟩
 ·cases h
section
variable {P:Y3} {w:x2}
theorem O.of {s:Sem x1} {v:x1} {K:x1→Prop} (h:∀ w',Ext w w'→s.run P w'= .ok v w'):O P s w K=K v:=by
 refine propext ⟨fun⟨E,h',k⟩=>?_,fun k=>⟨v,h,k⟩⟩;have:=h' w (Ext.refl w);rw[h w (Ext.refl w)] at this;cases this;exact k
theorem aA.of {α:Type} {s:Sem α} {v:α} {w':x2} {K:α→x2→Prop} (h:s.run P w= .ok v w') (E:cA w w') (k:K v w'):aA P s w K:=⟨v,w',h,E,k⟩
theorem b3 {c:Bool} {A B:Prop}:Split (.bool c) A B=((c=true→A)∧(c=false→B)):=by
 refine propext ⟨fun⟨J,h,h1,E⟩=>?_,fun⟨h1,E⟩=>⟨c,rfl,h1,E⟩⟩;cases h;exact⟨h1,E⟩
theorem aa {p:Prop} [Decidable p] {A B:Prop}:Split (.bool (decide p)) A B=((p→A)∧(¬p→B)):=by rw[b3];simp
theorem bh {A B:Prop}:Split (.bool true) A B=A:=by rw[b3];simp
theorem aP {A B:Prop}:Split (.bool false) A B=B:=by rw[b3];simp
theorem aF {t:u5} {cx cy:Bool} {k:r9} {a b:Int} {K:x1→Prop}:O P (aB .add t cx cy (.int k a) (.int k b)) w K=K (.int k (k.wrap (a+b))):=
 O.of fun w' _=>by simp[aB,eqGuard,binOp,Op.intArith]
theorem cY {t:u5} {cx cy:Bool} {k:r9} {a b:Int} {K:x1→Prop}:O P (aB .sub t cx cy (.int k a) (.int k b)) w K=K (.int k (k.wrap (a-b))):=
 O.of fun w' _=>by simp[aB,eqGuard,binOp,Op.intArith]
theorem fx {t:u5} {cx cy:Bool} {k:r9} {a b:Int} {K:x1→Prop}:O P (aB .mul t cx cy (.int k a) (.int k b)) w K=K (.int k (k.wrap (a*b))):=
 O.of fun w' _=>by simp[aB,eqGuard,binOp,Op.intArith]
theorem ob {t:u5} {cx cy:Bool} {k:r9} {a b:Int} {K:x1→Prop} (E:b≠0):O P (aB .quo t cx cy (.int k a) (.int k b)) w K=K (.int k (k.wrap (a.tdiv b))):=
 O.of fun w' _=>by simp[aB,eqGuard,binOp,Op.intDiv,E]
theorem uj {t:u5} {cx cy:Bool} {k:r9} {a b:Int} {K:x1→Prop} (E:b≠0):O P (aB .rem t cx cy (.int k a) (.int k b)) w K=K (.int k (a.tmod b)):=
 O.of fun w' _=>by simp[aB,eqGuard,binOp,Op.intDiv,E]
theorem ao {t:u5} {cx cy:Bool} {k:r9} {a b:Int} {K:x1→Prop}:O P (aB .lss t cx cy (.int k a) (.int k b)) w K=K (.bool (decide (a<b))):=
 O.of fun w' _=>by simp[aB,eqGuard,binOp,Op.intCmp]
theorem mn {t:u5} {cx cy:Bool} {k:r9} {a b:Int} {K:x1→Prop}:O P (aB .leq t cx cy (.int k a) (.int k b)) w K=K (.bool (decide (a≤b))):=
 O.of fun w' _=>by simp[aB,eqGuard,binOp,Op.intCmp]
theorem bA {t:u5} {cx cy:Bool} {k:r9} {a b:Int} {K:x1→Prop}:O P (aB .gtr t cx cy (.int k a) (.int k b)) w K=K (.bool (decide (b<a))):=
 O.of fun w' _=>by simp[aB,eqGuard,binOp,Op.intCmp]
theorem ca {t:u5} {cx cy:Bool} {k:r9} {a b:Int} {K:x1→Prop}:O P (aB .geq t cx cy (.int k a) (.int k b)) w K=K (.bool (decide (b≤a))):=
 O.of fun w' _=>by simp[aB,eqGuard,binOp,Op.intCmp]
theorem bc {t:u5} {cx cy:Bool} {k:r9} {a b:Int} {K:x1→Prop}:O P (aB .eql t cx cy (.int k a) (.int k b)) w K=K (.bool (decide (a=b))):=
 O.of fun w' _=>by
  have:(a == b)=decide (a=b):=by by_cases h:a=b <;> simp[h]
  simp[aB,eqGuard,binOp,Op.intCmp,this]
theorem be {t:u5} {cx cy:Bool} {k:r9} {a b:Int} {K:x1→Prop}:O P (aB .neq t cx cy (.int k a) (.int k b)) w K=K (.bool (decide (a≠b))):=
 O.of fun w' _=>by
  have:(a != b)=decide (a≠b):=by by_cases h:a=b <;> simp[h,bne]
  simp[aB,eqGuard,binOp,Op.intCmp,this]
theorem Ck {t:u5} {cx cy:Bool} {k E:r9} {a b:Int} {K:x1→Prop} (J:0≤b):O P (aB .shl t cx cy (.int k a) (.int E b)) w K=K (.int k (k.wrap (a*2 ^ min b.toNat k.bits))):=
 O.of fun w' _=>by simp[aB,eqGuard,binOp,Op.shift,show ¬b<0 by omega]
theorem bJ {c:Bool} {K:x1→Prop}:O P (Op.unary .not (.bool c)) w K=K (.bool !c):=O.of fun w' _=>by simp[Op.unary]
theorem iZ {k:r9} {a:Int} {K:x1→Prop}:O P (Op.unary .neg (.int k a)) w K=K (.int k (k.wrap (0-a))):=O.of fun w' _=>by simp[Op.unary,Op.intArith]
theorem e7 {s d:u5} {k E:r9} {a:Int} {K:x1→Prop} (J:P.underlying s=some (.int E)) (U:P.underlying d=some (.int k)):
  O P (convert s d (.int E a)) w K=K (.int k (k.wrap a)):=O.of fun w' _=>by simp[convert,run_underlying J,run_underlying U,Conv.intToInt]
theorem qD {t:u5} {cx cy:Bool} {x y:x1} {r:Bool} {K:x1→Prop} (E:∀ w',(eqGuard .eql t (aH cx) (aH cy) x y).run P w'= .ok () w')
  (U:binOp .eql t x y=(do pure (.bool (←Op.equal t x y)))) (h:∀ w',Ext w w'→(Op.equal t x y).run P w'= .ok r w'):O P (aB .eql t cx cy x y) w K=K (.bool r):=O.of fun w' J=>by
 unfold aB;rw[U,Z4,E w',Result.andThen_ok,Z4,h w' J];rfl
theorem Cl {t:u5} {cx cy:Bool} {x y:x1} {r:Bool} {K:x1→Prop} (E:∀ w',(eqGuard .neq t (aH cx) (aH cy) x y).run P w'= .ok () w')
  (U:binOp .neq t x y=(do pure (.bool (!(←Op.equal t x y))))) (h:∀ w',Ext w w'→(Op.equal t x y).run P w'= .ok r w'):O P (aB .neq t cx cy x y) w K=K (.bool !r):=O.of fun w' J=>by
 unfold aB;rw[U,Z4,E w',Result.andThen_ok,Z4,h w' J];rfl
theorem uk (w:x2) (d:Nat) {t e:u5} {p:Option Addr} (h:P.underlying t=some (.pointer e)):(Op.equalIn (d+1) t (.pointer p) (.pointer none)).run P w= .ok p.isNone w:=by
 cases p <;> simp[Op.equalIn,run_underlying h]
theorem mo {t e:u5} {cx cy:Bool} {base:Option Addr} {n c:Nat} {K:x1→Prop} (E:P.underlying t=some (.slice e)):
  O P (aB .eql t cx cy (.slice base n c) (.slice none 0 0)) w K=K (.bool base.isNone):=qD (fun _=>rfl) rfl fun w' _=>run_equal_slice_nil w' t e base n c E
theorem cB {t e:u5} {cx cy:Bool} {p:Option Addr} {K:x1→Prop} (E:P.underlying t=some (.pointer e)):
  O P (aB .eql t cx cy (.pointer p) (.pointer none)) w K=K (.bool p.isNone):=qD (fun _=>rfl) rfl fun w' _=>uk w' 9999 E
theorem ul {t e:u5} {cx cy:Bool} {p:Option Addr} {K:x1→Prop} (E:P.underlying t=some (.pointer e)):
  O P (aB .neq t cx cy (.pointer p) (.pointer none)) w K=K (.bool !p.isNone):=Cl (fun _=>rfl) rfl fun w' _=>uk w' 9999 E
theorem fy {t e E:u5} {base:Option Addr} {n c:Nat} {K:x1→Prop} (J:P.underlying t=some (.slice e)):
  O P (Z8 #[t] E #[.slice base n c]) w K=K (.int .i64 n):=O.of fun w' _=>by simp[Z8,run_underlying J,goInt]
theorem i7 {bW:Array u5} {E:u5} {k:r9} {a b:Int} {K:x1→Prop}:
  O P (n0.min_ bW E #[.int k a,.int k b]) w K=K (.int k (min a b)):=O.of fun w' _=>by
 simp only[n0.min_,List.foldlM,n0.min2];simp only[Z4,Z9,Result.andThen_ok,Int.min_def];congr 2;split <;> split <;> omega
theorem oc {bW:Array u5} {E:u5} {k:r9} {a b:Int} {K:x1→Prop}:
  O P (n0.max_ bW E #[.int k a,.int k b]) w K=K (.int k (max a b)):=O.of fun w' _=>by
 simp only[n0.max_,List.foldlM,n0.max2];simp only[Z4,Z9,Result.andThen_ok,Int.max_def];congr 2;split <;> split <;> omega
theorem av {vs:Array x1} {i:Nat} {v:x1} {K:x1→Prop} (h:vs[i]? =some v):O P (c9 (.tuple vs) i) w K=K v:=O.of fun w' _=>by simp[c9,h]
theorem hL {f:Fn} {a b:Array x1} {K:x1→Prop}:O P (Instr.makeFunc f a b) w K=K (.func f a b):=O.of fun _ _=>rfl
def jC (P:Y3) (t:u5):Bool:=match P.underlying t with
 |some (.struct _)|some (.array _ _)|none=>false
 |_=>true
theorem V {t:u5} {b o:Nat} {v:x1} {K:x1→Prop} (E:jC P t=true) (h:w.cell? ⟨b,o,none⟩=some v):
  O P (x7 t (.pointer (some ⟨b,o,none⟩))) w K=K v:=O.of fun w' J=>by
 have h':=kh J h;unfold jC at E;cases hu:P.underlying t with
 |none=>rw[hu] at E;cases E
 |some d=>
  rw[hu] at E;cases d <;> first|(cases E;done)|simp[x7,Instr.sureAddr,loadVar,isAgg,run_underlying hu,h']
theorem um {t:u5} {d:TypeDesc} {b o k E:Nat} {z:x1} {cs:List x1} {K:x1→Prop} (hu:P.underlying t=some d) (U:d.isRow=true) (hi:aE P t k E z) (V:cs.length=k)
  (h:w.rangeAt b o cs):O P (x7 t (.pointer (some ⟨b,o,none⟩))) w K=K (.agg cs.toArray):=O.of fun w' J=>
 run_loadAt_mid (P:=P) w' b o t cs d (lh J h) hu U (by rw[hi.size,V])
theorem bj {t:u5} {E:List (Nat×Nat)} {b o k J:Nat} {z:x1} {cs:List x1} {K:x1→Prop} (hu:bn P t E) (hi:aE P t k J z) (U:cs.length=k)
  (h:w.rangeAt b o cs):O P (x7 t (.pointer (some ⟨b,o,none⟩))) w K=K (.agg cs.toArray):=by
 obtain⟨V,hu,_⟩:=hu;exact um hu rfl hi U h
theorem ae {t:u5} {U:List (Nat×Nat)} {i b o off z:Nat} {K:x1→Prop} (W:bn P t U) (ag:U[i]? =some (off,z+1)):
  O P (x8 t (.pointer (some ⟨b,o,none⟩)) i) w K=K (.pointer (some ⟨b,o+off,none⟩)):=O.of fun w' _=>by
 obtain⟨X,hu,rfl⟩:=W;rw[x6] at ag;cases E:X[i]? with
 |none=>rw[V9,E] at ag;cases ag
 |some f=>
  rw[V9,E] at ag;simp only[j6,b9,V1] at ag;obtain⟨rfl,V⟩:=ag;cases J:P.info? f.type with
  |none=>simp[J] at V
  |some j=>
   have Y:j.size=z+1:=by simpa[J] using V
   simp[x8,run_underlying hu,E,Instr.sureAddr,fieldPlace,sizeOf,typeInfo,J,Y,W5]
theorem uo {t e:u5} {k:r9} {i:Int} {b o n c z J:Nat} {U:x1} {base:Option Addr} {K:x1→Prop} (hu:P.underlying t=some (.slice e)) (V:aE P e z J U)
  (W:0≤i) (hi:i<n) (E:0<n→base=some ⟨b,o,none⟩):
  O P (j4 t (.slice base n c) (.int k i)) w K=K (.pointer (some ⟨b,o+i.toNat*z,none⟩)):=O.of fun w' _=>by
 have E:=E (by omega);subst E;obtain⟨j,X,Y,_⟩:=V;simp[j4,asIntOf,run_underlying hu,W,hi,sizeOf,typeInfo,X,Y,W5]
theorem gj {t e:u5} {k:r9} {i:Nat} {b o n c z E:Nat} {J:x1} {base:Option Addr} {K:x1→Prop} (hu:P.underlying t=some (.slice e)) (U:aE P e z E J)
  (hi:i<n) (V:0<n→base=some ⟨b,o,none⟩):
  O P (j4 t (.slice base n c) (.int k (i:Int))) w K=K (.pointer (some ⟨b,o+i*z,none⟩)):=by
 rw[uo (i:=(i:Int)) hu U (by omega) (by omega) V];rfl
theorem Cm {t e:u5} {k:r9} {i:Int} {b o n z E:Nat} {J:x1} {K:x1→Prop} (hu:P.underlying t=some (.array n e)) (U:aE P e z E J)
  (V:0≤i) (hi:i<n):
  O P (j4 t (.pointer (some ⟨b,o,none⟩)) (.int k i)) w K=K (.pointer (some ⟨b,o+i.toNat*z,none⟩)):=O.of fun w' _=>by
 obtain⟨j,W,X,_⟩:=U;simp[j4,asIntOf,run_underlying hu,Instr.sureAddr,V,hi,sizeOf,typeInfo,W,X,W5]
theorem qE {t e:u5} {k:r9} {i:Nat} {b o n z E:Nat} {J:x1} {K:x1→Prop} (hu:P.underlying t=some (.array n e)) (U:aE P e z E J) (hi:i<n):
  O P (j4 t (.pointer (some ⟨b,o,none⟩)) (.int k (i:Int))) w K=K (.pointer (some ⟨b,o+i*z,none⟩)):=by
 rw[Cm (i:=(i:Int)) hu U (by omega) (by omega)];rfl
def i9:Option x1→Nat→Prop
 |none,l=>l=0
 |some v,l=>∃ k,v= .int k l
def ja:Option x1→Nat→Nat→Prop
 |none,n,h=>h=n
 |some v,_,h=>∃ k,v= .int k h
def maxOf:Option x1→Option x1→Nat→Nat→Prop
 |none,_,c,m=>m=c
 |some v,some _,_,m=>∃ k,v= .int k m
 |some _,none,_,_=>False
theorem mp {k:r9} {l:Nat}:i9 (some (.int k (l:Int))) l:=⟨_,rfl⟩
theorem ki (l:Nat) (x:Int) {k:r9} (h:x=(l:Int)):i9 (some (.int k x)) l:=⟨k,by rw[h]⟩
theorem kj (l:Nat) (x:Int) {k:r9} {n:Nat} (h:x=(l:Int)):ja (some (.int k x)) n l:=⟨k,by rw[h]⟩
theorem hc:i9 none 0:=rfl
theorem mq {k:r9} {n h:Nat}:ja (some (.int k (h:Int))) n h:=⟨_,rfl⟩
theorem hd {n:Nat}:ja none n n:=rfl
theorem eb {h:Option x1} {c:Nat}:maxOf none h c c:=by cases h <;> rfl
theorem od (w:x2) {sl:Bool} {n c l h m:Nat} {low high mx:Option x1} (h1:i9 low l) (J:ja high n h) (E:maxOf mx high c m) (O:l≤h) (U:h≤m) (hm:m≤c):
  (Instr.sliceBounds sl n c low high mx).run P w= .ok (l,h,m) w:=by
 cases low <;> cases high <;> cases mx <;> simp only[i9,ja,maxOf] at h1 J E <;> (try exact E.elim) <;> (try obtain⟨V,rfl⟩:=h1) <;> (try obtain⟨W,rfl⟩:=J) <;> (try obtain⟨X,rfl⟩:=E) <;> (try subst h1) <;> (try subst J) <;> (try subst E) <;>
  simp[Instr.sliceBounds,Instr.sliceBound,asIntOf,O,U,hm]
theorem fz {t e:u5} {n c z E l h m:Nat} {J:x1} {base:Option Addr} {low high mx:Option x1} {K:x1→Prop} (hu:P.underlying t=some (.slice e)) (U:aE P e z E J)
  (h1:i9 low l) (V:ja high n h) (W:maxOf mx high c m) (X:l≤h) (Y:h≤m) (hm:m≤c):
  O P (Y9 t (.slice base n c) low high mx) w K=K (.slice (if m=l then base else base.map (·.add (l*z))) (h-l) (m-l)):=O.of fun w' _=>by
 obtain⟨j,Z,aa,_⟩:=U;simp[Y9,Instr.slice,run_underlying hu,od w' h1 V W X Y hm,sizeOf,typeInfo,Z,aa]
theorem oe {t e:u5} {n z E l h m b o:Nat} {J:x1} {low high mx:Option x1} {K:x1→Prop} (hu:P.underlying t=some (.array n e)) (U:aE P e z E J)
  (h1:i9 low l) (V:ja high n h) (W:maxOf mx high n m) (X:l≤h) (Y:h≤m) (hm:m≤n):
  O P (Y9 t (.pointer (some ⟨b,o,none⟩)) low high mx) w K=K (.slice (some (if m=l then⟨b,o,none⟩ else⟨b,o+l*z,none⟩)) (h-l) (m-l)):=O.of fun w' _=>by
 obtain⟨j,Z,aa,_⟩:=U;simp[Y9,Instr.sureAddr,run_underlying hu,od w' h1 V W X Y hm,sizeOf,typeInfo,Z,aa,W5]
theorem cI {t:u5} {parts:Array (Nat×x1)} {cs:Array x1} {K:x1→Prop} (h:P.built t parts.toList=some cs):O P (Instr.build t parts) w K=K (.agg cs):=O.of fun w' _=>
 run_build (P:=P) w' t parts cs h
end
theorem bG.part {w:x2} {k n c l h m:Nat} {base:Option Addr} {cs:List x1} (E:bG w k (.slice base n c) n cs) (W:l≤h) (J:h≤n) (hm:h≤m) (X:m≤c):
  bG w k (.slice (if m=l then base else base.map (·.add (l*k))) (h-l) (m-l)) (h-l) ((cs.drop (l*k)).take ((h-l)*k)):=by
 obtain⟨h1,b,o,Y,cap,he,Z,aa,O,U⟩:=E;cases he;have ab:h*k≤n*k:=Y7 _ J;have ad:l*k+(h-l)*k=h*k:=by rw[←W3];congr 1;omega
 refine⟨by simp[h1];omega,b,o+l*k,_,m-l,rfl,by omega,by omega,fun ae=>?_,fun j v ac=>?_⟩
 ·rw[O (by omega),if_neg (by omega)];simp[W5]
 ·have V:=(x3.1 ac).1;simp at V;rw[c7 (by omega),List.getElem?_drop] at ac;rw[Nat.add_assoc];exact U _ _ ac
section
variable {P:Y3} {w:x2}
structure gL (g:Nat) (w w':x2):Prop where
 os:w'.os=w.os
 tape:h7 w w'
 output:w'.output=w.output
 size:w'.heap.size=w.heap.size
 aW:∀ r,r≠g→w'.heap[r]? =w.heap[r]?
theorem gL.refl (g:Nat) (w:x2):gL g w w:=⟨rfl,.h8,rfl,rfl,fun _ _=>rfl⟩
theorem gL.trans {g:Nat} {a b c:x2} (h:gL g a b) (k:gL g b c):gL g a c:=
 ⟨k.os.trans h.os,k.tape.trans h.tape,k.output.trans h.output,k.size.trans h.size,fun r E=>(k.aW r E).trans (h.aW r E)⟩
theorem gL.U {g:Nat} {w w':x2} (h:gL g w w'):af (fun r=>r=g) w w':=⟨Nat.le_of_eq h.size.symm,fun r o E _ J=>by rw[h.aW r J];exact E⟩
theorem gL.cR {g:Nat} {w w':x2} (h:gL g w w') {e:u5} {cs:List x1} (J:ad w g e cs):cA w w':=
 ⟨h.os,h.tape,h.output,Nat.le_of_eq h.size.symm,fun r o E U=>by
  by_cases O:r=g
  ·subst O;unfold ad at J;rw[J] at E;cases E;simp[fJ] at U
  ·rw[h.aW r O];exact E⟩
theorem uq {g:Nat} {e:u5} {cs:List x1} (h:ad w g e cs) (o:Nat) (v:x1):ad (w.setCell ⟨g,o,none⟩ v) g e (cs.set o v)∧gL g w (w.setCell ⟨g,o,none⟩ v):=by
 unfold ad at h;refine⟨?_,rfl,.h8,rfl,by simp[x2.setCell],fun r E=>?_⟩
 ·simp[ad,x2.setCell,Array.getElem?_modify,h]
 ·simp[x2.setCell,Array.getElem?_modify,Ne.symm E]
def over (cs:List x1):Nat→List x1→List x1
 |_,[]=>cs
 |o,v::r=>over (cs.set o v) (o+1) r
theorem kk:∀ (vs cs:List x1) (o:Nat),(over cs o vs).length=cs.length
 |[],_,_=>rfl
 |v::r,cs,o=>by simp[over,kk r]
theorem li:∀ (vs cs:List x1) (o:Nat),o+vs.length≤cs.length→ ∀ j,(over cs o vs)[j]? =if o≤j∧j<o+vs.length then vs[j-o]? else cs[j]?
 |[],cs,o,_,j=>by simp[over];intro h1 E;omega
 |v::r,cs,o,h,j=>by
  simp only[l6] at h;rw[over,li r (cs.set o v) (o+1) (by simp;omega) j];simp only[l6];by_cases h1:o+1≤j∧j<o+1+r.length
  ·rw[if_pos h1,if_pos (by omega)];rw[show j-o=(j-(o+1))+1 by omega,List.getElem?_cons_succ]
  ·rw[if_neg h1];by_cases E:j=o
   ·subst E;rw[if_pos (by omega),U1 (by omega)];simp
   ·rw[if_neg (by omega),List.getElem?_set_ne (Ne.symm E)]
theorem jD {vs cs:List x1} {o:Nat} (h:o+vs.length≤cs.length):over cs o vs=cs.take o++vs++cs.drop (o+vs.length):=by
 apply Y4;intro j;rw[li vs cs o h];by_cases h1:j<o
 ·rw[if_neg (by omega),Z0 (by simp;omega),Z0 (by simp;omega),c7 h1]
 ·by_cases E:j<o+vs.length
  ·rw[if_pos (by omega),Z0 (by simp;omega),Z2 (by simp;omega)];congr 1;simp;omega
  ·rw[if_neg (by omega),Z2 (by simp;omega),List.getElem?_drop];congr 1;simp;omega
theorem kl {g:Nat} {e:u5}:∀ (vs:List x1) (cs:List x1) (o:Nat) (w:x2),ad w g e cs→ad (w.setCells g o vs) g e (over cs o vs)∧gL g w (w.setCells g o vs)
 |[],cs,o,w,h=>⟨h,gL.refl _ _⟩
 |v::r,cs,o,w,h=>by
  obtain⟨h1,E⟩:=uq h o v;obtain⟨J,O⟩:=kl r (cs.set o v) (o+1) _ h1;exact⟨J,E.trans O⟩
theorem og (w:x2) (c:List x1) (e:u5):ad (w.alloc (.cells c.toArray e)) w.heap.size e c∧Ext w (w.alloc (.cells c.toArray e))∧cA w (w.alloc (.cells c.toArray e)):=
 ⟨heap_alloc_new w _,l1 w _,l2 w _⟩
theorem bi {t:u5} {k E:Nat} {z:x1} {K:x1→x2→Prop} (hi:aE P t k E z)
  (h:∀ g w',g=w.heap.size→Ext w w'→ad w' g t z.cells.toList→K (.pointer (some ⟨g,0,none⟩)) w'):aA P (Instr.alloc t true (.tuple #[])) w K:=by
 obtain⟨i,hi,_,_,J⟩:=hi;obtain⟨h1,O,U⟩:=og w z.cells.toList t;refine .of ?_ U (h _ _ rfl O h1);simp[Instr.alloc,zeroValue,typeInfo,hi,J,newVar,newRow]
theorem a7 {t:u5} {v:x1} {K:x1→x2→Prop}
  (h:∀ g w',g=w.heap.size→Ext w w'→ad w' g t v.cells.toList→K (.pointer (some ⟨g,0,none⟩)) w'):aA P (Instr.box t v) w K:=by
 obtain⟨h1,E,J⟩:=og w v.cells.toList t;refine .of ?_ J (h _ _ rfl E h1);simp[Instr.box,newVar,newRow]
def cS (z:Array x1) (n:Nat):List x1:=((Array.range n).map (z[·% z.size]!)).toList
theorem lj (z:Array x1) (n:Nat):(cS z n).length=n:=by simp[cS]
theorem hM {t e:u5} {k O:Nat} {z:x1} {n:Nat} {parts:Array (Nat×x1)} {cs:Array x1} {K:x1→x2→Prop} (J:P.underlying t=some (.slice e)) (hi:aE P e k O z)
  (Y:n*k≤2 ^ 24) (ag:Instr.fill (fun j=>some (j*k,k)) ((Array.range (n*k)).map ((if n*k=0 then #[] else z.cells)[·% (if n*k=0 then #[] else z.cells).size]!)) parts.toList=some cs)
  (h:∀ g w',g=w.heap.size→Ext w w'→ad w' g e cs.toList→K (.slice (some ⟨g,0,none⟩) n n) w'):aA P (j9 t n parts) w K:=by
 obtain⟨i,hi,rfl,_,U⟩:=hi;obtain⟨h1,V,W⟩:=og w cs.toList e;refine .of ?_ W (h _ _ rfl V h1);have X:¬(16777216<n*i.size):=by omega
 by_cases E:n*i.size=0
 ·simp only[E,if_true] at ag;simp[j9,run_underlying J,sizeOf,typeInfo,hi,E,newRow];simp at ag;simp[ag]
 ·simp only[E,if_false] at ag;simp[j9,run_underlying J,sizeOf,typeInfo,hi,X,E,newRow,zeroValue,U,ag]
theorem aZ {t:u5} {O g o:Nat} {z:x1} {e:u5} {cs:List x1} {v:x1} {K:Unit→x2→Prop} (hi:aE P t 1 O z) (h1:v.cells= #[v]) (ac:v.oneCell'=true) (E:ad w g e cs) (V:o<cs.length)
  (h:∀ w',af (fun r=>r=g) w w'→w'.heap.size=w.heap.size→ad w' g e (cs.set o v)→K () w'):aA P (o7 t (.pointer (some ⟨g,o,none⟩)) v) w K:=by
 obtain⟨i,hi,W,_⟩:=hi;obtain⟨X,J⟩:=uq E o v;refine .of (w':=w.setCell ⟨g,o,none⟩ v) ?_ (J.cR E) (h _ J.U J.size X);have Y:=E.cell (y0 V);have Z:(⟨g,o,none⟩:Addr).add 0=⟨g,o,none⟩:=rfl;simp[o7,Instr.sureAddr,storeVar,sizeOf,typeInfo,hi,W,h1,storeCells,Z,run_store P w _ v _ ac,Y,E.frozen]
theorem ur {t:u5} {k O g o:Nat} {z:x1} {e:u5} {cs vs:List x1} {K:Unit→x2→Prop} (hi:aE P t k O z) (V:vs.length=k) (ac:∀ v∈vs,v.oneCell'=true) (E:ad w g e cs) (Y:o+vs.length≤cs.length)
  (h:∀ w',af (fun r=>r=g) w w'→w'.heap.size=w.heap.size→ad w' g e (over cs o vs)→K () w'):aA P (o7 t (.pointer (some ⟨g,o,none⟩)) (.agg vs.toArray)) w K:=by
 obtain⟨W,J⟩:=kl vs cs o w E;refine .of (w':=w.setCells g o vs) ?_ (J.cR E) (h _ J.U J.size W);exact run_storeAt_mid (P:=P) w g o t vs.toArray (fun j X=>⟨by rw[E.cell (y0 (show o+j<cs.length by simp at X;omega))];rfl,E.frozen _ _⟩) (by rw[hi.size];simp[V]) (by simpa using ac)
def br (w:x2) (g:Nat) (e:u5) (k:Nat) (v:x1) (n:Nat) (xs:List x1):Prop:=
 xs.length=n*k∧((v= .slice none 0 0∧n=0)∨ ∃ cap cs,v= .slice (some ⟨g,0,none⟩) n cap∧ad w g e cs∧n≤cap∧cap≤maxLen∧cs.length=cap*k∧cs.take (n*k)=xs)
theorem br.nil (w:x2) (g:Nat) (e:u5) (k:Nat):br w g e k (.slice none 0 0) 0 []:=⟨by simp,.inl ⟨rfl,rfl⟩⟩
theorem br.full {g:Nat} {e:u5} {k n:Nat} {cs:List x1} (h:ad w g e cs) (E:cs.length=n*k) (J:n≤maxLen):br w g e k (.slice (some ⟨g,0,none⟩) n n) n cs:=
 ⟨E,.inr ⟨n,cs,rfl,h,u9 _,J,E,by rw[←E,o3]⟩⟩
theorem br.U {g:Nat} {e:u5} {k:Nat} {v:x1} {n:Nat} {xs:List x1} {S:Nat→Prop} {w':x2} (h:br w g e k v n xs) (J:af S w w') (O:g<w.heap.size→¬S g):br w' g e k v n xs:=
 ⟨h.1,h.2.imp id fun⟨cap,cs,h1,E,V⟩=>⟨cap,cs,h1,E.U J (O E.lt),V⟩⟩
theorem br.ext {g:Nat} {e:u5} {k:Nat} {v:x1} {n:Nat} {xs:List x1} {w':x2} (h:br w g e k v n xs) (J:Ext w w'):br w' g e k v n xs:=h.U (J.U fun _=>False) (fun _ h=>h)
theorem br.sl {g:Nat} {e:u5} {k:Nat} {v:x1} {n:Nat} {xs:List x1} (h:br w g e k v n xs):bG w k v n xs:=by
 obtain⟨h1,⟨rfl,rfl⟩|⟨cap,cs,rfl,E,J,O,V,U⟩⟩:=h
 ·have:xs=[]:=o8 (by simpa using h1);subst this;exact bG.nil w k
 ·refine⟨h1,g,0,_,cap,rfl,J,O,fun _=>rfl,fun j v ac=>?_⟩;rw[V3];have W:=(x3.1 ac).1;rw[←U,c7 (by omega)] at ac;exact E.cell ac
theorem bG.src {k:Nat} {x:x1} {m:Nat} {E:List x1} {O U:u5} (V:bG w k x m E) (W:P.underlying O=some (.slice U)) (h1:∀ u∈E,u.oneCell'=true) (X:0<m):Src P k O x m E w:=by
 obtain⟨Y,b,o,base,cap,rfl,_,_,J,Z⟩:=V;have J:=J X;subst J;exact Src.ofSlice w W ⟨b,o,none⟩ m cap E Y (fun j u hu=>by rw[W5];exact Z j u hu) h1
theorem bG.Cn {k:Nat} {x:x1} {O:List x1} {E U:u5} (V:bG w k x 0 O) (J:P.underlying E=some (.slice U)):Src P k E x 0 [] w:=by
 obtain⟨W,b,o,base,cap,rfl,_,_,X,Y⟩:=V;cases base with
 |none=>exact Src.ofNil w J cap
 |some a=>exact Src.ofSlice w J a 0 cap [] (by simp) (by simp) (by simp)
theorem ut {t O W e aj aw:u5} {z:x1} {k ak g n m:Nat} {v x:x1} {xs E:List x1} {K:x1→x2→Prop}
  (aa:P.underlying t=some (.slice e)) (ab:P.underlying O=some (.slice aw)) (hi:aE P e k ak z) (ax:z.cells.size=k)
  (al:br w g aj k v n xs) (Z:bG w k x m E) (h1:∀ u∈E,u.oneCell'=true) (ay:(n+m)*ak≤140737488355328) (am:n+m≤maxLen)
  (h:∀ ac ad w' ae,(ad=g∧ae=aj∧(v=ac∨g<w.heap.size∧v≠ .slice none 0 0)∨ad=w.heap.size∧ae=e)→br w' ad ae k ac (n+m) (xs++E)→af (fun r=>r=g∧v≠ .slice none 0 0) w w'→K ac w'):
  aA P (l5 #[t,O] W #[v,x]) w K:=by
 obtain⟨i,hi,rfl,rfl,az⟩:=hi;have aB:=al.sl;obtain⟨J,ag⟩:=al;have V:=Z.1;have grow:∀ (base:Option Addr) (cap:Nat),v= .slice base n cap→cap<n+m→0<m→(n0.firstCells i.size n (.slice base n cap)).run P w.drew= .ok xs.toArray w.drew→aA P (l5 #[t,O] W #[v,x]) w K:=by
  rintro base cap rfl ao hm aC;have X:=run_append_grow_src (P:=P) w t O W e i z aa hi az base n cap xs aC x m E (Z.src ab h1 hm) ao (by simp only[maxLen] at am;omega) (growslice_fits ao ay);have aD:n+m≤grownCap w (n+m) cap e:=grownCap_ge w _ _ _;have ah:grownCap w (n+m) cap e≤maxLen:=grownCap_le_maxLen w (n+m) cap e am;have aF:Ext w (w.drew.alloc (.cells ((xs++E).toArray++n0.zeroCells z.cells (grownCap w (n+m) cap e-(n+m))) e)):=(nt w _).trans (l1 _ _);refine .of X ((l0 w _ (Nat.le_succ _)).trans (l2 _ _)) (h _ w.heap.size _ _ (.inr ⟨rfl,rfl⟩) ⟨by simp[J,V,W3],.inr ⟨_,((xs++E).toArray++n0.zeroCells z.cells (grownCap w (n+m) cap e-(n+m))).toList,rfl,?_,aD,ah,?_,?_⟩⟩ (aF.U _))
  ·show _=_;rw[Array.toArray_toList];exact heap_alloc_new w.drew _
  ·simp[J,V,size_zeroCells,ax,←W3];congr 1;omega
  ·rw[Array.toList_append,List.toList_toArray,W3,←J,←V,←r8];exact List.take_left
 rcases Nat.eq_zero_or_pos m with rfl|hm
 ·have aG:E=[]:=o8 (by simpa using V);subst aG;have aH:=Z.Cn ab;have ap:∀ base cap,v= .slice base n cap→n≤cap→aA P (l5 #[t,O] W #[v,x]) w K:=by
   rintro base cap rfl ah;refine .of (run_append_nothing (P:=P) w t O W e i aa hi base n cap ah x aH) (cA.refl _) (h _ g _ _ (.inl ⟨rfl,rfl,.inl rfl⟩) ?_ (af.refl _ _));rw[Nat.add_zero,V4];exact⟨J,ag⟩
  obtain⟨rfl,rfl⟩|⟨cap,cs,rfl,_,aq,_⟩:=ag
  ·exact ap _ _ rfl (u9 _)
  ·exact ap _ _ rfl aq
 ·obtain⟨rfl,rfl⟩|⟨cap,cs,rfl,Y,aq,aI,au,aJ⟩:=ag
  ·have aK:xs=[]:=o8 (by simpa using J);subst aK;exact grow none 0 rfl (by omega) hm (run_firstCells_none w.drew i.size 0 0 0)
  ·by_cases ai:n+m≤cap
   ·have aL:n*i.size+E.length≤cs.length:=by rw[V,au,←W3];exact Y7 _ ai
    have X:=run_append_room_src (P:=P) w t O W e i aa hi g 0 n cap x m E (Z.src ab h1 hm) ai
     (fun j aQ=>by rw[Y.cell (y0 (show 0+n*i.size+j<cs.length by omega))];rfl) (fun j _=>Y.frozen _ _)
    obtain⟨aM,av⟩:=kl E cs (n*i.size) w Y;rw[V3] at X;refine .of X (av.cR Y) (h _ g _ _ (.inl ⟨rfl,rfl,.inr ⟨Y.lt,by simp⟩⟩) ⟨by simp[J,V,W3],.inr ⟨cap,_,rfl,aM,ai,aI,by rw[kk,au],?_⟩⟩ (av.U.mono fun r _ h=>⟨h,by simp⟩));rw[jD aL,aJ,W3,←J,←V,←r8];exact List.take_left
   ·refine grow _ cap rfl (by omega) hm (run_firstCells_some w.drew i.size n _ n cap xs J fun j u hu=>?_);rw[W5];obtain⟨_,b,o,base,aR,he,_,_,aN,X⟩:=aB;cases he;have aO:0<n:=by
     rcases Nat.eq_zero_or_pos n with rfl|aP
     ·simp at J;subst J;simp at hu
     ·exact aP
    have:=aN aO;cases this;simpa using X j u hu
theorem km {t U X e Y:u5} {z:x1} {k V g n m:Nat} {v x:x1} {xs O:List x1} {K:x1→x2→Prop}
  (Z:P.underlying t=some (.slice e)) (aa:P.underlying U=some (.slice Y)) (hi:aE P e k V z) (ab:z.cells.size=k)
  (ac:br w g e k v n xs) (ad:bG w k x m O) (h1:∀ u∈O,u.oneCell'=true) (ae:(n+m)*V≤140737488355328) (ag:n+m≤maxLen)
  (h:∀ J E w',(E=g∨w.heap.size≤E)→br w' E e k J (n+m) (xs++O)→af (fun r=>r=g) w w'→K J w'):
  aA P (l5 #[t,U] X #[v,x]) w K:=
 ut Z aa hi ab ac ad h1 ae ag fun J E w' ai W hm ah=>by
  refine h J E w' (W.imp And.left fun h=>Nat.le_of_eq h.1.symm) ?_ (ah.mono fun r _ h=>h.1);obtain⟨_,rfl,_⟩|⟨_,rfl⟩:=W <;> exact hm
theorem uu {O W X e:u5} {ai g o E Y n:Nat} {z:x1} {x:x1} {base:Option Addr} {cs xs:List x1} {ab:u5} {K:x1→x2→Prop} (ac:P.underlying O=some (.slice e)) (hi:aE P e 1 ai z)
  (J:ad w g ab cs) (aj:0<E→base=some ⟨g,o,none⟩) (ax:o+E≤cs.length) (ak:bG w 1 x n xs) (h1:∀ u∈xs,u.oneCell'=true)
  (h:∀ w',af (fun r=>r=g) w w'→w'.heap.size=w.heap.size→ad w' g ab (over cs o (xs.take E))→K (.int .i64 (min n E:Nat)) w'):
  aA P (n0.copy_ #[O,W] X #[.slice base E Y,x]) w K:=by
 obtain⟨Z,b,o',al,cap,rfl,_,_,am,ao⟩:=ak;simp only[W9] at Z;have ae:(P.info? e).map (·.size)=some 1:=hi.size;by_cases V:Nat.min n E=0
 ·have he:xs.take E=[]:=o8 (by rw[o5,Z];rw[Nat.min_comm];exact V);rw[he] at h;refine .of (run_copy_none (P:=P) w O W X e base al E Y n cap ac ae V) (cA.refl _) ?_;have ag:min n E=0:=V;rw[ag] at h;exact h w (af.refl _ _) rfl J
 ·have ag:min n E≠0:=V;have ap:=am (by omega);have aq:=aj (by omega);subst ap;subst aq;have ah:(xs.take E).length=min n E:=by rw[o5,Z,Nat.min_comm]
  obtain⟨au,aa⟩:=kl (xs.take E) cs o w J;have av:=run_copy_cells (P:=P) w O W X e g o E Y ⟨b,o',none⟩ n cap (xs.take E) ac ae ah
   (fun j u hu=>by
    rw[W5];have aw:=(x3.1 hu).1;rw[c7 (by omega)] at hu;exact ao j u hu)
   (fun j aw=>by rw[J.cell (y0 (show o+j<cs.length by omega))];rfl) (fun j _=>J.frozen _ _) (fun u hu=>h1 u (List.mem_of_mem_take hu))
  refine .of av (aa.cR J) ?_;rw[ah];exact h _ aa.U aa.size au
theorem ah.mono {f:FuncId} {args:List x1} {K J:x1→x2→Prop} (h:ah P f args w K) (O:∀ v w',cA w w'→K v w'→J v w'):ah P f args w J:=by
 cases h with
 |code h1 E=>exact .code h1 (E.mono fun _ w' ⟨v,h1,U,E⟩=>⟨v,h1,U,O v w' U E⟩)
 |ext v w' h1 E V=>exact .ext v w' h1 E (O v w' E V)
theorem fh.mono {f:FuncId} {args:List x1} {K J:x1→x2→Prop} (h:fh P f args w K) (O:∀ v w',K v w'→J v w'):fh P f args w J:=by
 cases h with
 |code h1 E=>exact .code h1 (E.mono fun _ w' ⟨v,h1,E⟩=>⟨v,h1,O v w' E⟩)
 |ext v w' h1 U=>exact .ext v w' h1 (O v w' U)
theorem kZ.mono {l:Nat} {args:List x1} {K E:x1→x2→Prop} (h:kZ P l args w K) (J:∀ v w',K v w'→E v w'):kZ P l args w E:=
 YieldAt.mono h fun _ w' ⟨v,h1,O⟩=>⟨v,h1,J v w' O⟩
end
end Go.Vc
namespace Go.Proofs.YtgbkinibgjmodaaGreatDoor
open Go Go.Vc Go.RowKit Go.Proofs Go.Proofs.Tryz
set_option maxRecDepth 100000
theorem aj.u:x5.underlying aj=some (.int .i64):=by kernel_rfl
theorem aj.i:aE x5 aj 1 8 (.int .i64 0):=aE.of (by kernel_rfl)
theorem ab.u:x5.underlying ab=some (.int .i64):=by kernel_rfl
theorem ab.i:aE x5 ab 1 8 (.int .i64 0):=aE.of (by kernel_rfl)
theorem gI.u:x5.underlying gI=some .bool:=by kernel_rfl
theorem gI.i:aE x5 gI 1 1 (.bool false):=aE.of (by kernel_rfl)
theorem bY.u:x5.underlying bY=some (.int .u8):=by kernel_rfl
theorem bY.i:aE x5 bY 1 1 (.int .u8 0):=aE.of (by kernel_rfl)
theorem cc.u:x5.underlying cc=some .string:=by kernel_rfl
theorem cc.i:aE x5 cc 1 16 (.string ⟨#[]⟩):=aE.of (by kernel_rfl)
theorem bZ.u:x5.underlying bZ=some (.slice bY):=by kernel_rfl
theorem dS.u:x5.underlying dS=some (.pointer ch):=by kernel_rfl
theorem al.u:x5.underlying al=some (.slice ab):=by kernel_rfl
theorem al.i:aE x5 al 1 24 (.slice none 0 0):=aE.of (by kernel_rfl)
theorem dO.u:x5.underlying dO=some (.slice al):=by kernel_rfl
theorem dO.i:aE x5 dO 1 24 (.slice none 0 0):=aE.of (by kernel_rfl)
theorem ii.u:x5.underlying ii=some (.slice gI):=by kernel_rfl
theorem ii.i:aE x5 ii 1 24 (.slice none 0 0):=aE.of (by kernel_rfl)
theorem eE.u:x5.underlying eE=some (.slice ap):=by kernel_rfl
theorem eE.i:aE x5 eE 1 24 (.slice none 0 0):=aE.of (by kernel_rfl)
theorem fN.u:x5.underlying fN=some (.slice fv):=by kernel_rfl
theorem fN.i:aE x5 fN 1 24 (.slice none 0 0):=aE.of (by kernel_rfl)
theorem bq.p:bn x5 bq [(0,1),(1,1),(2,1),(3,1),(4,1),(5,1),(6,1),(7,1)]:=bn.of (by kernel_rfl)
theorem bq.i:aE x5 bq 8 160 (.agg #[(.int .i64 0),(.slice none 0 0),(.int .i64 0),(.slice none 0 0),(.slice none 0 0),(.slice none 0 0),(.slice none 0 0),(.slice none 0 0)]):=aE.of (by kernel_rfl)
theorem gg.i:aE x5 gg 1 8 (.int .i64 0):=aE.of (by kernel_rfl)
theorem e4.u:x5.underlying e4=some (.int .u64):=by kernel_rfl
theorem e4.i:aE x5 e4 1 8 (.int .u64 0):=aE.of (by kernel_rfl)
theorem bz.p:bn x5 bz [(0,1),(1,1)]:=bn.of (by kernel_rfl)
theorem bz.i:aE x5 bz 2 16 (.agg #[(.int .u64 0),(.int .i64 0)]):=aE.of (by kernel_rfl)
theorem ap.u:x5.underlying ap=some (.slice aj):=by kernel_rfl
theorem ap.i:aE x5 ap 1 24 (.slice none 0 0):=aE.of (by kernel_rfl)
theorem aS.p:bn x5 aS [(0,1),(1,1),(2,1)]:=bn.of (by kernel_rfl)
theorem aS.i:aE x5 aS 3 72 (.agg #[(.slice none 0 0),(.slice none 0 0),(.slice none 0 0)]):=aE.of (by kernel_rfl)
theorem fv.p:bn x5 fv [(0,3),(3,1)]:=bn.of (by kernel_rfl)
theorem fv.i:aE x5 fv 4 80 (.agg #[(.slice none 0 0),(.slice none 0 0),(.slice none 0 0),(.bool false)]):=aE.of (by kernel_rfl)
theorem iX.u:x5.underlying iX=some (.pointer ek):=by kernel_rfl
theorem qA.u:x5.underlying qA=some (.pointer bS):=by kernel_rfl
theorem qB.u:x5.underlying qB=some (.pointer cM):=by kernel_rfl
theorem b5.u:x5.underlying b5=some (.slice aS):=by kernel_rfl
theorem b5.i:aE x5 b5 1 24 (.slice none 0 0):=aE.of (by kernel_rfl)
theorem cL.p:bn x5 cL [(0,1),(1,1),(2,1),(3,1),(4,1)]:=bn.of (by kernel_rfl)
theorem cL.i:aE x5 cL 5 88 (.agg #[(.int .i64 0),(.slice none 0 0),(.int .i64 0),(.slice none 0 0),(.slice none 0 0)]):=aE.of (by kernel_rfl)
theorem mm.u:x5.underlying mm=some (.pointer eG):=by kernel_rfl
theorem dZ.u:x5.underlying dZ=some (.slice eF):=by kernel_rfl
theorem dZ.i:aE x5 dZ 1 24 (.slice none 0 0):=aE.of (by kernel_rfl)
theorem ch.p:bn x5 ch [(0,1),(1,1),(2,1),(3,1),(4,1)]:=bn.of (by kernel_rfl)
theorem lb.i:aE x5 lb 1 8 .nilFunc:=aE.of (by kernel_rfl)
theorem a6.p:bn x5 a6 [(0,1)]:=bn.of (by kernel_rfl)
theorem a6.i:aE x5 a6 1 24 (.agg #[(.slice none 0 0)]):=aE.of (by kernel_rfl)
theorem eF.p:bn x5 eF [(0,1),(1,1),(2,1)]:=bn.of (by kernel_rfl)
theorem eF.i:aE x5 eF 3 56 (.agg #[(.slice none 0 0),(.slice none 0 0),(.int .i64 0)]):=aE.of (by kernel_rfl)
theorem dA.u:x5.underlying dA=some (.pointer ci):=by kernel_rfl
theorem dA.i:aE x5 dA 1 8 (.pointer none):=aE.of (by kernel_rfl)
theorem n3.u:x5.underlying n3=some (.pointer fw):=by kernel_rfl
theorem dG.p:bn x5 dG [(0,1),(1,1),(2,1),(3,1)]:=bn.of (by kernel_rfl)
theorem fj.u:x5.underlying fj=some (.slice hb):=by kernel_rfl
theorem fj.i:aE x5 fj 1 24 (.slice none 0 0):=aE.of (by kernel_rfl)
theorem bC.p:bn x5 bC [(0,1),(1,4),(5,1),(6,1)]:=bn.of (by kernel_rfl)
theorem gJ.u:x5.underlying gJ=some (.slice bp):=by kernel_rfl
theorem gh.u:x5.underlying gh=some (.slice db):=by kernel_rfl
theorem gh.i:aE x5 gh 1 24 (.slice none 0 0):=aE.of (by kernel_rfl)
theorem bp.p:bn x5 bp [(0,1),(1,1),(2,1),(3,1)]:=bn.of (by kernel_rfl)
theorem bp.i:aE x5 bp 4 80 (.agg #[(.slice none 0 0),(.slice none 0 0),(.int .i64 0),(.slice none 0 0)]):=aE.of (by kernel_rfl)
theorem cP.u:x5.underlying cP=some (.slice bN):=by kernel_rfl
theorem cP.i:aE x5 cP 1 24 (.slice none 0 0):=aE.of (by kernel_rfl)
theorem bS.p:bn x5 bS [(0,1),(1,1),(2,1),(3,1)]:=bn.of (by kernel_rfl)
theorem dB.u:x5.underlying dB=some (.pointer ea):=by kernel_rfl
theorem dB.i:aE x5 dB 1 8 (.pointer none):=aE.of (by kernel_rfl)
theorem bN.p:bn x5 bN [(0,1),(1,1)]:=bn.of (by kernel_rfl)
theorem bN.i:aE x5 bN 2 32 (.agg #[(.slice none 0 0),(.pointer none)]):=aE.of (by kernel_rfl)
theorem dT.u:x5.underlying dT=some (.slice bE):=by kernel_rfl
theorem dT.i:aE x5 dT 1 24 (.slice none 0 0):=aE.of (by kernel_rfl)
theorem cH.u:x5.underlying cH=some (.slice aK):=by kernel_rfl
theorem cH.i:aE x5 cH 1 24 (.slice none 0 0):=aE.of (by kernel_rfl)
theorem aY.p:bn x5 aY [(0,1),(1,1),(2,1),(3,1),(4,1),(5,1),(6,1),(7,1),(8,1)]:=bn.of (by kernel_rfl)
theorem cM.p:bn x5 cM [(0,1),(1,1),(2,1),(3,1)]:=bn.of (by kernel_rfl)
theorem bE.p:bn x5 bE [(0,1),(1,1)]:=bn.of (by kernel_rfl)
theorem bE.i:aE x5 bE 2 24 (.agg #[(.string ⟨#[]⟩),(.int .i64 0)]):=aE.of (by kernel_rfl)
theorem da.u:x5.underlying da=some (.slice bt):=by kernel_rfl
theorem da.i:aE x5 da 1 24 (.slice none 0 0):=aE.of (by kernel_rfl)
theorem aK.p:bn x5 aK [(0,1),(1,1),(2,1),(3,1)]:=bn.of (by kernel_rfl)
theorem aK.i:aE x5 aK 4 80 (.agg #[(.slice none 0 0),(.slice none 0 0),(.int .i64 0),(.slice none 0 0)]):=aE.of (by kernel_rfl)
theorem ij.u:x5.underlying ij=some (.slice fO):=by kernel_rfl
theorem ij.i:aE x5 ij 1 24 (.slice none 0 0):=aE.of (by kernel_rfl)
theorem ek.p:bn x5 ek [(0,1),(1,1),(2,1),(3,1)]:=bn.of (by kernel_rfl)
theorem fO.p:bn x5 fO [(0,1),(1,1)]:=bn.of (by kernel_rfl)
theorem fO.i:aE x5 fO 2 32 (.agg #[(.slice none 0 0),(.pointer none)]):=aE.of (by kernel_rfl)
theorem fP.u:x5.underlying fP=some (.slice dH):=by kernel_rfl
theorem fP.i:aE x5 fP 1 24 (.slice none 0 0):=aE.of (by kernel_rfl)
theorem kg.u:x5.underlying kg=some (.slice jz):=by kernel_rfl
theorem kg.i:aE x5 kg 1 24 (.slice none 0 0):=aE.of (by kernel_rfl)
theorem n4.u:x5.underlying n4=some (.slice e5):=by kernel_rfl
theorem eG.p:bn x5 eG [(0,1),(1,1),(2,1),(3,1)]:=bn.of (by kernel_rfl)
theorem e5.p:bn x5 e5 [(0,1),(1,1),(2,1)]:=bn.of (by kernel_rfl)
theorem e5.i:aE x5 e5 3 24 (.agg #[(.int .i64 0),(.int .i64 0),(.int .u64 0)]):=aE.of (by kernel_rfl)
theorem dH.p:bn x5 dH [(0,1),(1,1)]:=bn.of (by kernel_rfl)
theorem dH.i:aE x5 dH 2 16 (.agg #[(.int .i64 0),(.int .u64 0)]):=aE.of (by kernel_rfl)
theorem jz.i:aE x5 jz 3 24 (.agg #[(.int .i64 0),(.int .i64 0),(.int .u64 0)]):=aE.of (by kernel_rfl)
theorem ci.p:bn x5 ci [(0,1),(1,1),(2,1)]:=bn.of (by kernel_rfl)
theorem ld.u:x5.underlying ld=some (.int .u64):=by kernel_rfl
theorem fw.p:bn x5 fw [(0,1),(1,1),(2,1)]:=bn.of (by kernel_rfl)
theorem hb.p:bn x5 hb [(0,1),(1,1)]:=bn.of (by kernel_rfl)
theorem hb.i:aE x5 hb 2 48 (.agg #[(.slice none 0 0),(.slice none 0 0)]):=aE.of (by kernel_rfl)
theorem db.p:bn x5 db [(0,1),(1,1)]:=bn.of (by kernel_rfl)
theorem db.i:aE x5 db 2 32 (.agg #[(.slice none 0 0),(.int .i64 0)]):=aE.of (by kernel_rfl)
theorem bt.p:bn x5 bt [(0,1),(1,1)]:=bn.of (by kernel_rfl)
theorem bt.i:aE x5 bt 2 32 (.agg #[(.slice none 0 0),(.int .i64 0)]):=aE.of (by kernel_rfl)
theorem eH.u:x5.underlying eH=some (.slice b7):=by kernel_rfl
theorem b7.p:bn x5 b7 [(0,1),(1,1)]:=bn.of (by kernel_rfl)
theorem b7.i:aE x5 b7 2 32 (.agg #[(.slice none 0 0),(.pointer none)]):=aE.of (by kernel_rfl)
theorem gi.u:x5.underlying gi=some (.map bO aj):=by kernel_rfl
theorem ea.p:bn x5 ea [(0,1),(1,1),(2,1),(3,1)]:=bn.of (by kernel_rfl)
theorem lf.u:x5.underlying lf=some (.slice eI):=by kernel_rfl
theorem eI.p:bn x5 eI [(0,1),(1,1)]:=bn.of (by kernel_rfl)
theorem eI.i:aE x5 eI 2 32 (.agg #[(.slice none 0 0),(.int .i64 0)]):=aE.of (by kernel_rfl)
theorem lg.u:x5.underlying lg=some (.int .u32):=by kernel_rfl
theorem e6.u:x5.underlying e6=some (.map cc ab):=by kernel_rfl
theorem en.u:x5.underlying en=some (.int .i8):=by kernel_rfl
theorem en.i:aE x5 en 1 1 (.int .i8 0):=aE.of (by kernel_rfl)
theorem bO.u:x5.underlying bO=some (.array 6 en):=by kernel_rfl
theorem bO.i:aE x5 bO 6 6 (.agg #[(.int .i8 0),(.int .i8 0),(.int .i8 0),(.int .i8 0),(.int .i8 0),(.int .i8 0)]):=aE.of (by kernel_rfl)
theorem ik.u:x5.underlying ik=some (.slice en):=by kernel_rfl
theorem gK.u:x5.underlying gK=some (.slice bO):=by kernel_rfl
theorem gK.i:aE x5 gK 1 24 (.slice none 0 0):=aE.of (by kernel_rfl)
theorem n5.u:x5.underlying n5=some (.array 64 bY):=by kernel_rfl
theorem iY.u:x5.underlying iY=some (.map aj ab):=by kernel_rfl
theorem jA.u:x5.underlying jA=some (.array 24 bY):=by kernel_rfl
theorem jA.i:aE x5 jA 24 24 (.agg #[(.int .u8 0),(.int .u8 0),(.int .u8 0),(.int .u8 0),(.int .u8 0),(.int .u8 0),(.int .u8 0),(.int .u8 0),(.int .u8 0),(.int .u8 0),(.int .u8 0),(.int .u8 0),(.int .u8 0),(.int .u8 0),(.int .u8 0),(.int .u8 0),(.int .u8 0),(.int .u8 0),(.int .u8 0),(.int .u8 0),(.int .u8 0),(.int .u8 0),(.int .u8 0),(.int .u8 0)]):=aE.of (by kernel_rfl)
theorem n7.u:x5.underlying n7=some (.array 20 e4):=by kernel_rfl
end Go.Proofs.YtgbkinibgjmodaaGreatDoor
namespace Go.Vc
open Go Go.RowKit
def bl:x1→Int
 | .int _ i=>i
 |_=>0
theorem wrap_i64 {x:Int} (h1: -9223372036854775808≤x) (E:x<9223372036854775808):X0.wrap x=x:=by
 simp only[r9.wrap,r9.bits,r9.signed];simp;omega
theorem wrap_u8 {x:Int} (h1:0≤x) (E:x<256):r9.u8.wrap x=x:=by
 simp only[r9.wrap,r9.bits,r9.signed];simp;omega
theorem Co {x:Int} (h1: -128≤x) (E:x<128):r9.i8.wrap x=x:=by
 simp only[r9.wrap,r9.bits,r9.signed];simp;omega
theorem wrap_u64 {x:Int} (h1:0≤x) (E:x<18446744073709551616):X9.wrap x=x:=by
 simp only[r9.wrap,r9.bits,r9.signed];simp;omega
abbrev ints (k:r9) (l:List Int):List x1:=l.map (Y5 k)
theorem mr (k:r9) (l:List Int):∀ u∈ints k l,u.oneCell'=true:=by
 intro u hu;obtain⟨x,_,rfl⟩:=o6.1 hu;rfl
theorem il {k:r9} {l:List Int} {i:Nat} {x:Int} (h:l[i]? =some x):(ints k l)[i]? =some (.int k x):=by simp[ints,h]
theorem qF {α:Type} {a b:List α} {i:Nat} {x y:α} (h:a.take i=b.take i) (E:a[i]? =some x) (J:b[i]? =some y) (O:x=y):a.take (i+1)=b.take (i+1):=by
 rw[u4,u4,h,E,J,O]
theorem dd {E:x2→Prop} {B:(x2→Prop)→Prop} (G:x2→Prop) (h1:∀ w,G w→E w) (O:∀ J:x2→Prop,(∀ w,G w→J w)→B J):bR E B:=O E h1
theorem aL {E:x1→x2→Prop} {B:(x1→x2→Prop)→Prop} (G:x1→x2→Prop) (h1:∀ v w,G v w→E v w)
  (O:∀ J:x1→x2→Prop,(∀ v w,G v w→J v w)→B J):bR E B:=O E h1
theorem gH {E:x1→x1→x2→Prop} {B:(x1→x1→x2→Prop)→Prop} (G:x1→x1→x2→Prop) (h1:∀ u v w,G u v w→E u v w)
  (O:∀ J:x1→x1→x2→Prop,(∀ u v w,G u v w→J u v w)→B J):bR E B:=O E h1
theorem ah.calls {P:Y3} {f:FuncId} {args:List x1} {w:x2} {K:x1→x2→Prop} (h:ah P f args w K) (E:Enters P f):Calls P f args.toArray w fun e w'=>∃ v,e= .returned v∧cA w w'∧K v w':=by
 cases h with
 |code _ h=>exact h
 |ext v w' h1=>rw[E] at h1;cases h1
theorem Cp {w w':x2} (J:Ext w w') (E:cA w w'):Below w.heap.size w w':=
 ⟨E.os,E.tape.1,E.output,J.size,fun k V=>by
  have O:w.heap[k]? =some w.heap[k]:=Array.getElem?_eq_getElem V;rw[O];cases U:fJ w.heap[k] with
  |true=>exact J.aW k _ O U
  |false=>exact E.aW k _ O U⟩
theorem uv {w:x2} {x:Addr} {v:x1} (h:w.cell? x=some v):x=⟨x.block,x.off,none⟩:=by
 obtain⟨b,o,s⟩:=x;cases s with
 |none=>rfl
 |some s=>
  unfold x2.cell? at h;split at h <;> simp at h
theorem Cq {k:r9} {w:x2} {a:Option Addr} {len cap:Nat} {E:List Int}
  (h:(a=none∧len=0∧cap=0∧E=[])∨
   ∃ x,a=some x∧len≤cap∧cap≤maxLen∧E.length=cap∧(∀ i,i<E.length→w.cell? (x.add i)=some (.int k (E.getD i 0)))∧ ∀ n∈E,(Lit.int k n).wf=true):
  bG w 1 (.slice a len cap) len (ints k (E.take len))∧ ∀ n∈E.take len,k.min≤n∧n≤k.max:=by
 rcases h with⟨rfl,rfl,rfl,rfl⟩|⟨x,rfl,h1,V,W,O,X⟩
 ·exact⟨bG.nil _ _,by simp⟩
 ·refine⟨⟨by simp[W,h1],x.block,x.off,some x,cap,rfl,h1,V,fun aa=>?_,fun j v ac=>?_⟩,fun n Y=>?_⟩
  ·have:=O 0 (by omega);exact congrArg some (uv this)
  ·have Z:=(x3.1 ac).1;rw[u7,o5] at Z;have J:x=⟨x.block,x.off,none⟩:=uv (v:=.int k (E.getD 0 0)) (O 0 (by omega));have U:=O j (by omega);rw[J,W5] at U;rw[U,←ac,ints,x6,c7 (by omega),u6,y0 (by omega)];rfl
  ·have:=X n (List.mem_of_mem_take Y);simpa[Lit.wf] using this
def aC (k:r9) (w:x2) (v:x1) (l:List Int):Prop:=bG w 1 v l.length (ints k l)
def am (k:r9) (e:u5) (w:x2) (g:Nat) (v:x1) (l:List Int):Prop:=br w g e 1 v l.length (ints k l)
theorem aC.ext {k:r9} {w w':x2} {v:x1} {l:List Int} (h:aC k w v l) (J:Ext w w'):aC k w' v l:=bG.ext h J
theorem am.ext {k:r9} {e:u5} {w w':x2} {g:Nat} {v:x1} {l:List Int} (h:am k e w g v l) (J:Ext w w'):am k e w' g v l:=br.ext h J
theorem am.U {k:r9} {e:u5} {S:Nat→Prop} {w w':x2} {g:Nat} {v:x1} {l:List Int} (h:am k e w g v l) (J:af S w w') (E:g<w.heap.size→¬S g):am k e w' g v l:=br.U h J E
theorem am.ls {k:r9} {e:u5} {w:x2} {g:Nat} {v:x1} {l:List Int} (h:am k e w g v l):aC k w v l:=br.sl h
theorem aC.of {k:r9} {w:x2} {v:x1} {n:Nat} {l:List Int} (h:bG w 1 v n (ints k l)):aC k w v l:=by
 have:l.length=n:=by simpa using h.1
 unfold aC;rw[this];exact h
theorem am.of {k:r9} {e:u5} {w:x2} {g:Nat} {v:x1} {n:Nat} {l:List Int} (h:br w g e 1 v n (ints k l)):am k e w g v l:=by
 have:l.length=n:=by simpa using h.1
 unfold am;rw[this];exact h
theorem aC.le {k:r9} {w:x2} {v:x1} {l:List Int} (h:aC k w v l):l.length≤9223372036854775807:=by
 have:=bG.le h;simpa[maxLen] using this
theorem aC.cells {k:r9} {w:x2} {v:x1} {l:List Int} (h:aC k w v l):v.cells= #[v]∧v.oneCell'=true:=by
 obtain⟨_,_,_,_,_,rfl,_⟩:=h;exact⟨rfl,rfl⟩
theorem am.nil (k:r9) (e:u5) (w:x2) (g:Nat):am k e w g (.slice none 0 0) []:=br.nil w g e 1
section
variable {P:Y3} {w:x2}
theorem aI {t e E:u5} {k:r9} {v:x1} {l:List Int} {K:x1→Prop} (J:P.underlying t=some (.slice e)) (h:aC k w v l):
  O P (Z8 #[t] E #[v]) w K=K (.int .i64 l.length):=by
 obtain⟨_,_,_,_,_,rfl,_⟩:=h;exact fy J
theorem a1 {t e:u5} {k E:r9} {b:Nat} {z v:x1} {l:List Int} {i:Nat} {x:Int} {K:x1→Prop} (U:P.underlying t=some (.slice e)) (hi:aE P e 1 b z) (h1:jC P e=true)
  (h:aC k w v l) (J:l[i]? =some x):O P (j4 t v (.int E (i:Int))) w (fun p=>O P (x7 e p) w K)=K (.int k x):=by
 have W:=(x3.1 J).1;obtain⟨_,_,_,_,_,rfl,_,_,X,Y⟩:=h;rw[gj U hi W X,W9,V h1 (Y i _ (il J))]
theorem eS {t e:u5} {k E:r9} {b:Nat} {z v:x1} {l:List Int} {i:Nat} {y x:Int} {K:x1→Prop} (U:y=(i:Int)) (V:P.underlying t=some (.slice e)) (hi:aE P e 1 b z) (h1:jC P e=true)
  (h:aC k w v l) (J:l[i]? =some x):O P (j4 t v (.int E y)) w (fun p=>O P (x7 e p) w K)=K (.int k x):=by
 subst U;exact a1 V hi h1 h J
theorem gM {t e V:u5} {k:r9} {b g:Nat} {z v x:x1} {l m:List Int} {K:x1→x2→Prop} (U:P.underlying t=some (.slice e)) (hi:aE P e 1 b z) (W:z.cells.size=1)
  (h:am k e w g v l) (J:aC k w x m) (X:(l.length+m.length)*b≤140737488355328) (Y:l.length+m.length≤9223372036854775807)
  (Z:∀ O E w',(E=g∨w.heap.size≤E)→am k e w' E O (l++m)→af (fun r=>r=g) w w'→K O w'):aA P (l5 #[t,t] V #[v,x]) w K:=
 km U U hi W h J (mr _ _) X (by simpa[maxLen] using Y) fun O E w' h1 aa ab=>Z O E w' h1 (am.of (by rw[ints,o9];exact aa)) ab
theorem dC {t e:u5} {k:r9} {b:Nat} {z:x1} {x:Int} {K:x1→x2→Prop} (O:P.underlying t=some (.slice e)) (hi:aE P e 1 b z) (X:z.cells.size=1)
  (h:∀ v g w',g=w.heap.size→Ext w w'→am k e w' g v [x]→K v w'):aA P (j9 t 1 #[(0,.int k x)]) w K:=
 hM O hi (by omega) (cs:=#[.int k x]) (by
   have U:∀ (a:Array x1),a.size=1→a.setIfInBounds 0 (.int k x)= #[.int k x]:=fun a E=>by
    apply Array.ext
    ·simp[E]
    ·intro i h1 Y;have:i=0:=by simp[E] at h1;exact h1
     subst this;simp
   simp only[Instr.fill,x1.cells,List.zipIdx];simp;exact U _ (by simp)) fun g w' V J W=>h _ g w' V J (am.of (n:=1) (br.full W rfl (by simp[maxLen])))
theorem ah.free {f:FuncId} {args:List x1} {K:x1→x2→Prop} (h:ah P f args w K):fh P f args w fun v w'=>cA w w'∧K v w':=by
 cases h with
 |code h1 E=>exact .code h1 (E.mono fun _ w' ⟨v,h1,J,E⟩=>⟨v,h1,J,E⟩)
 |ext v w' h1 E O=>exact .ext v w' h1 ⟨E,O⟩
theorem ax {a:Addr} {K:x1→Prop}:O P (bk (.pointer (some a))) w K=K (.pointer (some a)):=O.of fun _ _=>by
 simp[bk,nv,execOp]
theorem uw {t e:u5} {E J:r9} {n:Nat} {k O:Nat} {z:x1} {K:x1→x2→Prop} (V:P.underlying t=some (.slice e)) (hi:aE P e k O z) (aa:n*O≤281474976710656) (ab:n≤9223372036854775807)
  (h:∀ g w',g=w.heap.size→Ext w w'→ad w' g e (cS z.cells (n*k))→K (.slice (some ⟨g,0,none⟩) n n) w'):aA P (Instr.makeSlice t (.int E (n:Int)) (.int J (n:Int))) w K:=by
 obtain⟨i,hi,rfl,rfl,W⟩:=hi;have X:(i.bytes:Int)*(n:Int)≤281474976710656:=by
  rw[Int.mul_comm];have h:((n*i.bytes:Nat):Int)≤281474976710656:=by omega
  rwa [Int.natCast_mul] at h
 have U:=run_make (P:=P) w t e i z V hi W E J n n (by omega) (Int.le_refl _) X (by omega);have hm:madeCells z.cells ((n:Int).toNat*i.size)=(cS z.cells (n*i.size)).toArray:=by rw[cS,Array.toArray_toList];rfl
 rw[hm] at U;obtain⟨h1,Y,Z⟩:=og w (cS z.cells (n*i.size)) e;exact .of U Z (h _ _ rfl Y h1)
theorem Cr (v:x1) (n:Nat):cS #[v] n=v8 n v:=by
 apply List.ext_getElem
 ·simp[cS]
 ·intro i h1 E;simp[cS,Nat.mod_one]
theorem hN {t e:u5} {O U k:r9} {n:Nat} {E:Nat} {K:x1→x2→Prop} (V:P.underlying t=some (.slice e)) (hi:aE P e 1 E (.int k 0)) (W:n*E≤281474976710656) (X:n≤9223372036854775807)
  (h:∀ g w',g=w.heap.size→Ext w w'→ad w' g e (ints k (v8 n 0))→K (.slice (some ⟨g,0,none⟩) n n) w'):aA P (Instr.makeSlice t (.int O (n:Int)) (.int U (n:Int))) w K:=
 uw V hi W X fun g w' Y J Z=>h g w' Y J (by
  have e:cS (Y5 k 0).cells (n*1)=ints k (v8 n 0):=by rw[W9];show cS #[_] n=_;rw[Cr];simp[ints]
  rw[←e];exact Z)
theorem eo {t:u5} {E:List (Nat×Nat)} {b o k U:Nat} {z:x1} {cs:List x1} {K:x1→Prop} (hu:bn P t E) (hi:aE P t k U z) (V:cs.length=k)
  (h:w.rangeAt b o cs):O P (do loadVar t (←asAddr (.pointer (some ⟨b,o,none⟩)))) w K=K (.agg cs.toArray):=O.of fun w' J=>by
 obtain⟨W,hu,_⟩:=hu;have:=run_loadVar_mid (P:=P) w' b o t cs (.struct W) (lh J h) hu rfl (by rw[hi.size,V]);simp only[asAddr,Z4,Z9,Result.andThen_ok,this]
theorem Cs {cs vs:List x1} (h:vs.length=cs.length):over cs 0 vs=vs:=by
 rw[jD (by omega)];simp[h]
theorem bP {t e:u5} {k J g:Nat} {z:x1} {cs vs:List x1} {K:Unit→x2→Prop} (hi:aE P t k J z) (O:vs.length=k) (W:cs.length=k) (ac:∀ v∈vs,v.oneCell'=true) (U:ad w g e cs)
  (h:∀ w',af (fun r=>r=g) w w'→w'.heap.size=w.heap.size→ad w' g e vs→K () w'):aA P (o7 t (.pointer (some ⟨g,0,none⟩)) (.agg vs.toArray)) w K:=
 ur hi O ac U (by omega) fun w' h1 V E=>h w' h1 V (by rw[Cs (by omega)] at E;exact E)
end
abbrev an:=Nat→Prop
def hP (S:an) (w:x2) (k:Nat) (v:x1) (n:Nat) (cs:List x1):Prop:=
 cs.length=n*k∧ ∃ b o base cap,v= .slice base n cap∧n≤cap∧cap≤maxLen∧(0<n→base=some ⟨b,o,none⟩)∧(0<cs.length→S b)∧w.rangeAt b o cs
theorem hP.sl {S:an} {w:x2} {k:Nat} {v:x1} {n:Nat} {cs:List x1} (h:hP S w k v n cs):bG w k v n cs:=by
 obtain⟨h1,b,o,base,cap,E,J,O,U,_,V⟩:=h;exact⟨h1,b,o,base,cap,E,J,O,U,V⟩
theorem ux {w:x2} {b o:Nat} {cs:List x1} (h:w.rangeAt b o cs) (E:0<cs.length):b<w.heap.size:=by
 have:=h 0 cs[0] (y0 E);obtain⟨c,e,f,J,_⟩:=qC this;exact (o4.1 J).1
theorem hP.U {S T:an} {w w':x2} {k:Nat} {v:x1} {n:Nat} {cs:List x1} (h:hP S w k v n cs) (J:af T w w') (W:∀ r,r<w.heap.size→S r→¬T r):hP S w' k v n cs:=by
 obtain⟨h1,b,o,base,cap,X,Y,Z,aa,O,V⟩:=h;refine⟨h1,b,o,base,cap,X,Y,Z,aa,O,?_⟩;rcases Nat.eq_zero_or_pos cs.length with E|E
 ·intro j v ac;have:=(x3.1 ac).1;omega
 ·exact oa J (W b (ux V E) (O E)) V
theorem hP.mono {S T:an} {w:x2} {k:Nat} {v:x1} {n:Nat} {cs:List x1} (h:hP S w k v n cs) (O:∀ r,r<w.heap.size→S r→T r):hP T w k v n cs:=by
 obtain⟨h1,b,o,base,cap,U,V,W,X,Y,E⟩:=h;exact⟨h1,b,o,base,cap,U,V,W,X,fun J=>O b (ux E J) (Y J),E⟩
class ay (α:Type) where
 n:Nat
 rep:Bool→an→an→x2→List x1→α→Prop
 len:∀ {m S R w cs a},rep m S R w cs a→cs.length=n
 one:∀ {m S R w cs a},rep m S R w cs a→ ∀ u∈cs,u.oneCell'=true
 U:∀ {m S R T w w' cs a},rep m S R w cs a→af T w w'→(∀ r,r<w.heap.size→S r∨R r→¬T r)→rep m S R w' cs a
 mono:∀ {m S S' R R' w cs a},rep m S R w cs a→(∀ r,r<w.heap.size→S r→S' r)→(∀ r,r<w.heap.size→R r→R' r)→rep m S' R' w cs a
 fL:∀ {m S R w cs a},rep m S R w cs a→rep false (fun _=>False) (fun r=>S r∨R r) w cs a
section
variable {α β:Type} [ay α] [ay β] {m:Bool} {S R T:an} {w w':x2}
abbrev de (S R:an) (w:x2) (cs:List x1) (a:α):Prop:=ay.rep true S R w cs a
abbrev Seen (R:an) (w:x2) (cs:List x1) (a:α):Prop:=ay.rep false (fun _=>False) R w cs a
abbrev uy:an:=fun _=>True
theorem cT {cs:List x1} {a:α} (h:ay.rep m S R w cs a) (J:Ext w w'):ay.rep m S R w' cs a:=ay.U h (J.U fun _=>False) fun _ _ _ h=>h
theorem jE {cs:List x1} {a:α} (h:ay.rep m S R w cs a):ay.rep m (fun r=>S r∧r<w.heap.size) R w cs a:=ay.mono h (fun _ h1 E=>⟨E,h1⟩) fun _ _ h=>h
theorem Ct {cs:List x1} {a:α} (h:ay.rep m S R w cs a):Seen uy w cs a:=ay.mono (ay.fL h) (fun _ _ h=>h.elim) fun _ _ _=>trivial
theorem oh {cs:List x1} {a:α} {Q:an} (h:ay.rep m S R w cs a) (E:∀ r,r<w.heap.size→S r∨R r→Q r):Seen Q w cs a:=ay.mono (ay.fL h) (fun _ _ h=>h.elim) E
instance:ay Int where
 n:=1
 rep _ _ _ _ cs a:=cs=[.int .i64 a]
 len h:=by subst h;rfl
 one h:=by subst h;intro u hu;simp at hu;subst hu;rfl
 U h _ _:=h
 mono h _ _:=h
 fL h:=h
instance:ay Bool where
 n:=1
 rep _ _ _ _ cs a:=cs=[.bool a]
 len h:=by subst h;rfl
 one h:=by subst h;intro u hu;simp at hu;subst hu;rfl
 U h _ _:=h
 mono h _ _:=h
 fL h:=h
instance:ay ByteArray where
 n:=1
 rep _ _ _ _ cs a:=cs=[.string a]
 len h:=by subst h;rfl
 one h:=by subst h;intro u hu;simp at hu;subst hu;rfl
 U h _ _:=h
 mono h _ _:=h
 fL h:=h
def Rd (α:Type):Type:=α
instance Jv:ay (Rd α) where
 n:=ay.n α
 rep _ _ R w cs a:=ay.rep (α:=α) false (fun _=>False) R w cs a
 len h:=ay.len (α:=α) h
 one h:=ay.one (α:=α) h
 U h J E:=ay.U (α:=α) h J fun r O h=>E r O (.inr (h.elim False.elim id))
 mono h _ V:=ay.mono (α:=α) h (fun _ _ h=>h) V
 fL h:=ay.mono (α:=α) h (fun _ _ h=>h) fun _ _ h=>.inr h
instance Jw:ay (α×β) where
 n:=ay.n α+ay.n β
 rep m S R w cs a:=∃ c d A B,cs=c++d∧(∀ r,A r→S r)∧(∀ r,B r→S r)∧(m=true→ ∀ r,A r→¬B r)∧ay.rep m A R w c a.1∧ay.rep m B R w d a.2
 len:=by
  rintro m S R w cs a ⟨c,d,A,B,rfl,_,_,_,h1,E⟩;simp[ay.len h1,ay.len E]
 one:=by
  rintro m S R w cs a ⟨c,d,A,B,rfl,_,_,_,h1,E⟩ u hu;rcases p9.1 hu with hu|hu
  ·exact ay.one h1 u hu
  ·exact ay.one E u hu
 U:=by
  rintro m S R T w w' cs a ⟨c,d,A,B,rfl,V,W,Y,h1,E⟩ J X;exact⟨c,d,A,B,rfl,V,W,Y,ay.U h1 J fun r O h=>X r O (h.imp (V r) id),ay.U E J fun r O h=>X r O (h.imp (W r) id)⟩
 mono:=by
  rintro m S S' R R' w cs a ⟨c,d,A,B,rfl,V,W,Y,h1,E⟩ X Z;exact⟨c,d,fun r=>A r∧r<w.heap.size,fun r=>B r∧r<w.heap.size,rfl,fun r h=>X r h.2 (V r h.1),fun r h=>X r h.2 (W r h.1),fun hm r h k=>Y hm r h.1 k.1,
   ay.mono h1 (fun r O h=>⟨h,O⟩) Z,ay.mono E (fun r O h=>⟨h,O⟩) Z⟩
 fL:=by
  rintro m S R w cs a ⟨c,d,A,B,rfl,V,W,Y,h1,E⟩;exact⟨c,d,fun _=>False,fun _=>False,rfl,fun _ h=>h.elim,fun _ h=>h.elim,(fun h=>by cases h),ay.mono (ay.fL h1) (fun _ _ h=>h) fun r _ h=>h.imp (V r) id,
   ay.mono (ay.fL E) (fun _ _ h=>h) fun r _ h=>h.imp (W r) id⟩
def jF (m:Bool) (R:an) (F:Nat→an) (w:x2) (vs:List (List x1)) (l:List α):Prop:=
 vs.length=l.length∧ ∀ (i:Nat) (c:List x1) (a:α),vs[i]? =some c→l[i]? =some a→ay.rep m (F i) R w c a
structure uz (m:Bool) (S:an) (g:Nat) (F:Nat→an):Prop where
 sub:∀ i r,F i r→S r
 top:m=true→ ∀ i,¬F i g
 uA:m=true→ ∀ i j r,i≠j→F i r→¬F j r
theorem jF.len {F:Nat→an} {vs:List (List x1)} {l:List α} (h:jF m R F w vs l):∀ c∈vs,c.length=ay.n α:=by
 intro c E;obtain⟨i,hi,rfl⟩:=List.mem_iff_getElem.1 E;exact ay.len (h.2 i _ _ (y0 hi) (y0 (h.1▸hi)))
theorem jF.one {F:Nat→an} {vs:List (List x1)} {l:List α} (h:jF m R F w vs l):∀ u∈vs.flatten,u.oneCell'=true:=by
 intro u hu;obtain⟨c,E,hu⟩:=List.mem_flatten.1 hu;obtain⟨i,hi,rfl⟩:=List.mem_iff_getElem.1 E;exact ay.one (h.2 i _ _ (y0 hi) (y0 (h.1▸hi))) u hu
theorem ko {k:Nat}:∀ {vs:List (List x1)},(∀ c∈vs,c.length=k)→ ∀ {i j:Nat} {c:List x1},vs[i]? =some c→j<k→vs.flatten[i*k+j]? =c[j]?
 |O::r,h,0,j,c,E,U=>by
  simp only[List.getElem?_cons_zero,b9] at E;subst E;rw[List.flatten_cons,Z0 (by rw[h _ (.head _)];omega)];simp
 |O::r,h,i+1,j,c,E,U=>by
  simp only[List.getElem?_cons_succ] at E;have V:=h O (.head _);rw[List.flatten_cons,Z2 (by rw[V,W3];omega),V,W3,show i*k+1*k+j-k=i*k+j by omega];exact ko (fun x J=>h x (.tail _ J)) E U
 |[],_,i,_,c,E,_=>by simp at E
instance instList:ay (List α) where
 n:=1
 rep m S R w cs l:=∃ v,cs=[v]∧ ∃ (vs:List (List x1)) (g:Nat) (F:Nat→an),uz m S g F∧jF m R F w vs l∧hP (fun r=>S r∨R r) w (ay.n α) v l.length vs.flatten∧
  (m=true→(v= .slice none 0 0∨S g)∧ ∃ e,br w g e (ay.n α) v l.length vs.flatten)
 len:=by rintro m S R w cs a ⟨v,rfl,_⟩;rfl
 one:=by
  rintro m S R w cs a ⟨v,rfl,vs,g,F,_,_,⟨_,_,_,_,_,rfl,_⟩,_⟩ u hu;simp at hu;subst hu;rfl
 U:=by
  rintro m S R T w w' cs a ⟨v,rfl,vs,g,F,O,he,Y,hm⟩ J W;refine⟨v,rfl,vs,g,F,O,⟨he.1,fun i c a Z aa=>ay.U (he.2 i c a Z aa) J fun r V h=>W r V (h.imp (O.sub i r) id)⟩,Y.U J W,fun h=>?_⟩;obtain⟨h1,e,E⟩:=hm h;refine⟨h1,e,?_⟩;rcases h1 with rfl|h1
  ·obtain⟨ac,⟨_,X⟩|⟨_,_,X,_⟩⟩:=E
   ·exact⟨ac,.inl ⟨rfl,X⟩⟩
   ·cases X
  ·exact E.U J fun V=>W g V (.inl h1)
 mono:=by
  rintro m S S' R R' w cs a ⟨v,rfl,vs,g,F,O,he,Y,hm⟩ W ab;refine⟨v,rfl,vs,g,fun i r=>F i r∧r<w.heap.size,⟨fun i r h=>W r h.2 (O.sub i r h.1),fun h i E=>O.top h i E.1,fun h i j r ad h1 E=>O.uA h i j r ad h1.1 E.1⟩,
   ⟨he.1,fun i c a Z aa=>ay.mono (he.2 i c a Z aa) (fun r V h=>⟨h,V⟩) ab⟩,Y.mono fun r V h=>h.imp (W r V) (ab r V),fun h=>?_⟩
  obtain⟨h1,e,E⟩:=hm h;refine⟨?_,e,E⟩;obtain⟨_,⟨X,_⟩|⟨_,_,X,ae,_⟩⟩:=E
  ·exact .inl X
  ·rcases h1 with h1|h1
   ·exact .inl h1
   ·exact .inr (W g ae.lt h1)
 fL:=by
  rintro m S R w cs a ⟨v,rfl,vs,g,F,O,he,Y,hm⟩;exact⟨v,rfl,vs,g,fun _ _=>False,⟨fun _ _ h=>h,(fun h=>by cases h),fun h=>by cases h⟩,
   ⟨he.1,fun i c a Z aa=>ay.mono (ay.fL (he.2 i c a Z aa)) (fun _ _ h=>h) fun r _ h=>h.imp (O.sub i r) id⟩,Y.mono fun r _ h=>.inr h,fun h=>by cases h⟩
end
section
variable {P:Y3} {w:x2} {α β:Type} [ay α] [ay β] {m:Bool} {S R:an}
theorem jG {v:x1} {l:List α} (h:ay.rep m S R w [v] l):∃ (vs:List (List x1)) (g:Nat) (F:Nat→an),uz m S g F∧jF m R F w vs l∧hP (fun r=>S r∨R r) w (ay.n α) v l.length vs.flatten∧
  (m=true→(v= .slice none 0 0∨S g)∧ ∃ e,br w g e (ay.n α) v l.length vs.flatten):=by
 obtain⟨_,E,h⟩:=h;cases E;exact h
theorem qG {v:x1} {a:α} (h:ay.rep m S R w [v] a):v.oneCell'=true:=ay.one h v (.head _)
theorem oi {v:x1} {l:List α} (h:ay.rep m S R w [v] l):v.cells= #[v]:=by
 obtain⟨_,_,_,_,_,⟨_,_,_,_,_,rfl,_⟩,_⟩:=jG h;rfl
theorem qH {v:x1} {l:List α} (h:ay.rep m S R w [v] l):l.length≤9223372036854775807:=by
 obtain⟨_,_,_,_,_,h,_⟩:=jG h;have:=h.sl.le;simpa[maxLen] using this
theorem im:ay.rep m S R w [.slice none 0 0] ([]:List α):=
 ⟨_,rfl,[],0,fun _ _=>False,⟨fun _ _ h=>h.elim,fun _ _ h=>h,fun _ _ _ _ _ h=>h.elim⟩,⟨rfl,fun i c a E=>by simp at E⟩,
  ⟨by simp,0,0,none,0,rfl,u9 _,Z1 _,fun h=>absurd h (Nat.lt_irrefl _),fun h=>by simp at h,fun j v h=>by simp at h⟩,
  fun _=>⟨.inl rfl,0,br.nil w 0 0 _⟩⟩
theorem Cu {F:Nat→an} {vs:List (List x1)} {l:List Int} (h:jF m R F w vs l):vs.flatten=ints .i64 l:=by
 have:vs=l.map fun x=>[Y5 .i64 x]:=by
  apply List.ext_getElem
  ·simp[h.1]
  ·intro i h1 E;have J:i<l.length:=by simpa using E
   have:=h.2 i _ _ (y0 h1) (y0 J);rw[List.getElem_map];exact this
 subst this;clear h;induction l with
 |nil=>rfl
 |cons x l O=>simp only[List.map_cons,List.flatten_cons,O];rfl
theorem jH {v:x1} {l:List Int} (h:ay.rep m S R w [v] l):aC .i64 w v l:=by
 obtain⟨vs,g,F,_,he,E,_⟩:=jG h;have:=E.sl;rw[Cu he] at this;exact this
theorem io {t e E:u5} {v:x1} {l:List α} {K:x1→Prop} (J:P.underlying t=some (.slice e)) (h:ay.rep m S R w [v] l):
  O P (Z8 #[t] E #[v]) w K=K (.int .i64 l.length):=by
 obtain⟨_,_,_,_,_,⟨_,_,_,_,_,rfl,_⟩,_⟩:=jG h;exact fy J
theorem oj {t e:u5} {W:r9} {i b:Nat} {y:Int} {z v:x1} {l:List α} {a:α} {K:x1→Prop} (X:y=(i:Int)) (Y:P.underlying t=some (.slice e)) (hi:aE P e (ay.n α) b z)
  (h:ay.rep m S R w [v] l) (E:l[i]? =some a) (Z:∀ b o cs,w.rangeAt b o cs→ay.rep m S R w cs a→K (.pointer (some ⟨b,o,none⟩))):O P (j4 t v (.int W y)) w K:=by
 subst X;obtain⟨vs,g,F,aa,he,⟨_,b,o,base,cap,rfl,_,_,ab,_,ac⟩,_⟩:=jG h;have J:=(x3.1 E).1;rw[gj Y hi J ab];obtain⟨c,U⟩:∃ c,vs[i]? =some c:=⟨_,y0 (by rw[he.1];exact J)⟩;have V:=he.2 i c a U E;have ad:=ay.len V;refine Z _ _ c (fun j u hu=>?_) (ay.mono V (fun r _ h=>aa.sub i r h) fun _ _ h=>h);have ae:=(x3.1 hu).1;rw[Nat.add_assoc];refine ac (i*ay.n α+j) u ?_;rw[ko he.len U (by omega)];exact hu
theorem uB {t e:u5} {U:r9} {i b:Nat} {y:Int} {z v:x1} {l:List α} {a:α} {K:x1→Prop} (W:ay.n α=1) (X:y=(i:Int)) (Y:P.underlying t=some (.slice e)) (hi:aE P e (ay.n α) b z)
  (h1:jC P e=true) (h:ay.rep m S R w [v] l) (Z:l[i]? =some a) (aa:∀ u,ay.rep m S R w [u] a→K u):
  O P (j4 t v (.int U y)) w fun p=>O P (x7 e p) w K:=by
 refine oj X Y hi h Z fun b o cs ab E=>?_;have J:=ay.len E;rw[W] at J;obtain⟨u,rfl⟩:=W8.1 J;rw[V h1 (by have:=ab 0 u rfl;simpa using this)];exact aa u E
theorem lk {t e:u5} {J:List (Nat×Nat)} {U:r9} {i b:Nat} {y:Int} {z v:x1} {l:List α} {a:α} {K:x1→Prop} (hu:bn P e J) (V:y=(i:Int)) (W:P.underlying t=some (.slice e)) (hi:aE P e (ay.n α) b z)
  (h:ay.rep m S R w [v] l) (X:l[i]? =some a) (Y:∀ cs,ay.rep m S R w cs a→K (.agg cs.toArray)):
  O P (j4 t v (.int U y)) w fun p=>O P (x7 e p) w K:=by
 refine oj V W hi h X fun b o cs Z E=>?_;rw[bj hu hi (ay.len E) Z];exact Y cs E
theorem qI {g:Nat} {e:u5} {k:Nat} {v:x1} {n:Nat} {xs:List x1} (h:br w g e k v n xs) (E:v= .slice none 0 0∨S g):hP S w k v n xs:=by
 obtain⟨h1,⟨rfl,rfl⟩|⟨cap,cs,rfl,J,O,U,W,V⟩⟩:=h
 ·have:xs=[]:=o8 (by simpa using h1);subst this;exact⟨by simp,0,0,none,0,rfl,u9 _,Z1 _,fun h=>absurd h (Nat.lt_irrefl _),fun h=>by simp at h,fun j v h=>by simp at h⟩
 ·refine⟨h1,g,0,_,cap,rfl,O,U,fun _=>rfl,fun _=>E.resolve_left (by simp),fun j v ac=>?_⟩;rw[V3];have X:=(x3.1 ac).1;rw[←V,c7 (by omega)] at ac;exact J.cell ac
open Classical in
theorem Cv {t al e ap aq:u5} {b:Nat} {z v x:x1} {us:List (List x1)} {l l':List α} {G:Nat→an} {K:x1→x2→Prop} (au:P.underlying t=some (.slice e)) (av:P.underlying al=some (.slice ap)) (hi:aE P e (ay.n α) b z) (aw:z.cells.size=ay.n α)
  (h:de S R w [v] l) (J:bG w (ay.n α) x l'.length us.flatten) (ae:jF true R G w us l') (ax:∀ i j r,i≠j→G i r→¬G j r)
  (aa:∀ r,r<w.heap.size→S r→(∀ i,¬G i r)∧¬R r) (az:(l.length+l'.length)*b≤140737488355328) (aB:l.length+l'.length≤9223372036854775807)
  (aC:∀ O w',de (fun r=>S r∨(∃ i,G i r)∨w.heap.size≤r) R w' [O] (l++l')→af S w w'→K O w'):aA P (l5 #[t,al] aq #[v,x]) w K:=by
 obtain⟨vs,g,F,X,he,aI,hm⟩:=jG h;obtain⟨ag,aJ,am⟩:=hm rfl;refine ut au av hi aw am J ae.one az (by simpa[maxLen] using aB) ?_;intro O ab w' aD aF ah ai;have aj:∀ r,r=g∧v≠ .slice none 0 0→S r:=fun r ⟨h1,E⟩=>h1▸ag.resolve_left E;have aG:=am;have ak:(O= .slice none 0 0)∨(ab=g∧S g∧g<w.heap.size)∨ab=w.heap.size:=by
  rcases aF with⟨h1,_,E|E⟩|⟨h1,_⟩
  ·rcases ag with V|V
   ·exact .inl (E▸V)
   ·obtain⟨_,⟨W,_⟩|⟨_,_,_,W,_⟩⟩:=aG
    ·exact .inl (E▸W)
    ·exact .inr (.inl ⟨h1,V,W.lt⟩)
  ·exact .inr (.inl ⟨h1,ag.resolve_left E.2,E.1⟩)
  ·exact .inr (.inr h1)
 refine aC O w' ⟨O,rfl,vs++us,if O= .slice none 0 0 then w.heap.size else ab,fun i r=>if i<l.length then F i r∧r<w.heap.size else G (i-l.length) r∧r<w.heap.size,⟨fun i r h=>?_,fun _ i h=>?_,fun _ i j r aH h1 E=>?_⟩,⟨by simp[he.1,ae.1],fun i c a hi ad=>?_⟩,?_,fun _=>⟨?_,aD,?_⟩⟩ (ai.mono fun r _ h=>aj r h)
 ·split at h
  ·exact .inl (X.sub i r h.1)
  ·exact .inr (.inl ⟨_,h.1⟩)
 ·have Y:(if O= .slice none 0 0 then w.heap.size else ab)<w.heap.size:=by split at h <;> exact h.2
  split at Y
  ·omega
  ·rename_i ac;rw[if_neg ac] at h;rcases ak with h1|⟨rfl,E,V⟩|h1
   ·exact ac h1
   ·split at h
    ·exact X.top rfl i h.1
    ·exact (aa _ V E).1 _ h.1
   ·omega
 ·split at h1 <;> split at E
  ·exact X.uA rfl i j r aH h1.1 E.1
  ·exact (aa r h1.2 (X.sub i r h1.1)).1 _ E.1
  ·exact (aa r h1.2 (X.sub j r E.1)).1 _ h1.1
  ·exact ax (i-l.length) (j-l.length) r (by omega) h1.1 E.1
 ·have ao:∀ r,r<w.heap.size→R r→¬(r=g∧v≠ .slice none 0 0):=fun r Z h1 E=>(aa r Z (aj r E)).2 h1;by_cases Y:i<l.length
  ·rw[Z0 (by rw[he.1];exact Y)] at hi;rw[Z0 Y] at ad;simp only[if_pos Y];refine ay.U (jE (he.2 i c a hi ad)) ai fun r Z h1 E=>?_;rcases h1 with h1|h1
   ·exact X.top rfl i (E.1▸h1.1)
   ·exact ao r Z h1 E
  ·rw[Z2 (by rw[he.1];omega),he.1] at hi;rw[Z2 (by omega)] at ad;simp only[if_neg Y];refine ay.U (jE (ae.2 _ c a hi ad)) ai fun r Z h1 E=>?_;rcases h1 with h1|h1
   ·exact (aa r Z (aj r E)).1 _ h1.1
   ·exact ao r Z h1 E
 ·rw[r8,List.flatten_append];refine qI ah ?_;rcases ak with h1|⟨rfl,E,_⟩|rfl
  ·exact .inl h1
  ·exact .inr (.inl (.inl E))
  ·exact .inr (.inl (.inr (.inr (u9 _))))
 ·rcases ak with h1|⟨rfl,E,_⟩|rfl
  ·exact .inl h1
  ·by_cases ac:O= .slice none 0 0
   ·exact .inl ac
   ·rw[if_neg ac];exact .inr (.inl E)
  ·split
   ·exact .inr (.inr (.inr (u9 _)))
   ·exact .inr (.inr (.inr (u9 _)))
 ·rw[r8,List.flatten_append];by_cases ac:O= .slice none 0 0
  ·subst ac;obtain⟨V,⟨_,W⟩|⟨_,_,W,_⟩⟩:=ah
   ·exact⟨V,.inl ⟨rfl,W⟩⟩
   ·cases W
  ·rw[if_neg ac];exact ah
theorem ll {t e ab:u5} {b:Nat} {z v x:x1} {cs:List x1} {l:List α} {a:α} {A:an} {K:x1→x2→Prop} (X:P.underlying t=some (.slice e)) (hi:aE P e (ay.n α) b z) (ac:z.cells.size=ay.n α)
  (h:de S R w [v] l) (J:bG w (ay.n α) x 1 cs) (ad:de A R w cs a) (Y:∀ r,r<w.heap.size→S r→¬(A r∨R r)) (E:(l.length+1)*b≤140737488355328) (ae:l.length+1≤9223372036854775807)
  (ag:∀ O w',de (fun r=>S r∨A r∨w.heap.size≤r) R w' [O] (l++[a])→af S w w'→K O w'):aA P (l5 #[t,t] ab #[v,x]) w K:=by
 refine Cv (l':=[a]) (us:=[cs]) (G:=fun i r=>i=0∧A r) X X hi ac h (by simpa using J) ⟨rfl,fun i c b U E=>?_⟩ (fun i j r ah h1 V=>ah (h1.1.trans V.1.symm)) (fun r Z aa=>⟨fun i h=>Y r Z aa (.inl h.2),fun h=>Y r Z aa (.inr h)⟩) (by simpa using E) (by simpa using ae)
  fun O w' h1 V=>ag O w' (ay.mono h1 (fun r _ h=>h.imp id (Or.imp (fun⟨_,h⟩=>h.2) id)) fun _ _ h=>h) V
 have W:=(x3.1 U).1;have W:i=0:=by simpa using W
 subst W;simp at U E;subst U E;exact ay.mono ad (fun r _ h=>⟨rfl,h⟩) fun _ _ h=>h
end
theorem uC:∀ (c:List x1) (i:Nat) (z:Array x1),(i+c.length≤z.size)→((c.zipIdx i).foldl (fun cs (x:x1×Nat)=>cs.setIfInBounds x.2 x.1) z).toList=z.toList.take i++c++z.toList.drop (i+c.length)
 |[],i,z,h=>by simp
 |x::r,i,z,h=>by
  simp only[l6] at h;rw[List.zipIdx_cons,List.foldl_cons,uC r (i+1) _ (by simp;omega)];simp only[Array.toList_setIfInBounds,l6];rw[List.drop_set_of_lt (by omega),List.take_set,u4,y0 (by simp;omega)];simp only[l9];rw[List.set_append_right _ _ (by simp;omega)];have e:i-(z.toList.take i).length=0:=by simp;omega
  rw[e,show i+1+r.length=i+(r.length+1) by omega];simp
theorem uD {k:Nat} {z:Array x1} {v:x1} (E:z.size=k) (ac:v.cells.size=k):Instr.fill (fun j=>some (j*k,k)) z [(0,v)]=some v.cells:=by
 have h:=uC v.cells.toList 0 z (by simp;omega);simp only[Instr.fill,Nat.zero_mul,V3];rw[if_neg (by simp;omega)];congr 1;apply Array.toList_inj.1;rw[←Array.foldl_toList,Array.toList_zipIdx,h];simp;omega
section
variable {P:Y3} {w:x2} {α β:Type} [ay α] [ay β] {m:Bool} {S R:an}
theorem kp {t e:u5} {b:Nat} {z x:x1} {cs:List x1} {a:α} {A:an} {K:x1→x2→Prop} (X:P.underlying t=some (.slice e)) (hi:aE P e (ay.n α) b z) (af:ay.n α≤100000)
  (J:x.cells=cs.toArray) (U:de A R w cs a)
  (Y:∀ v w',Ext w w'→de (fun r=>A r∨w.heap.size≤r) R w' [v] [a]→bG w' (ay.n α) v 1 cs→K v w'):aA P (j9 t 1 #[(0,x)]) w K:=by
 have Z:=ay.len U;refine hM X hi (by omega) (cs:=x.cells) (uD (by simp) (by rw[J];simpa using Z)) fun g w' ag V E=>?_;have E:ad w' g e cs:=by rw[J] at E;simpa using E
 have hm:br w' g e (ay.n α) (.slice (some ⟨g,0,none⟩) 1 1) 1 cs:=br.full E (by omega) (by simp[maxLen]);refine Y _ w' V ⟨_,rfl,[cs],g,fun i r=>i=0∧A r∧r<w.heap.size,⟨fun i r h=>.inl h.2.1,fun _ i h=>by omega,fun _ i j r aa h1 ab=>aa (h1.1.trans ab.1.symm)⟩,⟨rfl,fun i c a' O W=>?_⟩,?_,fun _=>⟨.inr (.inr (by omega)),e,by simpa using hm⟩⟩ hm.sl
 ·have ac:i=0:=by simpa using (x3.1 O).1
  subst ac;simp at O W;subst O W;exact cT (ay.mono U (fun r ae h=>⟨rfl,h,ae⟩) fun _ _ h=>h) V
 ·have:=qI (S:=fun r=>(A r∨w.heap.size≤r)∨R r) hm (.inr (.inl (.inr (by omega))));simpa using this
end
theorem bV.range {w:x2} {B:x1→x2→(x1→x2→Prop)→Prop} (n:Nat) (I:Nat→x2→Prop)
  (V:n≤9223372036854775807) (J:I 0 w)
  (O:∀ (i:Nat) (w:x2) (k:x1→x2→Prop),i<n→I i w→(∀ w',I (i+1) w'→k (.int .i64 (X0.wrap ((i:Int)+1))) w')→B (.int .i64 (i:Int)) w k)
  (U:∀ (w:x2) (k:x1→x2→Prop),I n w→B (.int .i64 (n:Int)) w k):bV (.int .i64 0) w B:=by
 refine⟨fun t w=>∃ i:Nat,t= .int .i64 (i:Int)∧i≤n∧I i w,fun t _=>n-(bl t).toNat,⟨0,rfl,Z1 _,J⟩,?_⟩;rintro _ w ⟨i,rfl,hi,h⟩;by_cases E:i<n
 ·refine O i w _ E h fun w' h'=>⟨⟨i+1,?_,E,h'⟩,?_⟩
  ·rw[wrap_i64 (by omega) (by omega)];rfl
  ·rw[wrap_i64 (by omega) (by omega)];simp only[bl];omega
 ·have:i=n:=by omega
  subst this;exact U w _ h
theorem bM.range {a:x1} {w:x2} {B:x1→x1→x2→(x1→x1→x2→Prop)→Prop} (n:Nat) (I:Nat→x1→x2→Prop)
  (V:n≤9223372036854775807) (J:I 0 a w)
  (O:∀ (i:Nat) (a:x1) (w:x2) (k:x1→x1→x2→Prop),i<n→I i a w→(∀ a' w',I (i+1) a' w'→k a' (.int .i64 (X0.wrap ((i:Int)+1))) w')→B a (.int .i64 (i:Int)) w k)
  (U:∀ (a:x1) (w:x2) (k:x1→x1→x2→Prop),I n a w→B a (.int .i64 (n:Int)) w k):bM a (.int .i64 0) w B:=by
 refine⟨fun a t w=>∃ i:Nat,t= .int .i64 (i:Int)∧i≤n∧I i a w,fun a t _=>n-(bl t).toNat,⟨0,rfl,Z1 _,J⟩,?_⟩;rintro a _ w ⟨i,rfl,hi,h⟩;by_cases E:i<n
 ·refine O i a w _ E h fun a' w' h'=>⟨⟨i+1,?_,E,h'⟩,?_⟩
  ·rw[wrap_i64 (by omega) (by omega)];rfl
  ·rw[wrap_i64 (by omega) (by omega)];simp only[bl];omega
 ·have:i=n:=by omega
  subst this;exact U a w _ h
theorem k3.range {a b:x1} {w:x2} {B:x1→x1→x1→x2→(x1→x1→x1→x2→Prop)→Prop} (n:Nat) (I:Nat→x1→x1→x2→Prop)
  (W:n≤9223372036854775807) (O:I 0 a b w)
  (U:∀ (i:Nat) (a b:x1) (w:x2) (k:x1→x1→x1→x2→Prop),i<n→I i a b w→(∀ a' E w',I (i+1) a' E w'→k a' E (.int .i64 (X0.wrap ((i:Int)+1))) w')→B a b (.int .i64 (i:Int)) w k)
  (V:∀ (a b:x1) (w:x2) (k:x1→x1→x1→x2→Prop),I n a b w→B a b (.int .i64 (n:Int)) w k):k3 a b (.int .i64 0) w B:=by
 refine⟨fun a b t w=>∃ i:Nat,t= .int .i64 (i:Int)∧i≤n∧I i a b w,fun a b t _=>n-(bl t).toNat,⟨0,rfl,Z1 _,O⟩,?_⟩;rintro a b _ w ⟨i,rfl,hi,h⟩;by_cases J:i<n
 ·refine U i a b w _ J h fun a' E w' h'=>⟨⟨i+1,?_,J,h'⟩,?_⟩
  ·rw[wrap_i64 (by omega) (by omega)];rfl
  ·rw[wrap_i64 (by omega) (by omega)];simp only[bl];omega
 ·have:i=n:=by omega
  subst this;exact V a b w _ h
theorem nF.range {a b c:x1} {w:x2} {B:x1→x1→x1→x1→x2→(x1→x1→x1→x1→x2→Prop)→Prop} (n:Nat) (I:Nat→x1→x1→x1→x2→Prop)
  (X:n≤9223372036854775807) (U:I 0 a b c w)
  (V:∀ (i:Nat) (a b c:x1) (w:x2) (k:x1→x1→x1→x1→x2→Prop),i<n→I i a b c w→(∀ a' E J w',I (i+1) a' E J w'→k a' E J (.int .i64 (X0.wrap ((i:Int)+1))) w')→B a b c (.int .i64 (i:Int)) w k)
  (W:∀ (a b c:x1) (w:x2) (k:x1→x1→x1→x1→x2→Prop),I n a b c w→B a b c (.int .i64 (n:Int)) w k):nF a b c (.int .i64 0) w B:=by
 refine⟨fun a b c t w=>∃ i:Nat,t= .int .i64 (i:Int)∧i≤n∧I i a b c w,fun a b c t _=>n-(bl t).toNat,⟨0,rfl,Z1 _,U⟩,?_⟩;rintro a b c _ w ⟨i,rfl,hi,h⟩;by_cases O:i<n
 ·refine V i a b c w _ O h fun a' E J w' h'=>⟨⟨i+1,?_,O,h'⟩,?_⟩
  ·rw[wrap_i64 (by omega) (by omega)];rfl
  ·rw[wrap_i64 (by omega) (by omega)];simp only[bl];omega
 ·have:i=n:=by omega
  subst this;exact W a b c w _ h
theorem ma.range {a b c d:x1} {w:x2} {B:x1→x1→x1→x1→x1→x2→(x1→x1→x1→x1→x1→x2→Prop)→Prop} (n:Nat) (I:Nat→x1→x1→x1→x1→x2→Prop)
  (Y:n≤9223372036854775807) (V:I 0 a b c d w)
  (W:∀ (i:Nat) (a b c d:x1) (w:x2) (k:x1→x1→x1→x1→x1→x2→Prop),i<n→I i a b c d w→(∀ a' E J O w',I (i+1) a' E J O w'→k a' E J O (.int .i64 (X0.wrap ((i:Int)+1))) w')→B a b c d (.int .i64 (i:Int)) w k)
  (X:∀ (a b c d:x1) (w:x2) (k:x1→x1→x1→x1→x1→x2→Prop),I n a b c d w→B a b c d (.int .i64 (n:Int)) w k):ma a b c d (.int .i64 0) w B:=by
 refine⟨fun a b c d t w=>∃ i:Nat,t= .int .i64 (i:Int)∧i≤n∧I i a b c d w,fun a b c d t _=>n-(bl t).toNat,⟨0,rfl,Z1 _,V⟩,?_⟩;rintro a b c d _ w ⟨i,rfl,hi,h⟩;by_cases U:i<n
 ·refine W i a b c d w _ U h fun a' E J O w' h'=>⟨⟨i+1,?_,U,h'⟩,?_⟩
  ·rw[wrap_i64 (by omega) (by omega)];rfl
  ·rw[wrap_i64 (by omega) (by omega)];simp only[bl];omega
 ·have:i=n:=by omega
  subst this;exact X a b c d w _ h
section
variable {P:Y3} {w:x2} {m:Bool} {S R:an}
theorem Cw {k:r9} (l:List Int):(l.map fun x=>[Y5 k x]).flatten=ints k l:=by
 induction l with
 |nil=>rfl
 |cons x l E=>simp only[List.map_cons,List.flatten_cons,E];rfl
theorem lm {e:u5} {g:Nat} {v:x1} {l:List Int} (h:am .i64 e w g v l):de (fun r=>r=g) R w [v] l:=by
 have ag:(l.map fun x=>[Y5 .i64 x]).flatten=ints .i64 l:=Cw l;refine⟨v,rfl,l.map fun x=>[.int .i64 x],g,fun _ _=>False,⟨fun _ _ h=>h.elim,fun _ _ h=>h,fun _ _ _ _ _ h=>h.elim⟩,⟨by simp,fun i c a E J=>?_⟩,?_,fun _=>⟨.inr rfl,e,?_⟩⟩
 ·rw[x6,J] at E;simp at E;exact E.symm
 ·rw[ag];exact qI h (.inr (.inl rfl))
 ·rw[ag];exact h
end
end Go.Vc
namespace Go.Proofs.YtgbkinibgjmodaaGreatDoor
open Go Go.Vc Go.RowKit Go.Proofs Go.Proofs.Tryz
set_option maxRecDepth 100000
def right (k:Int):Prop:=1≤k∧k≤2147483648
def cj (a k:Int):Prop:=right k∧0≤a∧a≤k
instance (k:Int):Decidable (right k):=by unfold right;infer_instance
instance (a k:Int):Decidable (cj a k):=by unfold cj;infer_instance
theorem uE {k:Int} {w:x2}:ah x5 Bz [.int .i64 k] w fun v w'=>v= .bool (decide (right k))∧Ext w w':=by
 refine aq func226 ?_;simp only[bR,ca,mn,aa];refine⟨fun h=>⟨?_,Ext.refl _⟩,fun h=>⟨?_,Ext.refl _⟩⟩
 ·congr 1;simp[right,h]
 ·rw[decide_eq_false];intro E;exact h E.1
theorem kq {a k:Int} {w:x2}:ah x5 A1 [.int .i64 a,.int .i64 k] w fun v w'=>v= .bool (decide (cj a k))∧Ext w w':=by
 refine aq func167 ?_;simp only[bR];refine uE.mono ?_;rintro _ U _ ⟨rfl,J⟩;simp only[ca,mn,aa];refine⟨fun h=>⟨fun E=>⟨?_,J⟩,fun E=>⟨?_,J⟩⟩,fun h=>⟨?_,J⟩⟩
 ·congr 1;simp[cj,h,E]
 ·rw[decide_eq_false];intro O;exact E O.2.1
 ·rw[decide_eq_false];intro O;exact h O.1
end Go.Proofs.YtgbkinibgjmodaaGreatDoor
namespace Go.Proofs.YtgbkinibgjmodaaGreatDoor
open Go Go.Vc Go.RowKit Go.Proofs Go.Proofs.Tryz
set_option maxRecDepth 100000
def aD:List Int→Int
 |[]=>1
 |x::r=>x*aD r
theorem uF:∀ (a b:List Int),aD (a++b)=aD a*aD b
 |[],b=>by simp[aD]
 |x::a,b=>by simp[aD,uF a b,Int.mul_assoc]
theorem ol {l:List Int} {i:Nat} {x:Int} (h:l[i]? =some x):aD (l.take (i+1))=aD (l.take i)*x:=by
 rw[u4,h,uF];simp[aD]
def bu (l:List Int):Prop:=l.length≤6∧ ∀ x∈l,1≤x∧x≤32
theorem bu.take {l:List Int} (h:bu l) (i:Nat):bu (l.take i):=⟨by rw[o5];have:=h.1;omega,fun x J=>h.2 x (List.mem_of_mem_take J)⟩
theorem bu.drop {l:List Int} (h:bu l) (i:Nat):bu (l.drop i):=⟨by rw[List.length_drop];have:=h.1;omega,fun x J=>h.2 x (List.mem_of_mem_drop J)⟩
theorem mu:∀ (l:List Int),(∀ x∈l,1≤x∧x≤32)→1≤aD l∧aD l≤32 ^ l.length
 |[],_=>by simp[aD]
 |x::r,h=>by
  obtain⟨h1,E⟩:=mu r fun y J=>h y (.tail _ J);obtain⟨O,U⟩:=h x (.head _);simp only[aD,l6];constructor
  ·have:=Int.mul_le_mul O h1 (by omega) (by omega);simpa using this
  ·have:=Int.mul_le_mul U E (by omega) (by omega);rw[Int.pow_succ];rw[Int.mul_comm (32 ^ r.length) 32];exact this
theorem prod_bound {l:List Int} (h:bu l):1≤aD l∧aD l≤1073741824:=by
 obtain⟨h1,E⟩:=mu l h.2;refine⟨h1,Int.le_trans E ?_⟩;have:(32:Int) ^ l.length≤32 ^ 6:=by
  have J:=h.1
  match l.length,J with
  |0,_=>decide
  |1,_=>decide
  |2,_=>decide
  |3,_=>decide
  |4,_=>decide
  |5,_=>decide
  |6,_=>decide
 simpa using this
def cd:List Int→List Int→Int→Option Int
 |[],[],n=>some n
 |k::s,v::t,n=>if 0≤v∧v<k then cd s t (n*k+v) else none
 |_,_,_=>none
theorem qJ:∀ (s t:List Int) (n:Int),s.length≠t.length→cd s t n=none
 |[],[],_,h=>absurd rfl h
 |[],_::_,_,_=>rfl
 |_::_,[],_,_=>rfl
 |k::s,v::t,n,h=>by
  unfold cd;split
  ·exact qJ s t _ (by simpa using h)
  ·rfl
def ce:List Int→Int→List Int
 |[],_=>[]
 |k::s,n=>(n / aD s) % k::ce s n
theorem gN:∀ (s:List Int) (n:Int),(ce s n).length=s.length
 |[],_=>rfl
 |_::s,n=>by simp[ce,gN s n]
theorem uG:∀ {s:List Int} {n:Int} {i:Nat} {k:Int},s[i]? =some k→(ce s n)[i]? =some ((n / aD (s.drop (i+1))) % k)
 |E::s,n,0,k,h=>by simp at h;subst h;simp[ce]
 |E::s,n,i+1,k,h=>by
  simp only[List.getElem?_cons_succ] at h;simp only[ce,List.getElem?_cons_succ,List.drop_succ_cons];exact uG h
theorem kr:∀ {s t:List Int} {m n:Int},(∀ x∈s,1≤x∧x≤32)→cd s t m=some n→m*aD s≤n∧n<(m+1)*aD s
 |[],[],m,n,_,h=>by simp[cd] at h;subst h;simp[aD];omega
 |k::s,v::t,m,n,E,h=>by
  unfold cd at h;split at h
  ·rename_i ac;have O:=kr (fun x J=>E x (.tail _ J)) h;have W:=(mu s fun x J=>E x (.tail _ J)).1;simp only[aD];have U:m*(k*aD s)=m*k*aD s:=(Int.mul_assoc _ _ _).symm;have V:(m+1)*(k*aD s)=(m*k+k)*aD s:=by rw[←Int.mul_assoc,Int.add_mul,Int.one_mul]
   rw[U,V];constructor
   ·refine Int.le_trans ?_ O.1;exact Int.mul_le_mul_of_nonneg_right (by omega) (by omega)
   ·refine Int.lt_of_lt_of_le O.2 ?_;exact Int.mul_le_mul_of_nonneg_right (by omega) (by omega)
  ·cases h
 |[],_::_,_,_,_,h=>by cases h
 |_::_,[],_,_,_,h=>by cases h
end Go.Proofs.YtgbkinibgjmodaaGreatDoor
namespace Go.Proofs.YtgbkinibgjmodaaGreatDoor
open Go Go.Vc Go.RowKit Go.Proofs Go.Proofs.Tryz
set_option maxRecDepth 100000
def bm:List Int→List (List Int)
 |[]=>[[]]
 |k::s=>(Y1 k.toNat).flatMap fun(v:Nat)=>(bm s).map fun t=>(v:Int)::t
theorem ip:∀ {s:List Int},(∀ x∈s,1≤x∧x≤32)→(bm s).length=(aD s).toNat
 |[],_=>rfl
 |k::s,h=>by
  have E:=ip (s:=s) fun x J=>h x (.tail _ J);have O:=h k (.head _);have U:=(mu s fun x J=>h x (.tail _ J)).1;simp only[bm,aD,List.length_flatMap,u7,E];rw[List.map_const',List.length_range,List.sum_replicate_nat,Int.toNat_mul (by omega) (by omega)]
theorem qK:∀ {s x:List Int},x∈bm s→x.length=s.length
 |[],x,h=>by simp[bm] at h;subst h;rfl
 |k::s,x,h=>by
  simp only[bm,List.mem_flatMap,o6] at h;obtain⟨v,_,t,E,rfl⟩:=h;simp[qK E]
theorem Cx {s x:List Int} {j:Nat} (h:(bm s)[j]? =some x):x.length=s.length:=qK (x4 h)
end Go.Proofs.YtgbkinibgjmodaaGreatDoor
namespace Go.Proofs.YtgbkinibgjmodaaGreatDoor
open Go Go.Vc Go.RowKit Go.Proofs Go.Proofs.Tryz
set_option maxRecDepth 100000
theorem ln {sv:x1} {l:List Int} {w:x2} (h:aC .i64 w sv l) (O:bu l):
  ah x5 A4 [.agg #[sv]] w fun v w'=>v= .int .i64 (aD l)∧Ext w w':=by
 refine aq func173 ?_;refine a7 fun g w0 Z U X=>?_;rw[ae a6.p rfl,V (by kernel_rfl) (X.cell (o:=0+0) rfl),aI al.u (h.ext U)];refine⟨fun n t W=>Ext w W∧ ∃ i:Nat,t= .int .i64 i∧i≤l.length∧n= .int .i64 (aD (l.take i)),fun _ t _=>l.length-(bl t).toNat,⟨U,0,rfl,Z1 _,rfl⟩,?_⟩;rintro _ _ W ⟨J,i,rfl,hi,rfl⟩;have ac:=O.1;simp only[ao,aa];refine⟨fun ad=>?_,fun af=>⟨?_,J⟩⟩
 ·obtain⟨x,E⟩:∃ x,l[i]? =some x:=⟨_,y0 (by omega)⟩;rw[a1 al.u ab.i (by kernel_rfl) (h.ext J) E];have Y:=prod_bound (O.take (i+1));rw[ol E] at Y;simp only[fx,aF];rw[wrap_i64 (by omega) (by omega),wrap_i64 (by omega) (by omega),←ol E];refine⟨⟨J,i+1,rfl,by omega,rfl⟩,?_⟩;simp only[bl];omega
 ·have:i=l.length:=by omega
  rw[this,o3]
theorem Cy {sv:x1} {l:List Int} {w:x2} {i:Nat} (h:aC .i64 w sv l) (O:bu l) (hi:i<l.length):
  ah x5 BD [.agg #[sv],.int .i64 i] w fun v w'=>v= .int .i64 (aD (l.drop (i+1)))∧Ext w w':=by
 have af:=O.1;refine aq func240 ?_;refine a7 fun g w0 ag U W=>?_;have E:=h.ext U;simp only[bR,ao,aa];refine⟨fun ai=>by omega,fun _=>?_⟩;rw[ae a6.p rfl,V (by kernel_rfl) (W.cell (o:=0+0) rfl),aI al.u E];simp only[ca,aa];refine⟨fun aj=>by omega,fun _=>?_⟩;rw[ae a6.p rfl,V (by kernel_rfl) (W.cell (o:=0+0) rfl)];simp only[aF];have X:X0.wrap ((i:Int)+1)=((i+1:Nat):Int):=by rw[wrap_i64 (by omega) (by omega)];omega
 rw[X];have Y:=E;obtain⟨_,b,o,base,cap,rfl,ak,am,ap,au⟩:=id E;rw[fz al.u ab.i (l:=i+1) (h:=l.length) (m:=cap) mp hd eb (by omega) (by omega) (by omega)];have J:=bG.part (l:=i+1) (h:=l.length) (m:=cap) Y (by omega) (by omega) (by omega) (by omega);generalize Z:(x1.slice (if cap=i+1 then base else X1 (fun x=>x.add ((i+1)*1)) base) (l.length-(i+1)) (cap-(i+1)))=q at J ⊢;have ac:((ints .i64 l).drop ((i+1)*1)).take ((l.length-(i+1))*1)=ints .i64 (l.drop (i+1)):=by
  rw[b6 (by simp),W9,ints,←List.map_drop]
 rw[ac] at J;rw[cI (cs:=#[q]) (by subst Z;kernel_rfl)];refine (ln (aC.of J) (O.drop (i+1))).mono ?_;rintro _ av _ ⟨rfl,ad⟩;exact⟨rfl,U.trans ad⟩
def iq (s t:List Int):x1:=match cd s t 0 with
 |some n=>.tuple #[.int .i64 n,.int .i64 0]
 |none=>.tuple #[.int .i64 0,.int .i64 3]
theorem uH {sv ad:x1} {s t:List Int} {w:x2} (h:aC .i64 w sv s) (Y:aC .i64 w ad t) (W:bu s):
  ah x5 Be [.agg #[sv],ad] w fun v w'=>v=iq s t∧Ext w w':=by
 have av:=W.1;refine aq func194 ?_;refine a7 fun g w0 aw E Z=>?_;rw[aI al.u (Y.ext E),ae a6.p rfl,V (by kernel_rfl) (Z.cell (o:=0+0) rfl),aI al.u (h.ext E)];simp only[be,aa];refine⟨fun ax=>⟨?_,E⟩,fun ai=>?_⟩
 ·unfold iq;rw[qJ _ _ _ (by omega)]
 ·have ai:s.length=t.length:=by omega
  rw[aI al.u (Y.ext E)];refine⟨fun _ _ n c af=>Ext w0 af∧ ∃ (i:Nat) (m:Int),c= .int .i64 i∧i≤t.length∧n= .int .i64 m∧0≤m∧m<aD (s.take i)∧cd s t 0=cd (s.drop i) (t.drop i) m,fun _ _ _ c _=>t.length-(bl c).toNat,
   ⟨Ext.refl _,0,0,rfl,Z1 _,rfl,Int.le_refl _,by simp[aD],rfl⟩,?_⟩
  rintro _ _ _ _ af ⟨X,i,m,rfl,hi,rfl,aj,ay,O⟩;have J:=E.trans X;simp only[ao,aa];refine⟨fun az=>?_,fun aA=>⟨?_,J⟩⟩
  ·obtain⟨v,ac,ak⟩:∃ v,t[i]? =some v∧t.drop i=v::t.drop (i+1):=⟨t[i],y0 (by omega),Y2 (by omega)⟩;obtain⟨k,U,am⟩:∃ k,s[i]? =some k∧s.drop i=k::s.drop (i+1):=⟨s[i],y0 (by omega),Y2 (by omega)⟩;rw[ak,am] at O;have ap:=prod_bound (W.take (i+1));have aB:=prod_bound (W.take i);have aE:=W.2 k (x4 U);rw[ol U] at ap;have ag:¬(0≤v∧v<k)→iq s t= .tuple #[.int .i64 0,.int .i64 3]:=fun au=>by unfold iq;rw[O];simp[cd,au]
   rw[a1 al.u ab.i (by kernel_rfl) (Y.ext J) ac];simp only[bR,ao,aa,bh];refine⟨fun aG=>⟨(ag (by omega)).symm,J⟩,fun aH=>?_⟩;rw[ae a6.p rfl,V (by kernel_rfl) ((Z.ext X).cell (o:=0+0) rfl),a1 al.u ab.i (by kernel_rfl) (h.ext J) U];simp only[ca,aa];refine⟨fun aJ=>⟨(ag (by omega)).symm,J⟩,fun aK=>?_⟩;rw[ae a6.p rfl,V (by kernel_rfl) ((Z.ext X).cell (o:=0+0) rfl),a1 al.u ab.i (by kernel_rfl) (h.ext J) U];have aL:0≤m*k∧m*k+k≤aD (s.take i)*k:=by
    constructor
    ·exact Int.mul_nonneg aj (by omega)
    ·have:=Int.mul_le_mul_of_nonneg_right (show m+1≤aD (s.take i) by omega) (show 0≤k by omega);rw[Int.add_mul,Int.one_mul] at this;exact this
   simp only[fx,aF];rw[wrap_i64 (x:=m*k) (by omega) (by omega),wrap_i64 (x:=m*k+v) (by omega) (by omega),wrap_i64 (x:=(i:Int)+1) (by omega) (by omega)];refine⟨⟨X,i+1,m*k+v,rfl,by omega,rfl,by omega,by rw[ol U];omega,?_⟩,?_⟩
   ·rw[O];simp[cd,show 0≤v∧v<k from⟨by omega,by omega⟩]
   ·simp only[bl];omega
  ·have:i=t.length:=by omega
   rw[this,List.drop_of_length_le (by omega),List.drop_of_length_le (by omega)] at O;unfold iq;rw[O];rfl
end Go.Proofs.YtgbkinibgjmodaaGreatDoor
namespace Go.Proofs.YtgbkinibgjmodaaGreatDoor
open Go Go.Vc Go.RowKit Go.Proofs Go.Proofs.Tryz
set_option maxRecDepth 100000
theorem Cz {ac ad:x1} {w:x2} {E U:Nat} {a b:List Int} (h1:bG w 1 ac E (ints .i64 a)) (ae:bG w 1 ad U (ints .i64 b)):
  ah x5 tM [ac,ad] w fun v w'=>v= .bool (decide (a=b))∧Ext w w':=by
 have az:a.length=E:=by simpa using h1.1
 have aA:b.length=U:=by simpa using ae.1
 have af:=h1.le;obtain⟨_,aB,aC,aD,aE,rfl,aG,aH,ak,am⟩:=h1;obtain⟨_,aI,aJ,aK,aL,rfl,aM,aN,ap,au⟩:=ae;refine aq func116 ?_;simp only[fy al.u,be,aa];refine⟨fun ag=>⟨?_,Ext.refl _⟩,fun ai=>?_⟩
 ·rw[decide_eq_false];rintro rfl;omega
 ·have ai:E=U:=by omega
  refine⟨fun t4 W aj=>Ext w aj∧ ∃ i:Nat,W= .int .i64 i∧i≤E∧a.take i=b.take i,fun _ W _=>E-(bl W).toNat,⟨Ext.refl _,0,rfl,Z1 _,rfl⟩,?_⟩;rintro t4 _ aj ⟨J,i,rfl,hi,X⟩;simp only[ao,aa,dj];refine⟨fun Y aO av _ _=>?_,fun aP=>⟨?_,J⟩⟩
  ·have Y:i<E:=by omega
   have J:=J.trans av;obtain⟨x,Z⟩:∃ x,a[i]? =some x:=⟨_,y0 (by omega)⟩;obtain⟨y,O⟩:∃ y,b[i]? =some y:=⟨_,y0 (by omega)⟩;have aw:=kh J (am i _ (il Z));have ax:=kh J (au i _ (il O));rw[gj al.u ab.i Y ak,W9,V (by kernel_rfl) aw,gj al.u ab.i (ai▸Y) ap,W9,V (by kernel_rfl) ax];simp only[be,aa,aF];refine⟨fun ag=>⟨?_,J⟩,fun aQ=>⟨⟨J,i+1,?_,by omega,qF X Z O (by omega)⟩,?_⟩⟩
   ·rw[decide_eq_false];rintro rfl;rw[Z] at O;cases O;exact ag rfl
   ·rw[wrap_i64 (by omega) (by simp only[maxLen] at af;omega)];rfl
   ·rw[wrap_i64 (by omega) (by simp only[maxLen] at af;omega)];simp only[bl];omega
  ·have ay:i=E:=by omega
   subst ay;rw[decide_eq_true];rw[b6 (by omega),b6 (by omega)] at X;exact X
theorem CA {s:x1} {w:x2} {n:Nat} {a:List Int} (h1:bG w 1 s n (ints .i64 a)) (aa:n≤1000000):
  ah x5 tB [s] w fun v w'=>Ext w w'∧ ∃ g,w.heap.size≤g∧br w' g ab 1 v n (ints .i64 a):=by
 have O:=h1;obtain⟨U,ac,ad,ae,af,rfl,ag,ai,V,aj⟩:=h1;refine aq func22 ?_;simp only[mo al.u,b3];refine⟨fun E=>⟨Ext.refl _,w.heap.size,u9 _,?_⟩,fun _=>?_⟩
 ·have:n=0:=by
   rcases Nat.eq_zero_or_pos n with h|h
   ·exact h
   ·rw[V h] at E;cases E
  subst this;have:ints .i64 a=[]:=o8 (by simpa using U);rw[this];exact br.nil _ _ _ _
 ·refine hM al.u ab.i (by omega) (cs:=#[]) (by kernel_rfl) ?_;intro g ak am J W;refine km (g:=g) al.u al.u ab.i rfl (br.full W rfl (by omega)) (O.ext J) (mr _ _) (by omega) (by simp only[maxLen];omega) ?_;intro ao X ap au Y Z;refine⟨J.then Z (by rintro r av rfl;omega),X,?_,?_⟩
  ·have:=J.size;omega
  ·simpa using Y
theorem CB {ab ac:x1} {w:x2} {E U:Nat} {a b:List Int} (h1:bG w 1 ab E (ints .i64 a)) (ad:bG w 1 ac U (ints .i64 b)):
  ah x5 tD [ab,ac] w fun v w'=>v= .bool (decide (a=b))∧Ext w w':=by
 have az:a.length=E:=by simpa using h1.1
 have aA:b.length=U:=by simpa using ad.1
 have ae:=h1.le;obtain⟨_,aB,aC,aD,aE,rfl,aG,aH,ak,al⟩:=h1;obtain⟨_,aI,aJ,aK,aL,rfl,aM,aN,am,au⟩:=ad;refine aq func42 ?_;simp only[fy ap.u,be,aa];refine⟨fun af=>⟨?_,Ext.refl _⟩,fun ag=>?_⟩
 ·rw[decide_eq_false];rintro rfl;omega
 ·have ag:E=U:=by omega
  refine⟨fun t4 W ai=>Ext w ai∧ ∃ i:Nat,W= .int .i64 i∧i≤E∧a.take i=b.take i,fun _ W _=>E-(bl W).toNat,⟨Ext.refl _,0,rfl,Z1 _,rfl⟩,?_⟩;rintro t4 _ ai ⟨J,i,rfl,hi,X⟩;simp only[ao,aa,dj];refine⟨fun Y aO av _ _=>?_,fun aP=>⟨?_,J⟩⟩
  ·have Y:i<E:=by omega
   have J:=J.trans av;obtain⟨x,Z⟩:∃ x,a[i]? =some x:=⟨_,y0 (by omega)⟩;obtain⟨y,O⟩:∃ y,b[i]? =some y:=⟨_,y0 (by omega)⟩;have aw:=kh J (al i _ (il Z));have ax:=kh J (au i _ (il O));rw[gj ap.u aj.i Y ak,W9,V (by kernel_rfl) aw,gj ap.u aj.i (ag▸Y) am,W9,V (by kernel_rfl) ax];simp only[be,aa,aF];refine⟨fun af=>⟨?_,J⟩,fun aQ=>⟨⟨J,i+1,?_,by omega,qF X Z O (by omega)⟩,?_⟩⟩
   ·rw[decide_eq_false];rintro rfl;rw[Z] at O;cases O;exact af rfl
   ·rw[wrap_i64 (by omega) (by simp only[maxLen] at ae;omega)];rfl
   ·rw[wrap_i64 (by omega) (by simp only[maxLen] at ae;omega)];simp only[bl];omega
  ·have ay:i=E:=by omega
   subst ay;rw[decide_eq_true];rw[b6 (by omega),b6 (by omega)] at X;exact X
theorem CC {s:x1} {w:x2} {n:Nat} {a:List Int} (h1:bG w 1 s n (ints .i64 a)) (aa:n≤1000000):
  ah x5 tW [s] w fun v w'=>Ext w w'∧ ∃ g,w.heap.size≤g∧br w' g aj 1 v n (ints .i64 a):=by
 have O:=h1;obtain⟨U,ab,ac,ad,ae,rfl,af,ag,V,ai⟩:=h1;refine aq func191 ?_;simp only[mo ap.u,b3];refine⟨fun E=>⟨Ext.refl _,w.heap.size,u9 _,?_⟩,fun _=>?_⟩
 ·have:n=0:=by
   rcases Nat.eq_zero_or_pos n with h|h
   ·exact h
   ·rw[V h] at E;cases E
  subst this;have:ints .i64 a=[]:=o8 (by simpa using U);rw[this];exact br.nil _ _ _ _
 ·refine hM ap.u aj.i (by omega) (cs:=#[]) (by kernel_rfl) ?_;intro g ak al J W;refine km (g:=g) ap.u ap.u aj.i rfl (br.full W rfl (by omega)) (O.ext J) (mr _ _) (by omega) (by simp only[maxLen];omega) ?_;intro am X ao au Y Z;refine⟨J.then Z (by rintro r av rfl;omega),X,?_,?_⟩
  ·have:=J.size;omega
  ·simpa using Y
theorem CD {E J:x1} {w:x2} {a b:List Int} (h1:aC .i64 w E a) (O:aC .i64 w J b):
  ah x5 tM [E,J] w fun v w'=>v= .bool (decide (a=b))∧Ext w w':=Cz h1 O
theorem hQ {s:x1} {w:x2} {a:List Int} (h1:aC .i64 w s a) (E:a.length≤1000000):
  ah x5 tB [s] w fun v w'=>Ext w w'∧ ∃ g,w.heap.size≤g∧am .i64 ab w' g v a:=CA h1 E
theorem CE {E J:x1} {w:x2} {a b:List Int} (h1:aC .i64 w E a) (O:aC .i64 w J b):
  ah x5 tD [E,J] w fun v w'=>v= .bool (decide (a=b))∧Ext w w':=CB h1 O
theorem qL {s:x1} {w:x2} {a:List Int} (h1:aC .i64 w s a) (E:a.length≤1000000):
  ah x5 tW [s] w fun v w'=>Ext w w'∧ ∃ g,w.heap.size≤g∧am .i64 aj w' g v a:=CC h1 E
end Go.Proofs.YtgbkinibgjmodaaGreatDoor
namespace Go.Proofs.YtgbkinibgjmodaaGreatDoor
open Go Go.Vc Go.RowKit Go.Proofs Go.Proofs.Tryz
set_option maxRecDepth 100000
theorem CF {sv:x1} {l:List Int} {w:x2} {n:Int} (h:aC .i64 w sv l) (E:bu l) (Y:0≤n) (aL:n<aD l):
  ah x5 Bb [.agg #[sv],.int .i64 n] w fun v w'=>Ext w w'∧ ∃ ak g,v= .tuple #[ak,.int .i64 0]∧w.heap.size≤g∧am .i64 ab w' g ak (ce l n):=by
 have aM:=E.1;have aN:=prod_bound E;refine aq func188 ?_;refine a7 fun g w0 aO Z J=>?_;have aP:=h.cells;simp only[bR,ao,aa];refine⟨fun aQ=>by omega,fun _=>?_⟩;rw[bj a6.p a6.i rfl J.range];refine (ln (h.ext Z) E).mono ?_;rintro _ aR _ ⟨rfl,O⟩;simp only[ca,aa];refine⟨fun aS=>by omega,fun _=>?_⟩;have U:=Z.trans O;rw[ae a6.p rfl,V (by kernel_rfl) ((J.ext O).cell (o:=0+0) rfl),aI al.u (h.ext U)];refine hN al.u ab.i (by omega) (by omega) ?_;intro ap aT aU ac ax;simp only[fy al.u];have ay:=U.trans ac;have s0:=Z.size;have aV:=O.size;have aW:=J.lt;refine⟨fun t W=>Ext w W∧Ext w0 W∧ ∃ i:Nat,t= .int .i64 i∧i≤l.length∧ad W ap ab (ints .i64 ((ce l n).take i++v8 (l.length-i) 0)),fun t _=>l.length-(bl t).toNat,
  ⟨ay,O.trans ac,0,rfl,Z1 _,by simpa using ax⟩,?_⟩
 rintro _ W ⟨af,ag,i,rfl,hi,au⟩;simp only[ao,aa];refine⟨fun ai=>?_,fun aX=>?_⟩
 ·have ai:i<l.length:=by omega
  rw[bj a6.p a6.i rfl (J.ext ag).range];refine (Cy (h.ext af) E ai).mono ?_;rintro _ aY _ ⟨rfl,az⟩;simp only[dj];intro a2 aA _ _;have X:=az.trans aA;have av:=af.trans X;obtain⟨k,aj⟩:∃ k,l[i]? =some k:=⟨l[i],y0 (by omega)⟩;have a8:=E.2 k (x4 aj);have ba:=prod_bound (E.drop (i+1));have aB:0≤n / aD (l.drop (i+1)):=Int.ediv_nonneg Y (by omega);have bb:n / aD (l.drop (i+1))≤n:=Int.ediv_le_self _ Y;rw[ob (by omega),Int.tdiv_eq_ediv_of_nonneg Y,wrap_i64 (by omega) (by omega),
   ae a6.p rfl,V (by kernel_rfl) (((J.ext ag).ext X).cell (o:=0+0) rfl),a1 al.u ab.i (by kernel_rfl) (h.ext av) aj,
   uj (by omega),Int.tmod_eq_emod_of_nonneg aB,gj al.u ab.i ai (fun _=>rfl),W9]
  refine aZ ab.i rfl rfl (au.ext X) (by simp[gN];omega) ?_;intro bc aw bd aE;simp only[aF];rw[wrap_i64 (by omega) (by omega)];have be:=ac.size;have bf:=U.size;refine⟨⟨av.then aw (by rintro r aG rfl;omega),(ag.trans X).then aw (by rintro r aG rfl;omega),i+1,rfl,by omega,?_⟩,?_⟩
  ·have aH:=uG (n:=n) aj;have e:(ints .i64 ((ce l n).take i++v8 (l.length-i) 0)).set (0+i) (.int .i64 (n / aD (l.drop (i+1)) % k))=ints .i64 ((ce l n).take (i+1)++v8 (l.length-(i+1)) 0):=by
    have aJ:((ce l n).take i).length=i:=by rw[o5,gN];omega
    rw[V3,ints,←List.map_set];congr 1;rw[List.set_append,if_neg (by omega),aJ,X6,show l.length-i=(l.length-(i+1))+1 by omega,List.replicate_succ,List.set_cons_zero,u4,aH];simp
   rw[←e];exact aE
  ·simp only[bl];omega
 ·have aK:i=l.length:=by omega
  subst aK;refine⟨af,_,ap,rfl,by have:=U.size;omega,am.of (n:=l.length) (br.full ?_ (by simp[ints,gN]) (by simp[maxLen];omega))⟩;have e:(ce l n).take l.length++v8 (l.length-l.length) 0=ce l n:=by rw[X6,b6 (by rw[gN];omega)];simp
  rw[←e];exact au
end Go.Proofs.YtgbkinibgjmodaaGreatDoor
namespace Go.Proofs.YtgbkinibgjmodaaGreatDoor
open Go Go.Vc Go.RowKit Go.Proofs Go.Proofs.Tryz
set_option maxRecDepth 100000
def fQ (x:Int):Prop:=1≤x∧x≤32
instance (x:Int):Decidable (fQ x):=by unfold fQ;infer_instance
theorem CG {x:Int} {w:x2}:ah x5 nZ [.int .i64 x] w fun v w'=>v= .bool (decide (¬fQ x))∧Ext w w':=by
 refine aq func227 ?_;simp only[bR,ao,bA,aa];refine⟨fun h=>⟨?_,Ext.refl _⟩,fun h=>⟨?_,Ext.refl _⟩⟩
 ·rw[decide_eq_true];intro E;have:=E.1;omega
 ·congr 1;have:(32<x)=(¬fQ x):=propext ⟨fun J E=>by have:=E.2;omega,fun J=>by
   by_cases O:32<x
   ·exact O
   ·exact absurd ⟨by omega,by omega⟩ J⟩
  simp only[this]
theorem CH {sv:x1} {l:List Int} {w:x2} (h:aC .i64 w sv l):
  ah x5 qu [sv,.func (.func nZ) #[] #[]] w fun v w'=>Ext w w'∧ ∃ n:Int,v= .int .i64 n∧((0≤n)=¬∀ x∈l,fQ x):=by
 have ac:=h.le;refine aq func170 ?_;rw[aI al.u h];refine⟨fun _ t O=>Ext w O∧ ∃ i:Nat,t= .int .i64 i∧i≤l.length∧ ∀ x∈l.take i,fQ x,fun _ t _=>l.length-(bl t).toNat,⟨Ext.refl _,0,rfl,Z1 _,by simp⟩,?_⟩;rintro _ _ O ⟨J,i,rfl,hi,U⟩;simp only[ao,aa];refine⟨fun ad=>?_,fun ae=>⟨J,-1,rfl,?_⟩⟩
 ·obtain⟨x,V⟩:∃ x,l[i]? =some x:=⟨_,y0 (by omega)⟩;rw[a1 al.u ab.i (by kernel_rfl) (h.ext J) V];show ah x5 nZ [.int .i64 x] O _;refine CG.mono ?_;rintro _ af _ ⟨rfl,W⟩;simp only[aa,aF];refine⟨fun X=>⟨J.trans W,i,rfl,?_⟩,fun Y=>?_⟩
  ·exact propext ⟨fun _ Z=>X (Z x (x4 V)),fun _=>by omega⟩
  ·rw[wrap_i64 (by omega) (by omega)];refine⟨⟨J.trans W,i+1,rfl,by omega,fun y E=>?_⟩,?_⟩
   ·rw[u4,V] at E;rcases p9.1 E with E|E
    ·exact U y E
    ·simp at E;subst E;exact Z7.1 Y
   ·simp only[bl];omega
 ·have:i=l.length:=by omega
  rw[this,o3] at U;exact propext ⟨fun h=>by omega,fun h=>absurd U h⟩
theorem CI {sv:x1} {l:List Int} {w:x2} (h:aC .i64 w sv l):
  ah x5 qv [sv,.func (.func nZ) #[] #[]] w fun v w'=>v= .bool (decide (¬∀ x∈l,fQ x))∧Ext w w':=by
 refine aq func196 ?_;refine (CH h).mono ?_;rintro _ O _ ⟨J,n,rfl,E⟩;simp only[ca];exact⟨by congr 1;simp only[E],J⟩
def CJ (w:x2) (l:List Int) (v:x1) (w':x2):Prop:=
 Ext w w'∧
   (¬bu l→v= .tuple #[.agg #[.slice none 0 0],.int .i64 1])∧
   (bu l→4096<aD l→v= .tuple #[.agg #[.slice none 0 0],.int .i64 5])∧
   (bu l→aD l≤4096→ ∃ g E,v= .tuple #[.agg #[E],.int .i64 0]∧w.heap.size≤g∧am .i64 ab w' g E l)
theorem CK {sv:x1} {l:List Int} {w:x2} (h:aC .i64 w sv l):ah x5 A2 [sv] w (CJ w l):=by
 refine aq func171 ?_;refine bi a6.i fun aM aN aY E ac=>?_;have aZ:=ac.lt;refine aL (fun v W=>Ext w W∧Ext aN W∧ ∃ c:Bool,v= .bool c∧((c=true)=¬bu l)) ?_ ?_
 ·rintro _ W ⟨J,ae,c,rfl,aw⟩;simp only[b3];refine⟨fun aO=>?_,fun ag=>?_⟩
  ·have ax:¬bu l:=by rw[←aw];exact aO
   rw[cI (cs:=#[.slice none 0 0]) (by kernel_rfl)];refine bP (vs:=[.slice none 0 0]) a6.i rfl rfl (by simp;rfl) (ac.ext ae) ?_;intro a1 aP a2 aQ;rw[eo a6.p a6.i rfl aQ.range];exact⟨J.then aP (by rintro r ai rfl;omega),fun _=>rfl,fun h=>absurd h ax,fun h=>absurd h ax⟩
  ·have X:bu l:=by
    have ay:¬(c=true):=by simp[ag]
    rw[aw] at ay;exact Classical.not_not.1 ay
   have a7:=X.1;refine (hQ (h.ext J) (by omega)).mono ?_;rintro O az _ ⟨aj,aA,a8,hm⟩;have aB:=hm.ls.cells;rw[cI (cs:=#[O]) (by obtain⟨_,_,_,_,_,rfl,_⟩:=hm.ls;kernel_rfl)];refine bi a6.i fun gs ba bb ak aR=>?_;refine bP (vs:=[O]) a6.i rfl rfl (by intro u hu;simp at hu;subst hu;exact aB.2) aR ?_;intro ao aD bc aE;rw[bj a6.p a6.i rfl aE.range];have bd:=aj.size;have be:=ak.size;have bf:=ae.size;have bg:af (fun r=>r=gs) az ao:=(ak.U _).trans aD;have ap:Ext az ao:=ak.then aD (by rintro r ai rfl;omega);have aS:=(J.trans aj).trans ap;have aF:am .i64 ab ao aA O l:=hm.ext ap;refine (ln aF.ls X).mono ?_;rintro _ aT _ ⟨rfl,Y⟩;have aG:=aS.trans Y;have aH:ad aT aM a6 [.slice none 0 0]:=ac.ext (((ae.trans aj).trans ap).trans Y);simp only[bA,aa];refine⟨fun aU=>?_,fun aV=>?_⟩
   ·rw[cI (cs:=#[.slice none 0 0]) (by kernel_rfl)];refine bP (vs:=[.slice none 0 0]) a6.i rfl rfl (by simp;rfl) aH ?_;intro aW Z aX au;rw[eo a6.p a6.i rfl au.range];exact⟨aG.then Z (by rintro r ai rfl;omega),fun h=>absurd X h,fun _ _=>rfl,fun _ h=>by omega⟩
   ·rw[bj a6.p a6.i rfl (aE.ext Y).range];refine bP (vs:=[O]) a6.i rfl rfl (by intro u hu;simp at hu;subst hu;exact aB.2) aH ?_;intro aW Z aX au;rw[eo a6.p a6.i rfl au.range];have bh:=E.size;exact⟨aG.then Z (by rintro r ai rfl;omega),fun h=>absurd X h,fun _ h=>by omega,fun _ _=>⟨aA,O,rfl,by omega,(aF.ext Y).U Z (by omega)⟩⟩
 ·intro bk aJ;rw[aI al.u (h.ext E)];simp only[bA,aa];refine⟨fun aU=>aJ _ _ ⟨E,Ext.refl _,true,rfl,?_⟩,fun aV=>?_⟩
  ·exact propext ⟨fun _ V=>by have:=V.1;omega,fun _=>rfl⟩
  ·refine (CI (h.ext E)).mono ?_;rintro _ W _ ⟨rfl,aK⟩;refine aJ _ _ ⟨E.trans aK,aK,_,rfl,?_⟩;rw[decide_eq_true_eq];exact propext ⟨fun av V=>av V.2,fun av V=>av ⟨by omega,V⟩⟩
end Go.Proofs.YtgbkinibgjmodaaGreatDoor
namespace Go.Proofs.YtgbkinibgjmodaaGreatDoor
open Go Go.Vc Go.RowKit Go.Proofs Go.Proofs.Tryz
set_option maxRecDepth 100000
theorem qM {P:Y3} {w:x2} {t:u5} {cx cy:Bool} {a:Int} {K:x1→Prop} (E:0≤a) (h1:a<4294967296):
  O P (aB .and t cx cy (.int .u64 a) (.int .u64 4294967295)) w K=K (.int .u64 a):=O.of fun w' _=>by
 obtain⟨n,rfl⟩:=Int.eq_ofNat_of_zero_le E;have W:n<4294967296:=by omega
 have e:(V0 64 (n:Int) &&& V0 64 4294967295).toNat=n:=by
  rw[BitVec.toNat_and,BitVec.toNat_ofInt,BitVec.toNat_ofInt];have J:((n:Int) % ((2 ^ 64:Nat):Int)).toNat=n:=by omega
  have U:((4294967295:Int) % ((2 ^ 64:Nat):Int)).toNat=2 ^ 32-1:=by decide
  rw[J,U,Nat.and_two_pow_sub_one_eq_mod];omega
 have V:(V0 X9.bits (n:Int) &&& V0 X9.bits 4294967295).toNat=n:=e;simp only[aB,eqGuard,binOp,Op.intBits,V];rw[wrap_u64 (by omega) (by omega)];rfl
theorem mv {P:Y3} {w:x2} {t:u5} {cx cy:Bool} {a:Int} {K:x1→Prop} (E:0≤a) (h1:a<4294967296):
  O P (aB .shr t cx cy (.int .u64 a) (.int .u64 32)) w K=K (.int .u64 0):=O.of fun w' _=>by
 have e:a.fdiv (2 ^ min 32 X9.bits)=0:=by
  have:(2:Int) ^ min 32 X9.bits=4294967296:=rfl;rw[this,Int.fdiv_eq_ediv_of_nonneg _ (by omega)];omega
 simp[aB,eqGuard,binOp,Op.shift,e]
theorem CL {x y:Int} {w:x2} (J:0≤x∧x<65536) (E:0≤y∧y<65536):
  ah x5 BA [.int .u64 x,.int .u64 y] w fun v w'=>v= .tuple #[.int .u64 0,.int .u64 (x*y)]∧Ext w w':=by
 have U:0≤x*y∧x*y<4294967296:=⟨Int.mul_nonneg J.1 E.1,by
  have:x*y≤65535*65535:=Int.mul_le_mul (by omega) (by omega) E.1 (by omega);omega⟩
 refine aq func228 ?_;refine ah.mono (K:=fun v w'=>v= .tuple #[.int .u64 0,.int .u64 (x*y)]∧Ext w w') ?_ ?_
 ·refine aq func271 ?_;rw[qM (by omega) (by omega),mv (by omega) (by omega),qM (by omega) (by omega),mv (by omega) (by omega)];simp only[fx,Int.zero_mul,Int.mul_zero];rw[wrap_u64 (x:=x*y) (by omega) (by omega),show X9.wrap 0=0 from rfl,mv (a:=x*y) (by omega) (by omega)];simp only[aF,Int.add_zero];rw[show X9.wrap 0=0 from rfl,qM (by omega) (by omega),mv (by omega) (by omega)];simp only[fx,aF,Int.zero_mul,Int.mul_zero,Int.add_zero,show X9.wrap 0=0 from rfl];rw[mv (by omega) (by omega)];simp only[fx,aF,Int.add_zero,show X9.wrap 0=0 from rfl];exact⟨trivial,Ext.refl _⟩
 ·rintro _ V _ ⟨rfl,O⟩;rw[av (v:=.int .u64 0) rfl,av (v:=.int .u64 (x*y)) rfl];exact⟨rfl,O⟩
theorem uI {Z:x1} {w:x2} {c:Int} {n:Nat} (h:aC .i64 w Z [c]) (aO:n<65536):
  ah x5 A3 [Z,.int .i64 n] w fun v w'=>Ext w w'∧ ∃ g,w.heap.size≤g∧am .i64 aj w' g v (v8 n c):=by
 refine aq func172 ?_;refine dd (fun ak=>w=ak) ?_ ?_
 ·rintro _ rfl;rw[aI ap.u h,e7 ab.u ld.u,e7 ab.u ld.u,wrap_u64 (by simp) (by simp),wrap_u64 (by omega) (by omega)];refine (CL (x:=([c].length:Int)) (by simp) (by omega)).mono ?_;rintro _ ac _ ⟨rfl,ae⟩;rw[av (v:=.int .u64 0) rfl,av (v:=.int .u64 (([c].length:Int)*n)) rfl];have al:(([c].length:Int)*n)=(n:Int):=by simp
  rw[al];refine dd (fun E=>ac=E) ?_ ?_
  ·rintro _ rfl;rw[e7 ld.u ab.u,wrap_i64 (by omega) (by omega)];refine hN ap.u aj.i (by omega) (by omega) ?_;intro g aQ aR au aw;have J:=ae.trans au;have aS:=ae.size;refine uu ap.u aj.i aw (o:=0) (fun _=>rfl) (by simp) (h.ext J) (mr _ _) ?_;intro aT ax aU af;have ay:=J.then ax (by rintro r az rfl;omega);have st:over (ints .i64 (v8 n 0)) 0 ((ints .i64 [c]).take n)=ints .i64 (v8 (min 1 n) c++v8 (n-min 1 n) 0):=by
    rcases Nat.eq_zero_or_pos n with rfl|O
    ·simp[over]
    ·rw[b6 (by simp;omega),jD (by simp;omega)];have:min 1 n=1:=by omega
     simp[this,ints]
   rw[st] at af;refine⟨fun t U=>Ext w U∧ ∃ i:Nat,t= .int .i64 i∧i≤n∧(0<n→0<i)∧ad U g aj (ints .i64 (v8 i c++v8 (n-i) 0)),fun t _=>n-(bl t).toNat,
    ⟨ay,min 1 n,by simp,by omega,by omega,af⟩,?_⟩
   rintro _ U ⟨V,i,rfl,hi,aV,W⟩;simp only[fy ap.u,ao,aa,dj];refine⟨fun aA aB X _ _=>?_,fun aW=>?_⟩
   ·have aA:i<n:=by omega
    have ag:=W.ext X;rw[fz ap.u aj.i (l:=i) (h:=n) (m:=n) mp hd eb (by omega) (by omega) (by omega),
     fz ap.u aj.i (l:=0) (h:=i) (m:=n) hc mq eb (by omega) (by omega) (by omega)]
    have aD:bG aB 1 (.slice (some ⟨g,0,none⟩) n n) n (ints .i64 (v8 i c++v8 (n-i) 0)):=(br.full ag (by simp <;> omega) (by simp[maxLen] <;> omega)).sl;have O:=aD.part (l:=0) (h:=i) (m:=n) (by omega) (by omega) (by omega) (by omega);have aE:((ints .i64 (v8 i c++v8 (n-i) 0)).drop (0*1)).take ((i-0)*1)=ints .i64 (v8 i c):=by
     simp[ints]
    rw[aE] at O;refine uu ap.u aj.i ag (o:=i) (fun _=>?_) (by simp <;> omega) O (mr _ _) ?_
    ·rw[if_neg (by omega)];simp[W5]
    ·intro aX aG aY ai;have aZ:=V.size;have a1:=X.size;have aH:over (ints .i64 (v8 i c++v8 (n-i) 0)) i ((ints .i64 (v8 i c)).take (n-i))=ints .i64 (v8 (i+min i (n-i)) c++v8 (n-(i+min i (n-i))) 0):=by
      apply Y4;intro j;rw[li _ _ _ (by simp[ints] <;> omega)];simp only[ints,o9,List.map_replicate,List.getElem?_append,List.getElem?_take,List.getElem?_replicate,o5,List.length_replicate]
      repeat' split
      all_goals first|rfl|omega
     rw[aH] at ai;have aJ:min (i-0) (n-i)=min i (n-i):=by omega
     simp only[aF,aJ];have aK:X0.wrap ((i:Int)+((min i (n-i):Nat):Int))=((i+min i (n-i):Nat):Int):=by rw[wrap_i64 (by omega) (by omega)];omega
     rw[aK];refine⟨⟨(V.trans X).then aG (by rintro r az rfl;omega),_,rfl,by omega,by omega,ai⟩,?_⟩;simp only[bl,c8];omega
   ·have:i=n:=by omega
    subst this;rw[X6,List.replicate_zero,V4] at W;exact⟨V,g,by omega,am.of (n:=i) (br.full W (by simp) (by simp[maxLen];omega))⟩
  ·intro aM Y;refine aL (fun v E=>v= .bool false∧ac=E) ?_ ?_
   ·rintro _ _ ⟨rfl,rfl⟩;rw[aP];exact Y _ rfl
   ·intro a2 aN;simp only[bA,aa];refine⟨fun h=>by omega,fun _=>aN _ _ ⟨?_,rfl⟩⟩;rw[decide_eq_false];omega
 ·intro aM Y;simp only[ao,aa];exact⟨fun h=>by omega,fun _=>Y _ rfl⟩
end Go.Proofs.YtgbkinibgjmodaaGreatDoor
namespace Go.Proofs.YtgbkinibgjmodaaGreatDoor
open Go Go.Vc Go.RowKit Go.Proofs Go.Proofs.Tryz
set_option maxRecDepth 100000
def leads (v:x1) (r:Nat):Prop:=∃ a n c,v= .slice (some a) n c∧a.block=r
theorem bw {k:r9} {e:u5} {w:x2} {g:Nat} {v:x1} {l:List Int} (h:am k e w g v l) {r:Nat} (E:leads v r):r=g∧g<w.heap.size:=by
 obtain⟨a,n,c,rfl,rfl⟩:=E;obtain⟨_,⟨h,_⟩|⟨cap,cs,h,J,_⟩⟩:=h
 ·cases h
 ·cases h;exact⟨rfl,J.lt⟩
theorem aX {k:r9} {e:u5} {S:Nat→Prop} {w w':x2} {g:Nat} {v:x1} {l:List Int} (h:am k e w g v l) (J:af S w w') (E:∀ r,leads v r→¬S r):am k e w' g v l:=by
 refine⟨h.1,h.2.imp id fun⟨cap,cs,h1,O,V⟩=>⟨cap,cs,h1,O.U J (E g ⟨_,_,_,h1,rfl⟩),V⟩⟩
def cp (w:x2) (g E:Nat) (sv:x1) (ai:List Int) (k:Int) (cs:List Int):Prop:=
 (∃ aH gs,ad w g ci [sv,.int .i64 k,aH]∧am .i64 ab w gs sv ai∧am .i64 aj w E aH cs)∧(g≠E∧¬leads sv E∧aD ai≤4096)∧bu ai∧cs.length=(aD ai).toNat
theorem cp.ext {w w':x2} {g E:Nat} {sv:x1} {ai:List Int} {k:Int} {cs:List Int} (h:cp w g E sv ai k cs) (J:Ext w w'):cp w' g E sv ai k cs:=by
 obtain⟨⟨aH,gs,h1,O,U⟩,V⟩:=h;exact⟨⟨aH,gs,h1.ext J,O.ext J,U.ext J⟩,V⟩
def uJ (w:x2) (l:List Int) (k E:Int) (v:x1) (w':x2):Prop:=
 Ext w w'∧
  (¬bu l→v= .tuple #[.pointer none,.int .i64 1])∧
  (bu l→4096<aD l→v= .tuple #[.pointer none,.int .i64 5])∧
  (bu l→aD l≤4096→¬cj E k→v= .tuple #[.pointer none,.int .i64 3])∧
  (bu l→aD l≤4096→cj E k→ ∃ g J sv,v= .tuple #[.pointer (some ⟨g,0,none⟩),.int .i64 0]∧w.heap.size≤g∧w.heap.size≤J∧(∀ r,leads sv r→w.heap.size≤r)∧
   cp w' g J sv l k (v8 (aD l).toNat E))
theorem qN {sv:x1} {l:List Int} {k ae:Int} {w:x2} (h:aC .i64 w sv l):ah x5 Av [sv,.int .i64 k,.int .i64 ae] w (uJ w l k ae):=by
 refine aq func89 ?_;refine (CK h).mono ?_;rintro v ak _ ⟨ax,aM,aN,aO⟩;obtain⟨J,e,rfl,aP,he⟩:∃ (J:x1) (e:Int),v= .tuple #[.agg #[J],.int .i64 e]∧J.oneCell'=true∧
   ((e=1∧¬bu l)∨(e=5∧bu l∧4096<aD l)∨(e=0∧bu l∧aD l≤4096∧ ∃ g,w.heap.size≤g∧am .i64 ab ak g J l)):=by
  by_cases E:bu l
  ·by_cases ad:aD l≤4096
   ·obtain⟨g,J,rfl,h1,ay⟩:=aO E ad;exact⟨J,0,rfl,ay.ls.cells.2,.inr (.inr ⟨rfl,E,ad,g,h1,ay⟩)⟩
   ·exact⟨_,_,aN E (by omega),rfl,.inr (.inl ⟨rfl,E,by omega⟩)⟩
  ·exact⟨_,_,aM E,rfl,.inl ⟨rfl,E⟩⟩
 rw[av (v:=.agg #[J]) rfl,av (v:=.int .i64 e) rfl];refine bi a6.i fun bm bn bo aQ aR=>?_;refine bP (vs:=[J]) a6.i rfl rfl (by intro u hu;simp at hu;subst hu;exact aP) aR ?_;intro aS aT bp aU;have az:Ext ak aS:=aQ.then aT (by rintro r W rfl;omega);have aB:=ax.trans az;simp only[be,aa];refine⟨fun aV=>⟨aB,?_⟩,fun bq=>?_⟩
 ·rcases he with⟨rfl,af⟩|⟨rfl,E,ad⟩|⟨rfl,_⟩
  ·exact⟨fun _=>rfl,fun h=>absurd h af,fun h=>absurd h af,fun h=>absurd h af⟩
  ·exact⟨fun h=>absurd E h,fun _ _=>rfl,fun _ h=>by omega,fun _ h=>by omega⟩
  ·exact absurd rfl aV
 ·obtain⟨rfl,E,ad,gs,br,hm⟩:e=0∧bu l∧aD l≤4096∧ ∃ g,w.heap.size≤g∧am .i64 ab ak g J l:=by
   rcases he with⟨rfl,af⟩|⟨rfl,E,ad⟩|h
   ·omega
   ·omega
   ·exact h
  have bt:=prod_bound E;refine kq.mono ?_;rintro _ bx _ ⟨rfl,al⟩;have aE:=aB.trans al;simp only[bJ,b3];refine⟨fun ag=>⟨aE,fun h=>absurd E h,fun _ h=>by omega,fun _ _ _=>rfl,fun _ _ h=>by simp[h] at ag⟩,fun aW=>?_⟩;have aX:cj ae k:=by simpa using aW
  simp only[bR,dj];intro aF ao _ _;have aY:=aE.trans ao;have ai:=(az.trans al).trans ao;have aG:=(aU.ext al).ext ao;rw[bj a6.p a6.i rfl aG.range,bj a6.p a6.i rfl aG.range];have bz:=ax.size;have bA:=ai.size;have aH:((aD l).toNat:Int)=aD l:=by omega
  have aI:∀ {Z:x2} {Y:x1} {ac:Nat},Ext aF Z→aF.heap.size≤ac→am .i64 aj Z ac Y (v8 (aD l).toNat ae)→
    O x5 (Instr.build ci #[(0,.agg #[J]),(1,.int .i64 k),(2,Y)]) Z fun aZ=>aA x5 (Instr.box ci aZ) Z fun a1 aK=>uJ w l k ae (.tuple #[a1,.int .i64 0]) aK:=by
   intro Z Y ac X aL W;rw[cI (cs:=#[J,.int .i64 k,Y]) (by
    obtain⟨_,_,_,_,_,rfl,_⟩:=W.ls;obtain⟨_,_,_,_,_,rfl,_⟩:=hm.ls;kernel_rfl)]
   refine a7 fun g aK bB au a2=>?_;have bC:=X.size;have a8:leads Y ac:=by
    obtain⟨bD,⟨_,ba⟩|⟨cap,cs,rfl,_⟩⟩:=W
    ·simp at ba;omega
    ·exact⟨_,_,_,rfl,rfl⟩
   have bE:=(bw W a8).2;refine⟨(aY.trans X).trans au,fun h=>absurd E h,fun _ h=>by omega,fun _ _ h=>absurd aX h,fun _ _ _=>⟨g,ac,J,rfl,by omega,by omega,fun r bb=>?_,⟨Y,gs,a2,((hm.ext ai).ext X).ext au,W.ext au⟩,⟨by omega,fun bc=>?_,ad⟩,E,by simp⟩⟩
   ·have:=(bw hm bb).1;omega
   ·have:=bw hm bc;omega
  constructor
  ·refine dC ap.u aj.i rfl fun bd aJ bf bg U aw=>⟨.inl U,?_⟩;refine (ln ((hm.ext ai).ext U).ls E).mono ?_;rintro _ bh _ ⟨rfl,V⟩;refine⟨.inl (U.trans V),?_⟩;rw[←aH];refine (uI (aw.ext V).ls (by omega)).mono ?_;rintro Y Z _ ⟨X,ac,aL,W⟩;have bk:=U.size;have bl:=V.size;exact⟨.inl ((U.trans V).trans X),aI ((U.trans V).trans X) (by omega) W⟩
  ·refine (ln (hm.ext ai).ls E).mono ?_;rintro _ bf _ ⟨rfl,U⟩;refine⟨.inl U,?_⟩;refine dC ap.u aj.i rfl fun bd aJ bh bg V aw=>⟨.inl (U.trans V),?_⟩;rw[←aH];refine (uI aw.ls (by omega)).mono ?_;rintro Y Z _ ⟨X,ac,aL,W⟩;have bk:=U.size;have bl:=V.size;exact⟨.inl ((U.trans V).trans X),aI ((U.trans V).trans X) (by omega) W⟩
end Go.Proofs.YtgbkinibgjmodaaGreatDoor
namespace Go.Proofs.YtgbkinibgjmodaaGreatDoor
open Go Go.Vc Go.RowKit Go.Proofs Go.Proofs.Tryz
set_option maxRecDepth 100000
theorem kt {w:x2} {g:Nat} {e:u5} {cs E:List x1} {o:Nat} (h:ad w g e cs) (J:∀ j v,E[j]? =some v→cs[o+j]? =some v):w.rangeAt g o E:=fun j v ac=>h.cell (J j v ac)
theorem uK {w:x2} {g O:Nat} {sv E:x1} {ai t:List Int} {k:Int} {cs:List Int} (h:cp w g O sv ai k cs) (U:aC .i64 w E t):
  ah x5 A5 [.pointer (some ⟨g,0,none⟩),E] w fun v w'=>v=iq ai t∧Ext w w':=by
 obtain⟨⟨aH,gs,V,hm,X⟩,_,W,_⟩:=h;refine aq func174 ?_;rw[cB dA.u];simp only[c5,aP];rw[ax,ae ci.p rfl,bj (cs:=[sv]) a6.p a6.i rfl (kt V (by
  intro j v ac
  match j,ac with
  |0,ac=>exact ac))]
 refine (uH hm.ls U W).mono ?_;rintro _ Y _ ⟨rfl,J⟩;unfold iq;cases cd ai t 0 with
 |none=>rw[av (v:=.int .i64 0) rfl,av (v:=.int .i64 3) rfl];exact⟨rfl,J⟩
 |some n=>rw[av (v:=.int .i64 n) rfl,av (v:=.int .i64 0) rfl];exact⟨rfl,J⟩
def lp (ai t cs:List Int):x1:=match cd ai t 0 with
 |some n=>.tuple #[.int .i64 (cs.getD n.toNat 0),.int .i64 0]
 |none=>.tuple #[.int .i64 0,.int .i64 3]
theorem uL {ai t cs:List Int} {n:Int} (E:bu ai) (J:cs.length=(aD ai).toNat) (h:cd ai t 0=some n):n=(n.toNat:Int)∧n.toNat<cs.length:=by
 have:=kr E.2 h;simp only[Int.zero_mul,Int.zero_add,Int.one_mul] at this;omega
theorem qO {w:x2} {g U:Nat} {sv E:x1} {ai t:List Int} {k:Int} {cs:List Int} (h:cp w g U sv ai k cs) (W:aC .i64 w E t):
  ah x5 BP [.pointer (some ⟨g,0,none⟩),E] w fun v w'=>v=lp ai t cs∧Ext w w':=by
 refine aq func259 ?_;refine (uK h W).mono ?_;rintro _ ad _ ⟨rfl,J⟩;obtain⟨⟨aH,gs,X,hm,Y⟩,_,Z,ab⟩:=h.ext J;unfold iq lp;cases hi:cd ai t 0 with
 |none=>
  rw[av (v:=.int .i64 0) rfl,av (v:=.int .i64 3) rfl];simp only[be,aa];exact⟨fun _=>⟨trivial,J⟩,fun h=>by simp at h⟩
 |some n=>
  obtain⟨ac,O⟩:=uL Z ab hi;rw[av (v:=.int .i64 n) rfl,av (v:=.int .i64 0) rfl];simp only[be,aa];refine⟨fun h=>absurd rfl h,fun _=>?_⟩;rw[ax,ae ci.p rfl,V (by kernel_rfl) (X.cell (o:=0+2) rfl),
   eS ac ap.u aj.i (by kernel_rfl) Y.ls (y0 O)]
  refine⟨?_,J⟩;rw[u6,y0 O];rfl
def om (ai t:List Int) (k c:Int) (cs:List Int):List Int:=match cd ai t 0 with
 |some n=>if cj c k then cs.set n.toNat c else cs
 |none=>cs
def uM (ai t:List Int) (k c:Int):Int:=match cd ai t 0 with
 |some _=>if cj c k then 0 else 3
 |none=>3
theorem CM {w:x2} {g O:Nat} {sv ac:x1} {ai t:List Int} {k c:Int} {cs:List Int} (h:cp w g O sv ai k cs) (am:aC .i64 w ac t):
  ah x5 Ax [.pointer (some ⟨g,0,none⟩),ac,.int .i64 c] w fun v w'=>v= .int .i64 (uM ai t k c)∧af (fun r=>r=O) w w'∧cp w' g O sv ai k (om ai t k c cs):=by
 refine aq func91 ?_;refine (uK h am).mono ?_;rintro _ aE _ ⟨rfl,J⟩;have h1:=h.ext J;obtain⟨⟨aH,gs,E,hm,W⟩,_,X,Y⟩:=h1;unfold iq uM om;cases hi:cd ai t 0 with
 |none=>
  rw[av (v:=.int .i64 0) rfl,av (v:=.int .i64 3) rfl];simp only[be,aa];exact⟨fun _=>⟨trivial,J.U _,h.ext J⟩,fun h=>by simp at h⟩
 |some n=>
  obtain⟨aF,aG⟩:=uL X Y hi;rw[av (v:=.int .i64 n) rfl,av (v:=.int .i64 0) rfl];simp only[be,aa];refine⟨fun h=>absurd rfl h,fun _=>?_⟩;rw[ax,ae ci.p rfl,V (by kernel_rfl) (E.cell (o:=0+1) rfl)];refine kq.mono ?_;rintro _ aI _ ⟨rfl,Z⟩;have ad:=(h.ext J).ext Z;by_cases ag:cj c k
  ·simp only[ag,decide_true,bJ,Z3,aP,if_true];obtain⟨⟨aH,gs,E,hm,W⟩,⟨ao,ak⟩,X,Y⟩:=ad;have aJ:=W;obtain⟨aK,⟨rfl,aL⟩|⟨cap,full,rfl,au,aw,ay,az,al⟩⟩:=W
   ·omega
   ·rw[ax,ae ci.p rfl,V (by kernel_rfl) (E.cell (o:=0+2) rfl),
     uo (i:=n) ap.u aj.i (by omega) (by omega) (fun _=>rfl)]
    refine aZ aj.i rfl rfl au (by omega) ?_;intro aM ab aN aA;refine⟨trivial,((J.trans Z).U _).trans ab,⟨_,gs,E.U ab (by omega),aX hm ab (fun r aB aD=>ak.1 (aD▸aB)),?_⟩,⟨ao,ak⟩,X,by simp[Y]⟩;refine⟨by simp,.inr ⟨cap,full.set (0+n.toNat*1) (.int .i64 c),?_,aA,by simpa using aw,ay,by simpa using az,?_⟩⟩
    ·simp
    ·simp only[X4,V3,W9] at al ⊢;rw[List.take_set,al,ints,ints,List.map_set]
  ·simp only[ag,decide_false,bJ,Y8,bh,if_false];exact⟨trivial,(J.trans Z).U _,ad⟩
def bK (b:Int):Bool:=decide (b=32∨b=9∨b=10∨b=13)
def bg (b:Int):Bool:=decide (33≤b∧b≤126)
def ku:Nat→List Int→List (List Int)×Bool
 |0,_=>([],true)
 |n+1,p=>
  match p.dropWhile bK with
  |[]=>([],true)
  |b::q=>
   if bg b then
    match (b::q).dropWhile bg with
    |[]=>([(b::q).takeWhile bg],true)
    |c::r=>if bK c then (((b::q).takeWhile bg)::(ku n (c::r)).1,(ku n (c::r)).2) else ([],false)
   else ([],false)
def lex (p:List Int):List (List Int)×Bool:=ku (p.length+1) p
theorem lq (f:Int→Bool):∀ (l:List Int),(l.dropWhile f).length≤l.length
 |[]=>u9 _
 |x::l=>by
  rw[List.dropWhile_cons];split
  ·exact Z5 (lq f l) (Nat.le_succ _)
  ·exact u9 _
theorem oo {f:Int→Bool} {x:Int} {l:List Int} (h:f x=true):((x::l).dropWhile f).length≤l.length:=by
 rw[List.dropWhile_cons,if_pos h];exact lq f l
theorem uN:∀ {n m:Nat} {p:List Int},p.length<n→p.length<m→ku n p=ku m p
 |n+1,m+1,p,V,hm=>by
  unfold ku;have h1:=lq bK p;cases O:p.dropWhile bK with
  |nil=>rfl
  |cons b q=>
   rw[O] at h1;simp only;by_cases E:bg b=true
   ·rw[if_pos E,if_pos E];have J:=oo (l:=q) E;cases U:(b::q).dropWhile bg with
    |nil=>rfl
    |cons c r=>
     rw[U] at J;simp only[l6] at h1 J;simp only;rw[uN (n:=n) (m:=m) (p:=c::r) (by rw[l6];omega) (by rw[l6];omega)]
   ·rw[if_neg E,if_neg E]
theorem hR (p:List Int):lex p=match p.dropWhile bK with
  |[]=>([],true)
  |b::q=>
   if bg b then
    match (b::q).dropWhile bg with
    |[]=>([(b::q).takeWhile bg],true)
    |c::r=>if bK c then (((b::q).takeWhile bg)::(lex (c::r)).1,(lex (c::r)).2) else ([],false)
   else ([],false):=by
 unfold lex
 conv=>lhs;unfold ku
 have h1:=lq bK p;cases O:p.dropWhile bK with
 |nil=>rfl
 |cons b q=>
  rw[O] at h1;simp only;by_cases E:bg b=true
  ·rw[if_pos E,if_pos E];have J:=oo (l:=q) E;cases U:(b::q).dropWhile bg with
   |nil=>rfl
   |cons c r=>
    rw[U] at J;simp only[l6] at h1 J;simp only;rw[uN (n:=p.length) (m:=(c::r).length+1) (p:=c::r) (by rw[l6];omega) (by omega)]
  ·rw[if_neg E,if_neg E]
theorem mw:∀ (n:Nat) (p:List Int),p.length≤n→(lex p).1.length≤p.length
 |n,p,W=>by
  rw[hR];have h1:=lq bK p;cases U:p.dropWhile bK with
  |nil=>simp
  |cons b q=>
   rw[U] at h1;simp only;by_cases E:bg b=true
   ·rw[if_pos E];have J:=oo (l:=q) E;cases V:(b::q).dropWhile bg with
    |nil=>simp only[l6,List.length_nil] at h1 ⊢;omega
    |cons c r=>
     rw[V] at J;simp only[l6] at h1 J;simp only;by_cases O:bK c=true
     ·rw[if_pos O]
      match n with
      |0=>omega
      |n+1=>
       have:=mw n (c::r) (by rw[l6];omega);simp only[l6] at this ⊢;omega
     ·rw[if_neg O];simp
   ·rw[if_neg E];simp
theorem oq:∀ (n:Nat) (p:List Int),p.length≤n→ ∀ w∈(lex p).1,w≠[]∧(∀ b∈w,bg b=true)∧w.length≤p.length
 |n,p,Z,w,hw=>by
  rw[hR] at hw;have h1:=lq bK p;cases O:p.dropWhile bK with
  |nil=>rw[O] at hw;simp at hw
  |cons b q=>
   rw[O] at h1 hw;simp only at hw;have Y:(b::q).length≤p.length:=h1;by_cases E:bg b=true
   ·rw[if_pos E] at hw;have U:=oo (l:=q) E;have V:(b::q).takeWhile bg≠[]∧(∀ x∈(b::q).takeWhile bg,bg x=true)∧((b::q).takeWhile bg).length≤p.length:=
     ⟨by rw[List.takeWhile_cons,if_pos E];simp,fun x J=>List.all_takeWhile (l:=b::q) (p:=bg) |> List.all_eq_true.1 |> fun h=>h x J,Z5 (List.takeWhile_sublist _).length_le Y⟩
    cases W:(b::q).dropWhile bg with
    |nil=>
     rw[W] at hw;simp only[p8] at hw;subst hw;exact V
    |cons c r=>
     rw[W] at U hw;simp only[l6] at h1 U;simp only at hw;by_cases X:bK c=true
     ·rw[if_pos X] at hw;rcases V8.1 hw with rfl|hw
      ·exact V
      ·match n with
       |0=>omega
       |n+1=>
        have:=oq n (c::r) (by rw[l6];omega) w hw;exact⟨this.1,this.2.1,Z5 this.2.2 (by rw[l6];omega)⟩
     ·rw[if_neg X] at hw;simp at hw
   ·rw[if_neg E] at hw;simp at hw
def ak:Int:=4611686018427387904
def eJ (b:Int):Bool:=decide (48≤b∧b≤57)
def dI (n b:Int):Int:=min ak (10*n+(b-48))
def hS:List Int→Option Int
 |[]=>none
 |l=>if l.all eJ then some (l.foldl dI 0) else none
def eK:List Int→Option Int
 |45::l=>(hS l).map fun n=>-n
 |l=>hS l
theorem CN {n b:Int} (J:0≤n) (E:eJ b=true):0≤dI n b∧dI n b≤ak:=by
 have E:=of_decide_eq_true E;unfold dI ak;omega
theorem ot:∀ {l:List Int} {n:Int},l.all eJ=true→0≤n∧n≤ak→0≤l.foldl dI n∧l.foldl dI n≤ak
 |[],n,_,E=>E
 |b::l,n,h,E=>by
  rw[List.all_cons,X2] at h;exact ot (l:=l) h.2 (CN E.1 h.1)
structure aw where
 toks:List (List Int)
 told:Int
 big:Bool
 shared:List (List Int×List (List Int×Int))
deriving DecidableEq
def cU (s:aw):Option (List Int×aw):=match s.toks with
 |[]=>none
 |w::l=>some (w,{s with toks:=l})
def aT (lo hi:Int) (s:aw):Option (Int×aw):=match cU s with
 |none=>none
 |some (w,s)=>match eK w with
  |none=>none
  |some n=>if lo≤n∧n≤hi then some (n,s) else none
def aQ (b:Bool) (s:aw):aw:={s with big:=s.big||b}
def b1 {α:Type} (f:List α→aw→Option (α×aw)):Nat→List α→aw→Option (List α×aw)
 |0,acc,s=>some (acc,s)
 |n+1,acc,s=>match f acc s with
  |none=>none
  |some (a,s)=>b1 f n (acc++[a]) s
def dJ (n:Int) (E:Nat) (s:aw):Option (List Int×aw):=b1 (fun acc s=>match aT 0 (n-1) s with
 |none=>none
 |some (v,s)=>if v∈acc then none else some (v,s)) E [] s
def gk:List Int→List Int→aw→Option (List Int×aw)
 |[],acc,s=>some (acc,s)
 |k::l,acc,s=>match aT 0 (k-1) s with
  |none=>none
  |some (v,s)=>gk l (acc++[v]) s
def cV (sizes:List Int) (acc:List (List Int×Int)) (s:aw):Option ((List Int×Int)×aw):=match gk sizes [] s with
 |none=>none
 |some (t,s)=>match aT 0 ak s with
  |none=>none
  |some (c,s)=>if t∈acc.map (·.1) then none else some ((t,c),s)
def cW (sizes:List Int) (s:aw):Option (List (List Int×Int)×aw):=match aT (-ak) ak s with
 |none=>none
 |some (n,s)=>
  if n<0 then match s.shared[(-n-1).toNat]? with
   |none=>none
   |some (z,l)=>if z=sizes then some (l,s) else none
  else b1 (cV sizes) n.toNat [] (aQ (decide (16384<min (s.told+n) ak)) {s with told:=min (s.told+n) ak})
def cE (sizes:List Int):Bool:=decide (4096<aD (sizes.map fun k=>min k 4097))
structure bH where
 scope:List Int
 sizes:List Int
 other:Int
 lines:List (List Int×Int)
deriving DecidableEq
def ck (all:List Int) (s:aw):Option (bH×aw):=match aT (-ak) ak s with
 |none=>none
 |some (a,s)=>match dJ all.length a.natAbs s with
  |none=>none
  |some (scope,s)=>
   let sizes:=scope.map fun v=>all.getD v.toNat 0
   match aT 0 ak (aQ (decide (6<a.natAbs)||cE sizes) s) with
   |none=>none
   |some (other,s)=>match cW sizes s with
    |none=>none
    |some (lines,s)=>some (⟨scope,sizes,other,lines⟩,if a<0 then {s with shared:=s.shared++[(sizes,lines)]} else s)
def ep (most:Int) (_:List Int) (s:aw):Option (Int×aw):=match aT 1 most s with
 |none=>none
 |some (z,s)=>some (z,aQ (decide (32<z)) s)
structure bx where
 name:List Int
 k:Int
 sizes:List Int
 funs:List bH
deriving DecidableEq
def fA (s:aw):Option (bx×aw):=match cU s with
 |none=>none
 |some (name,s)=>match aT 1 ak (aQ (decide (64<name.length)) s) with
  |none=>none
  |some (n,s)=>match aT 1 ak (aQ (decide (64<n)) s) with
   |none=>none
   |some (most,s)=>match aT 0 ak s with
    |none=>none
    |some (E,s)=>match aT 1 ak (aQ (decide (256<E)) s) with
     |none=>none
     |some (k,s)=>match b1 (ep most) n.toNat [] (aQ (decide (2147483648<k)) s) with
      |none=>none
      |some (sizes,s)=>match b1 (fun _ s=>ck sizes s) E.toNat [] s with
       |none=>none
       |some (funs,s)=>some (⟨name,k,sizes,funs⟩,s)
def eT (p:List Int):Option bx:=if 65536<p.length then none else match fA ⟨(lex p).1,0,false,[]⟩ with
 |none=>none
 |some (f,s)=>if s.toks=[]∧(lex p).2=true∧s.big=false then some f else none
def jI (n:Int) (E:Bool) (v:Int):Prop:=0≤n∧n≤4611686018427387909∧(E=true→v=ak)∧(E=false→v=min ak n)
theorem CO {n b v:Int} {E:Bool} (h:jI n E v) (W:48≤b∧b≤57):
  jI (if E=true∨461168601842738790<n then n else 10*n+(b-48)) (E||decide (461168601842738790<n)) (dI v b):=by
 obtain⟨h1,O,U,V⟩:=h;unfold dI jI ak at*;cases E with
 |true=>
  have:=U rfl;rw[if_pos (.inl rfl)];exact⟨h1,O,fun _=>by omega,fun h=>by cases h⟩
 |false=>
  have:=V rfl;by_cases J:461168601842738790<n
  ·rw[if_pos (.inr J),decide_eq_true J];exact⟨h1,O,fun _=>by omega,fun h=>by cases h⟩
  ·rw[if_neg (by simp[J]),decide_eq_false J];exact⟨by omega,by omega,(fun h=>by cases h),fun _=>by omega⟩
theorem CP:jI 0 false 0:=by unfold jI ak;exact⟨by omega,by omega,(fun h=>by cases h),fun _=>by omega⟩
theorem CQ {n v:Int} {E:Bool} (h:jI n E v):v=if E=true∨4611686018427387904<n then 4611686018427387904 else n:=by
 obtain⟨h1,V,O,U⟩:=h;unfold ak at*;cases E with
 |true=>rw[if_pos (.inl rfl)];exact O rfl
 |false=>
  have:=U rfl;by_cases J:4611686018427387904<n
  ·rw[if_pos (.inr J)];omega
  ·rw[if_neg (by simp[J])];omega
structure Cell where
 v:Int
 st:Nat
structure ir where
 i:Nat
 c:Cell
structure ou where
 olds:Nat
 cells:Nat
 st:Nat
structure aM where
 cells:List Cell
 olds:List ir
 marks:List ou
 jJ:Nat
def aM.bF (t:aM):List Int:=t.cells.map (·.v)
def aM.set (t:aM) (i:Nat) (x:Int):aM:=match t.cells[i]? with
 |none=>t
 |some c=>match t.marks.getLast? with
  |none=>{t with cells:=t.cells.set i ⟨x,c.st⟩}
  |some m=>if c.st<m.st∧i<m.cells then {t with olds:=t.olds++[⟨i,c⟩],cells:=t.cells.set i ⟨x,m.st⟩} else {t with cells:=t.cells.set i ⟨x,c.st⟩}
def aM.grow (t:aM) (n:Nat):aM:={t with cells:=t.cells++v8 n ⟨0,0⟩}
def back (os:List ir) (cs:List Cell):List Cell:=os.foldr (fun o cs=>cs.set o.i o.c) cs
theorem my:∀ (os:List ir) (cs:List Cell),(back os cs).length=cs.length
 |[],_=>rfl
 |o::os,cs=>by
  have:=my os cs;show ((back os cs).set o.i o.c).length=_;rw[X4,this]
theorem back_append (a b:List ir) (cs:List Cell):back (a++b) cs=back a (back b cs):=by unfold back;rw[List.foldr_append]
theorem qP:∀ {os:List ir} {cs:List Cell} {n:Nat},(back os cs).take n=back (os.filter fun o=>decide (o.i<n)) (cs.take n)
 |[],cs,n=>rfl
 |o::os,cs,n=>by
  show ((back os cs).set o.i o.c).take n=_;by_cases h:o.i<n
  ·rw[List.filter_cons_of_pos (by simpa using h),List.take_set,qP];rfl
  ·rw[List.filter_cons_of_neg (by simpa using h),List.take_set_of_le (by omega),qP]
theorem uO {os:List ir} {cs:List Cell} {n:Nat} (h:∀ o∈os,o.i<n):(back os cs).take n=back os (cs.take n):=by
 rw[qP,List.filter_eq_self.2 fun o E=>by simpa using h o E]
theorem uP:∀ {os:List ir} {cs E:List Cell} {i:Nat},cs.length=E.length→(∃ o∈os,o.i=i)→(back os cs)[i]? =(back os E)[i]?
 |[],_,_,_,_,⟨_,h,_⟩=>by cases h
 |o::os,cs,E,i,O,hm=>by
  show ((back os cs).set o.i o.c)[i]? =((back os E).set o.i o.c)[i]?;rw[Y0,Y0];by_cases h:o.i=i
  ·rw[if_pos h,if_pos h,my,my,O]
  ·rw[if_neg h,if_neg h];obtain⟨x,J,he⟩:=hm;rcases V8.1 J with rfl|J
   ·exact absurd he h
   ·exact uP O ⟨x,J,he⟩
theorem uQ:∀ {os:List ir} {cs E:List Cell} {i:Nat},cs[i]? =E[i]? →cs.length=E.length→(back os cs)[i]? =(back os E)[i]?
 |[],_,_,_,h,_=>h
 |o::os,cs,E,i,h,J=>by
  show ((back os cs).set o.i o.c)[i]? =((back os E).set o.i o.c)[i]?;rw[Y0,Y0,my,my,J,uQ h J]
def hf:aM→List aM→Prop
 |t,[]=>t.marks=[]∧t.olds=[]∧ ∀ c∈t.cells,c.st≤t.jJ
 |t,s::h=>hf s h∧(∀ c∈t.cells,c.st≤t.jJ)∧ ∃ m new,t.marks=s.marks++[m]∧m.olds=s.olds.length∧m.cells=s.cells.length∧t.olds=s.olds++new∧m.cells≤t.cells.length∧(back new t.cells).take m.cells=s.cells∧
   (∀ c∈s.cells,c.st<m.st)∧(∀ c∈t.cells,c.st≤m.st)∧(∀ (i:Nat) c,i<m.cells→t.cells[i]? =some c→c.st=m.st→ ∃ o∈new,o.i=i)∧(∀ o∈new,o.i<m.cells)∧m.st≤t.jJ∧s.jJ≤t.jJ
theorem hf.grow {h:List aM} {t:aM} {n:Nat} (J:hf t h):hf (t.grow n) h:=by
 cases h with
 |nil=>
  refine⟨J.1,J.2.1,fun c E=>?_⟩;rcases p9.1 E with E|E
  ·exact J.2.2 c E
  ·rw[(List.mem_replicate.1 E).2];exact Z1 _
 |cons s h=>
  obtain⟨h1,V,m,new,W,X,a3,a4,a5,Y,Z,aa,a9,O,ab,ac⟩:=J;have U:∀ {b:Nat},(∀ c∈t.cells,c.st≤b)→ ∀ c∈(t.grow n).cells,c.st≤b:=fun ad c E=>by
   rcases p9.1 E with E|E
   ·exact ad c E
   ·rw[(List.mem_replicate.1 E).2];exact Z1 _
  refine⟨h1,U V,m,new,W,X,a3,a4,by show m.cells≤(t.cells++_).length;rw[r8];omega,?_,Z,U aa,fun i c hi E he=>?_,O,ab,ac⟩
  ·show (back new (t.cells++_)).take m.cells=_;rw[uO O,List.take_append_of_le_length a5,←uO O];exact Y
  ·have E:(t.cells++v8 n ⟨0,0⟩)[i]? =some c:=E;rw[Z0 (by omega)] at E;exact a9 i c hi E he
theorem CR {s:aM} {m:ou} {l:List ou} (h:l=s.marks++[m]):l.getLast? =some m:=by rw[h,List.getLast?_concat]
theorem hf.set {h:List aM} {t:aM} {i:Nat} {x:Int} (ab:hf t h):hf (t.set i x) h:=by
 unfold aM.set;cases V:t.cells[i]? with
 |none=>exact ab
 |some c=>
  have af:=(x3.1 V).1;have Y:=x4 V;have W:∀ {b st:Nat},(∀ c∈t.cells,c.st≤b)→st≤b→ ∀ d∈t.cells.set i ⟨x,st⟩,d.st≤b:=fun am ac d E=>by
   rcases V2 E with E|rfl
   ·exact am d E
   ·exact ac
  cases h with
  |nil=>
   obtain⟨h1,X,ag⟩:=ab;simp only[h1,List.getLast?_nil];exact⟨rfl,X,W ag (ag c Y)⟩
  |cons s h=>
   obtain⟨h1,X,m,new,ad,ah,a3,a4,a5,ai,aj,Z,a9,ak,ae,al⟩:=ab;simp only[CR ad];by_cases aa:c.st<m.st∧i<m.cells
   ·rw[if_pos aa];refine⟨h1,W X ae,m,new++[⟨i,c⟩],ad,ah,a3,by show t.olds++_=_;rw[a4,X8],by show m.cells≤(t.cells.set i _).length;rw[X4];exact a5,?_,aj,W Z (u9 _),fun j d J E he=>?_,fun o U=>?_,ae,al⟩
    ·show (back (new++[⟨i,c⟩]) (t.cells.set i _)).take m.cells=_;rw[back_append];have:back [⟨i,c⟩] (t.cells.set i ⟨x,m.st⟩)=t.cells:=by
      show (t.cells.set i _).set i c=_;rw[List.set_set];refine Y4 fun j=>?_;rw[Y0];by_cases J:i=j
      ·subst J;rw[if_pos rfl,if_pos af,V]
      ·rw[if_neg J]
     rw[this];exact ai
    ·have E:(t.cells.set i ⟨x,m.st⟩)[j]? =some d:=E;by_cases O:i=j
     ·exact⟨⟨i,c⟩,by simp,O⟩
     ·rw[Y0,if_neg O] at E;obtain⟨o,U,he⟩:=a9 j d J E he;exact⟨o,List.mem_append_left _ U,he⟩
    ·rcases p9.1 U with U|U
     ·exact ak o U
     ·rw[p8.1 U];exact aa.2
   ·rw[if_neg aa];refine⟨h1,W X (X c Y),m,new,ad,ah,a3,a4,by show m.cells≤(t.cells.set i _).length;rw[X4];exact a5,?_,aj,W Z (Z c Y),fun j d J E he=>?_,ak,ae,al⟩
    ·rw[←ai];show (back new (t.cells.set i _)).take m.cells=_;refine Y4 fun j=>?_;by_cases J:j<m.cells
     ·rw[c7 J,c7 J];by_cases O:i=j
      ·subst O;have ac:c.st=m.st:=by
        have:=Z c Y;have:¬c.st<m.st:=fun ao=>aa ⟨ao,J⟩;omega
       exact uP (by rw[X4]) (a9 i c J V ac)
      ·exact uQ (by rw[Y0,if_neg O]) (by rw[X4])
     ·rw[c6 (by rw[o5];omega),c6 (by rw[o5];omega)]
    ·have E:(t.cells.set i ⟨x,c.st⟩)[j]? =some d:=E;by_cases O:i=j
     ·subst O;rw[Y0,if_pos rfl,if_pos af] at E;cases E;exact a9 i c J V he
     ·rw[Y0,if_neg O] at E;exact a9 j d J E he
theorem aM.ov {t:aM} {i:Nat} {x:Int}:(t.set i x).bF=t.bF.set i x:=by
 unfold aM.set aM.bF;cases E:t.cells[i]? with
 |none=>rw[List.set_eq_of_length_le (by rw[u7];exact List.getElem?_eq_none_iff.1 E)]
 |some c=>
  simp only;cases t.marks.getLast? with
  |none=>simp only;rw[List.map_set]
  |some m=>simp only;split <;> rw[List.map_set]
theorem aM.CS {t:aM} {n:Nat}:(t.grow n).bF=t.bF++v8 n 0:=by
 unfold aM.grow aM.bF;rw[o9,List.map_replicate]
end Go.Proofs.YtgbkinibgjmodaaGreatDoor
namespace Go.Vc
open Go Go.RowKit
section
variable {P:Y3} {w:x2} {m:Bool} {S R:an}
theorem ow {t e:u5} {b n k l h:Nat} {z v:x1} {low high:Option x1} {cs:List x1} {K:x1→Prop} (U:P.underlying t=some (.slice e)) (hi:aE P e k b z)
  (ac:bG w k v n cs) (h1:i9 low l) (V:ja high n h) (E:l≤h) (W:h≤n) (X:∀ J,bG w k J (h-l) ((cs.drop (l*k)).take ((h-l)*k))→K J):
  O P (Y9 t v low high none) w K:=by
 have Y:=ac;obtain⟨_,Z,o,base,cap,rfl,aa,_⟩:=ac;rw[fz U hi h1 V eb E (by omega) (u9 _)];exact X _ (bG.part Y E W (by omega) (u9 _))
theorem CT {t e:u5} {J k:r9} {b i:Nat} {y:Int} {z v:x1} {l:List Int} {K:x1→Prop} (U:y=(i:Int)) (V:P.underlying t=some (.slice e)) (hi:aE P e 1 b z)
  (h:aC k w v l) (W:i≤l.length) (X:∀ E,aC k w E (l.drop i)→K E):O P (Y9 t v (some (.int J y)) none none) w K:=by
 refine ow V hi h (ki i y U) hd W (u9 _) fun E h'=>X E (aC.of (n:=l.length-i) ?_);have Y:((ints k l).drop (i*1)).take ((l.length-i)*1)=ints k (l.drop i):=by
  rw[b6 (by simp),W9,ints,←List.map_drop]
 rw[Y] at h';exact h'
theorem CU {t e:u5} {J k:r9} {b i:Nat} {y:Int} {z v:x1} {l:List Int} {K:x1→Prop} (U:y=(i:Int)) (V:P.underlying t=some (.slice e)) (hi:aE P e 1 b z)
  (h:aC k w v l) (W:i≤l.length) (X:∀ E,aC k w E (l.take i)→K E):O P (Y9 t v none (some (.int J y)) none) w K:=by
 refine ow V hi h hc (kj i y U) (Z1 _) W fun E h'=>X E (aC.of (n:=i) ?_);have Y:((ints k l).drop (0*1)).take ((i-0)*1)=ints k (l.take i):=by
  simp[ints,List.map_take]
 rw[Y] at h';exact h'
theorem ox {t e:u5} {b n:Nat} {parts:Array (Nat×x1)} {l:List Int} {K:x1→x2→Prop} (E:P.underlying t=some (.slice e)) (hi:aE P e 1 b (.int .i64 0)) (X:n≤100000) (O:l.length=n)
  (ag:Instr.fill (fun j=>some (j*1,1)) ((Array.range (n*1)).map ((if n*1=0 then #[] else (Y5 .i64 0).cells)[·% (if n*1=0 then #[] else (Y5 .i64 0).cells).size]!)) parts.toList=some (ints .i64 l).toArray)
  (U:∀ v g w',g=w.heap.size→Ext w w'→am .i64 e w' g v l→K v w'):aA P (j9 t n parts) w K:=
 hM E hi (by omega) ag fun g w' V J W=>U _ g w' V J (am.of (n:=n) (br.full (by simpa using W) (by simp[O]) (by simp[maxLen];omega)))
end
section
variable {P:Y3} {w:x2}
theorem CV {t J O e:u5} {U kn:r9} {b n k cap:Nat} {y:Int} {z:x1} {base:Option Addr} {xs:List x1} {K:x1→x2→Prop} (X:y=(k:Int)) (Y:P.underlying t=some (.slice e)) (Z:P.underlying J=some (.int kn)) (hi:aE P e 1 b z) (aa:z.cells= #[z])
  (ab:bG w 1 (.slice base n cap) n xs) (ac:0<k) (V:cap<n+k) (ad:(n+k)*b≤140737488355328) (ae:n+k≤9223372036854775807)
  (af:∀ v g w',g=w.heap.size→Ext w w'→br w' g e 1 v (n+k) (xs++v8 k z)→K v w'):aA P (l5 #[t,J] O #[.slice base n cap,.int U y]) w K:=by
 subst X;obtain⟨i,hi,ag,rfl,ah⟩:=hi;obtain⟨E,av,o,aw,ax,he,ai,ay,aj,ak⟩:=ab;cases he;have al:(n0.firstCells i.size n (.slice base n cap)).run P w.drew= .ok xs.toArray w.drew:=by
  rcases Nat.eq_zero_or_pos n with rfl|am
  ·have:xs=[]:=o8 (by simpa using E);subst this;cases base with
   |none=>exact run_firstCells_none w.drew i.size 0 0 cap
   |some a=>exact run_firstCells_some w.drew i.size 0 a 0 cap [] (by simp) (by simp)
  ·have:=aj am;subst this;refine run_firstCells_some w.drew i.size n _ n cap xs (by rw[ag];exact E) fun j u hu=>?_;rw[W5];exact ak j u hu
 have ao:k*i.bytes≤281474976710656:=by
  have:k*i.bytes≤(n+k)*i.bytes:=Y7 _ (by omega);omega
 have ap:=Lib.run_append_grow_zeros (P:=P) w t J O e i z U kn Y Z hi ah base n cap xs al k ac (by omega) V (by omega) ao (growslice_fits V ad);have aq:n+k≤grownCap w (n+k) cap e:=grownCap_ge w _ _ _;have au:grownCap w (n+k) cap e≤maxLen:=grownCap_le_maxLen w (n+k) cap e (by simpa[maxLen] using ae);have W:∀ m,n0.zeroCells z.cells m=(v8 m z).toArray:=fun m=>by
  rw[aa];apply Array.ext
  ·simp[size_zeroCells]
  ·intro j h1 ai;simp[n0.zeroCells,Nat.mod_one]
 refine .of ap ((l0 w _ (Nat.le_succ _)).trans (l2 _ _)) (af _ w.heap.size _ rfl ((nt w _).trans (l1 _ _)) ⟨by simp at E;simp[E],.inr ⟨_,xs++v8 k z++v8 (grownCap w (n+k) cap e-(n+k)) z,rfl,?_,aq,au,?_,?_⟩⟩)
 ·rw[W,W];have:=heap_alloc_new w.drew (.cells (xs.toArray++(v8 k z).toArray++(v8 (grownCap w (n+k) cap e-(n+k)) z).toArray) e);rw[List.append_toArray,List.append_toArray] at this ⊢;exact this
 ·simp at E;simp[E];omega
 ·simp at E;rw[List.take_append_of_le_length (by simp[E]),b6 (by simp[E])]
theorem uR {t e E:u5} {base:Option Addr} {n c:Nat} {K:x1→Prop} (J:P.underlying t=some (.slice e)):
  O P (n0.cap_ #[t] E #[.slice base n c]) w K=K (.int .i64 c):=O.of fun w' _=>by simp[n0.cap_,run_underlying J,goInt]
theorem CW {g o k c:Nat} {e:u5} {cs:List x1} (h:ad w g e cs) (U:o+k≤cs.length) (E:k≤c) (J:c≤maxLen):bG w 1 (.slice (some ⟨g,o,none⟩) k c) k ((cs.drop o).take k):=by
 refine⟨by simp;omega,g,o,_,c,rfl,E,J,fun _=>rfl,fun j v ac=>?_⟩;have O:=(x3.1 ac).1;simp at O;rw[c7 (by omega),List.getElem?_drop] at ac;exact h.cell ac
theorem uS {t O e V:u5} {W g o n cap:Nat} {z:x1} {cs:List x1} {K:x1→x2→Prop} (X:P.underlying t=some (.slice e)) (hi:aE P e 1 W z) (Y:z.cells= #[z]) (h1:z.oneCell'=true)
  (E:ad w g V cs) (Z:0<n) (ag:o+n≤cs.length)
  (aa:∀ w',af (fun r=>r=g) w w'→w'.heap.size=w.heap.size→ad w' g V (over cs o (v8 n z))→K (.tuple #[]) w'):aA P (n0.clear_ #[t] O #[.slice (some ⟨g,o,none⟩) n cap]) w K:=by
 obtain⟨i,hi,ah,rfl,ab⟩:=hi;have ac:=Lib.run_clear_slice (P:=P) w t e O z X (fun w=>by simp[zeroValue,typeInfo,hi,ab]) Y h1 g o n cap Z
  (fun j ai=>by rw[E.cell (y0 (show o+j<cs.length by omega))];rfl) (fun j _=>E.frozen _ _)
 obtain⟨ae,J⟩:=kl (v8 n z) cs o w E;exact .of ac (J.cR E) (aa _ J.U J.size ae)
end
section
variable {P:Y3} {w:x2}
theorem fR {t e E:u5} {J k:r9} {i b g:Nat} {y:Int} {z v:x1} {l:List Int} {K:x1→Prop} (U:y=(i:Int)) (V:P.underlying t=some (.slice e)) (hi:aE P e 1 b z)
  (h:am k E w g v l) (W:i<l.length):O P (j4 t v (.int J y)) w K=K (.pointer (some ⟨g,i,none⟩)):=by
 subst U;obtain⟨_,⟨_,X⟩|⟨cap,cs,rfl,_⟩⟩:=h
 ·omega
 ·rw[gj V hi W (fun _=>rfl)];simp
theorem oy {t e:u5} {E k:r9} {i b:Nat} {y x:Int} {z v:x1} {l:List Int} {K:x1→Prop} (U:y=(i:Int)) (V:P.underlying t=some (.slice e)) (hi:aE P e 1 b z)
  (h:aC k w v l) (J:l[i]? =some x) (W:∀ b o,w.cell? ⟨b,o,none⟩=some (.int k x)→K (.pointer (some ⟨b,o,none⟩))):O P (j4 t v (.int E y)) w K:=by
 subst U;have X:=(x3.1 J).1;obtain⟨_,_,_,_,_,rfl,_,_,Y,Z⟩:=h;rw[gj V hi X Y,W9];exact W _ _ (Z i _ (il J))
theorem fS {e E:u5} {k:r9} {i b g:Nat} {x:Int} {z v:x1} {l:List Int} {K:Unit→x2→Prop} (hi:aE P e 1 b z)
  (h:am k E w g v l) (ac:i<l.length) (U:∀ w',af (fun r=>r=g) w w'→w'.heap.size=w.heap.size→am k E w' g v (l.set i x)→K () w'):aA P (o7 e (.pointer (some ⟨g,i,none⟩)) (.int k x)) w K:=by
 obtain⟨ad,⟨_,ae⟩|⟨cap,full,rfl,V,W,X,J,O⟩⟩:=h
 ·omega
 ·have Y:i<full.length:=by simp at J;omega
  refine aZ hi rfl rfl V Y fun w' Z aa ab=>U w' Z aa ⟨by simp,.inr ⟨cap,full.set i (.int k x),by simp,ab,by simpa using W,X,by simpa using J,?_⟩⟩;simp only[X4,W9] at O ⊢;rw[List.take_set,O,ints,ints,List.map_set]
theorem uT {t:u5} {b o:Nat} {v:x1} (E:jC P t=true) (h:w.cell? ⟨b,o,none⟩=some v):bL P (x7 t (.pointer (some ⟨b,o,none⟩))) v w:=fun w' J=>by
 have h':=kh J h;unfold jC at E;cases hu:P.underlying t with
 |none=>rw[hu] at E;cases E
 |some d=>
  rw[hu] at E;cases d <;> first|(cases E;done)|simp[x7,Instr.sureAddr,loadVar,isAgg,run_underlying hu,h']
theorem hg {k:r9} {S:an} {w':x2} {v:x1} {l:List Int} (h:aC k w v l) (J:af S w w') (U:∀ r,S r→ ∀ a n c,v= .slice (some a) n c→a.block≠r):aC k w' v l:=by
 obtain⟨h1,b,o,base,cap,rfl,V,W,E,X⟩:=h;refine⟨h1,b,o,base,cap,rfl,V,W,E,?_⟩;rcases Nat.eq_zero_or_pos l.length with O|O
 ·intro j u hu;have:=(x3.1 hu).1;simp at this;omega
 ·have Y:=E O;subst Y;exact oa J (fun h=>U _ h _ _ _ rfl rfl) X
end
end Go.Vc
