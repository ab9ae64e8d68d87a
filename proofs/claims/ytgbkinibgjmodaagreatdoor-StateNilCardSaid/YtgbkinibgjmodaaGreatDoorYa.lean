/- own texts, made small by a tool (wip/ holds them as they were written): no statement of the seat. -/
import Derived.RangeFuncNested
import Derived.RangeFuncLeaves
import Derived.OrdersIn
import Derived.KernelRfl
import Derived.Deep.Upon
import Derived.RangeFuncBound
import Derived.Deep.MidRow
import Derived.Laws.Cover3
import Derived.Laws.Pointers
import Derived.Laws.StructEq
import Derived.Laws.Tables
import Derived.Below
import Derived.Laws.MakeOwn
import Derived.Lib.Overlaps
import Derived.Lib.AppendZerosOnto
import Derived.Lib.SliceRun
import Derived.OpenShut
import Derived.Lib.ConvBytes
import Derived.Laws.BytesArg
import Derived.Laws.Concat
import Derived.MapKept
import Derived.Carry
import Derived.WideKeyArr
import Derived.WideKeyMaps
import Derived.Laws.IdiomRangeMap
import Derived.Shelf.SlSortCmp.NoneTotal
import Derived.Shelf.SlSortCmp.WholeK
import Derived.Ground.SlsfProg
import Derived.WideKeyEntry
import Derived.WalkKit
import Derived.Test.YtgbkinibgjmodaaGreatDoorProg
import Derived.Test.YtgbkinibgjmodaaGreatDoorChecked
set_option linter.unusedVariables false
set_option linter.unusedSimpArgs false
set_option linter.unnecessarySimpa false
open Array renaming getElem?_eq_some_iff→l6,getElem?_toList→U8
open BitVec renaming ofInt→W9
open Bool renaming not_true→Y7,not_false→Y8,eq_iff_iff→W5,and_eq_true→V7,or_eq_false_iff→U4
open Decidable renaming not_not→X4
open Go renaming Value→x4,World→x5,Builtin→u7,TypeId→o6,IntKind→o8,Program→X5,Oper→U9
open Go.Addr renaming add_mid→U5
open Go.Builtin renaming len_→u6,append_→r8,min_→T1
open Go.Instr renaming loadAt→x1,fieldAt→x2,storeAt→x6,indexAt→x7,extract→x8,buildSlice→u9,alloc→n0,sliceAt→j4,build→Z3,box→Z5,index→Y2,lookup→V3,makeSlice→U7
open Go.IntKind renaming i64→X3,u64→V2
open Go.Op renaming unary→Z4
open Go.Proofs.Tryz renaming prog→y0
open Go.Result renaming andThen→Y6
open Go.Sem renaming run_bind→Y4,run_pure→X0
open Go.Sort renaming Holds→U3
open Go.Value renaming int→X7
open Int renaming toNat_natCast→c7
open List renaming getElem?_eq_getElem→x3,getElem?_eq_some_iff→u4,mem_of_getElem?→u5,getElem?_map→r9,getD_eq_getElem?_getD→p8,replicate→p9,length_map→o3,take_add_one→o4,length_append→o5,mem_singleton→o9,mem_append→n9,take_length→l5,length_take→l7,mem_map→l9,map_append→j0,eq_nil_of_length_eq_zero→j5,length_cons→j9,take_of_length_le→Z1,getElem?_eq_none→Z7,getElem?_take_of_lt→Z8,getElem?_append_left→Y0,getElem?_append_right→Y3,mem_iff_getElem?→X1,drop_eq_getElem_cons→X2,getElem?_set→X8,flatMap_cons→X9,ext_getElem?→W0,range→W3,pairwise_iff_getElem→W8,append_assoc→V0,length→V4,length_eq_one_iff→V6,mem_or_eq_of_mem_set→V9,length_set→U1,append_nil→U2,mem_cons→U6,set_append_right→T2,length_singleton→T3
open Nat renaming le_refl→o7,zero_le→Y1,le_trans→Y5,mul_le_mul_right→X6,sub_self→W7,add_mul→V1,zero_add→V5,mul_one→T0
open Option renaming some→j6,toList_some→c8,isNone_some→c9,map_some→Z0,map_eq_some_iff→Z6,isNone_none→Y9,map→W6,getD_some→T4
open Option.some renaming inj→Z2,injEq→Z9
open Prod.mk renaming injEq→V8
namespace Go.Vc
open Go Go.RowKit
def fx:Obj→Bool
 | .loop _=>false
 | .deferred _=>false
 | .mapIter ..=>false
 |_=>true
def book:Obj→Bool
 | .loop _=>true
 | .deferred _=>true
 |_=>false
theorem zI {o:Obj} (h:book o=true):fx o=false:=by cases o <;> first|rfl|cases h
def sj:Obj→Bool
 | .mapIter ..=>true
 |_=>false
theorem zJ {o:Obj} (h:sj o=true):fx o=false:=by cases o <;> first|rfl|cases h
structure Ext (w w':x5):Prop where
 size:w.heap.size≤w'.heap.size
 bz:∀ (r:Nat) (o:Obj),w.heap[r]? =some o→fx o=true→w'.heap[r]? =some o
theorem Ext.refl (w:x5):Ext w w:=⟨o7 _,fun _ _ h _=>h⟩
theorem Ext.trans {a b c:x5} (h:Ext a b) (k:Ext b c):Ext a c:=
 ⟨Y5 h.size k.size,fun r o I E=>k.bz r o (h.bz r o I E) E⟩
def iq (w w':x5):Prop:=w'.tape=w.tape∧w.drawn≤w'.drawn
theorem iq.ir {w w':x5} (h:w'.tape=w.tape:=by rfl) (k:w'.drawn=w.drawn:=by rfl):iq w w':=⟨h,Nat.le_of_eq k.symm⟩
theorem iq.trans {a b c:x5} (k:iq b c) (h:iq a b):iq a c:=⟨k.1.trans h.1,Y5 h.2 k.2⟩
structure cO (w w':x5):Prop where
 os:w'.os=w.os
 tape:iq w w'
 output:w'.output=w.output
 size:w.heap.size≤w'.heap.size
 bz:∀ (r:Nat) (o:Obj),w.heap[r]? =some o→fx o=false→w'.heap[r]? =some o
structure cm (n:Nat) (w w':x5):Prop where
 os:w'.os=w.os
 tape:iq w w'
 output:w'.output=w.output
 size:w.heap.size≤w'.heap.size
 bz:∀ (r:Nat) (o:Obj),w.heap[r]? =some o→book o=true→w'.heap[r]? =some o
 old:∀ (r:Nat) (o:Obj),r<n→w.heap[r]? =some o→fx o=false→w'.heap[r]? =some o
theorem cO.b {w w':x5} {n:Nat} (h:cO w w'):cm n w w':=⟨h.os,h.tape,h.output,h.size,fun r o E I=>h.bz r o E (zI I),fun r o _ E I=>h.bz r o E I⟩
theorem cm.refl (n:Nat) (w:x5):cm n w w:=⟨rfl,.ir,rfl,o7 _,fun _ _ h _=>h,fun _ _ _ h _=>h⟩
theorem cm.trans {n:Nat} {a b c:x5} (h:cm n a b) (k:cm n b c):cm n a c:=
 ⟨k.os.trans h.os,k.tape.trans h.tape,k.output.trans h.output,Y5 h.size k.size,fun r o I E=>k.bz r o (h.bz r o I E) E,fun r o J I E=>k.old r o J (h.old r o J I E) E⟩
theorem cm.step {n m:Nat} {a b c:x5} (h:cm n a b) (k:cm m b c) (hm:a.heap.size≤m):cm n a c:=
 ⟨k.os.trans h.os,k.tape.trans h.tape,k.output.trans h.output,Y5 h.size k.size,fun r o I E=>k.bz r o (h.bz r o I E) E,
  fun r o J I E=>k.old r o (Nat.lt_of_lt_of_le (l6.1 I).1 hm) (h.old r o J I E) E⟩
theorem cm.da {n:Nat} {w w':x5} (h:cm n w w') (I:w.heap.size≤n):cO w w':=
 ⟨h.os,h.tape,h.output,h.size,fun r o E J=>h.old r o (Nat.lt_of_lt_of_le (l6.1 E).1 I) E J⟩
def eJ (w w':x5):Prop:=∀ (r:Nat) (o:Obj),w.heap[r]? =some o→sj o=true→w'.heap[r]? =some o
theorem eJ.refl (w:x5):eJ w w:=fun _ _ h _=>h
theorem eJ.trans {a b c:x5} (h:eJ a b) (k:eJ b c):eJ a c:=fun r o I E=>k r o (h r o I E) E
theorem cO.kS {w w':x5} (h:cO w w'):eJ w w':=fun r o E I=>h.bz r o E (zJ I)
abbrev ew:=Bool×Nat
theorem cO.refl (w:x5):cO w w:=⟨rfl,.ir,rfl,o7 _,fun _ _ h _=>h⟩
theorem cO.trans {a b c:x5} (h:cO a b) (k:cO b c):cO a c:=
 ⟨k.os.trans h.os,k.tape.trans h.tape,k.output.trans h.output,Y5 h.size k.size,fun r o I E=>k.bz r o (h.bz r o I E) E⟩
theorem qq (w:x5) (n:Nat):Ext w {w with drawn:=n}:=⟨o7 _,fun _ _ h _=>h⟩
theorem nz (w:x5) (n:Nat) (h:w.drawn≤n):cO w {w with drawn:=n}:=⟨rfl,⟨rfl,h⟩,rfl,o7 _,fun _ _ h _=>h⟩
theorem nA (w:x5) (o:Obj):Ext w {w with heap:=w.heap.push o}:=
 ⟨by simp,fun r o' h _=>by
  have E:=(l6.1 h).1;simp only[Array.getElem?_push];rw[if_neg (by omega)];exact h⟩
theorem nB (w:x5) (o:Obj):cO w {w with heap:=w.heap.push o}:=
 ⟨rfl,.ir,rfl,by simp,fun r o' h _=>by
  have E:=(l6.1 h).1;simp only[Array.getElem?_push];rw[if_neg (by omega)];exact h⟩
inductive ee where
 |v (x:x4)
 |b (c:Bool)
 |u
def ee.val:ee→x4
 | .v x=>x
 | .b c=>.bool c
 | .u=>undef
def ee.ofConst:x4→ee
 | .bool c=>.b c
 |x=>.v x
theorem ee.zK (x:x4):(ee.ofConst x).val=x:=by cases x <;> rfl
abbrev Env:=List (Nat×ee)
def look:Env→Nat→Option ee
 |[],_=>none
 |(s,x)::r,t=>bif Nat.beq s t then some x else look r t
def dM (e:Env):Operand→Option ee
 | .tmp t=>look e t
 | .const x=>some (ee.ofConst x)
 | .global g=>some (.v (.pointer (some ⟨g,0,none⟩)))
 | .func f=>some (.v (.func (.func f) #[] #[]))
def cq (e:Env) (x:Operand):x4:=
 match dM e x with
 |some y=>y.val
 |none=>undef
def known (e:Env):List Operand→Bool
 |[]=>true
 |x::r=>(dM e x).isSome&&known e r
def U3 (N:Nat) (e:Env) (a:Act):Prop:=
 a.tmps.size=N∧ ∀ t x,look e t=some x→a.tmps.getD t undef=x.val
theorem U3.dM {N:Nat} {e:Env} {a:Act} (h:U3 N e a) {x:Operand} {y:ee} (E:Vc.dM e x=some y):a.eval x=y.val:=by
 cases x with
 |tmp t=>exact h.2 t y E
 |const v=>simp[Vc.dM] at E;subst E;simp[Act.eval,ee.zK]
 |global g=>simp[Vc.dM] at E;subst E;rfl
 |func f=>simp[Vc.dM] at E;subst E;rfl
theorem U3.eval {N:Nat} {e:Env} {a:Act} (h:U3 N e a) {x:Operand} (I:(Vc.dM e x).isSome=true):a.eval x=cq e x:=by
 obtain⟨y,E⟩:=Option.isSome_iff_exists.1 I;rw[h.dM E];simp[cq,E]
theorem sk {e:Env}:∀ {l:List Operand},known e l=true→ ∀ x∈l,(dM e x).isSome=true
 |[],_,_,E=>by cases E
 |y::r,h,x,E=>by
  simp only[known,V7] at h;cases E with
  |head=>exact h.1
  |tail _ E=>exact sk h.2 x E
def dk (e:Env) (d:Option Tmp) (x:ee):Env:=
 match d with
 |some t=>(t,x)::e
 |none=>e
def hg (N:Nat) (d:Option Tmp):Bool:=
 match d with
 |some t=>Nat.blt t N
 |none=>true
theorem U3.put {N:Nat} {e:Env} {a:Act} (h:U3 N e a) {d:Option Tmp} (O:hg N d=true) {x:ee} {v:x4} (U:x.val=v):
  U3 N (dk e d x) (a.put d v):=by
 cases d with
 |none=>exact h
 |some t=>
  have V:t<N:=by simpa[hg,Nat.blt_eq] using O
  refine⟨by simp[Act.put,h.1],fun s y E=>?_⟩;simp only[dk,look] at E;cases I:Nat.beq t s with
  |true=>
   have J:t=s:=Nat.eq_of_beq_eq_true I;subst J;simp only[I,cond_true,Z9] at E;subst E;simp[Act.put,h.1,V,U]
  |false=>
   have J:t≠s:=Nat.ne_of_beq_eq_false I;simp only[I,cond_false] at E;have:=h.2 s y E;simp only[Act.put,Array.getD_eq_getD_getElem?] at this ⊢;rw[Array.getElem?_setIfInBounds_ne J];exact this
def dC (r:Option Nat):Fence:={Fence.wide with round:=r}
theorem sm (r:Option Nat) (n:Nat):(dC r).depth.isSome=true→1≤n:=fun h=>by simp[dC,Fence.wide] at h
theorem uI {r:Option Nat} {n:Nat} {P:X5} {f:FuncId} {args:Array x4} {w:x5} {R:Ending→x5→Prop}
  (h:Calls P f args w R):CallsIn (dC r) n P f args w R:=by
 have:=(callsIn_wide (n:=n)).2 h;exact this
section
variable (P:X5)
def aa {α:Type} (s:Sem α) (w:x5) (K:α→x5→Prop):Prop:=∃ v w',s.run P w= .ok v w'∧cO w w'∧K v w'
def nC {α:Type} (free:ew) (s:Sem α) (w:x5) (K:α→x5→Prop):Prop:=∃ v w',s.run P w= .ok v w'∧(free.1=false→cm free.2 w w')∧K v w'
def Split (x:x4) (A B:Prop):Prop:=∃ c,x= .bool c∧(c=true→A)∧(c=false→B)
def aO:Bool→Operand
 |true=>.const (.bool true)
 |false=>.tmp 0
def qs:Operand→Bool
 | .const _=>true
 |_=>false
theorem zL (op:BinOp) (t:o6) (x y:Operand) (a b:x4):eqGuard op t x y a b=eqGuard op t (aO (qs x)) (aO (qs y)) a b:=by
 cases x <;> cases y <;> rfl
def U (op:BinOp) (t:o6) (cx cy:Bool) (a b:x4):Sem x4:=do eqGuard op t (aO cx) (aO cy) a b;binOp op t a b
def qt (s:Sem Next):Sem x4:=do
 match ←s with
 | .value v=>pure v
 |_=>stuck "no value"
def aj (x:x4):Sem x4:=qt (execOp (fun _=>x) {dst:=none,op:=.nilCheck (.tmp 0),type:=0,pos:= "",after:=#[],guard:=none})
def b2 (E:Operand→x4):List Operand→List x4
 |[]=>[]
 |x::r=>E x::b2 E r
theorem qu (E:Operand→x4):∀ l,b2 E l=l.map E
 |[]=>rfl
 |x::r=>by simp[b2,qu E r]
theorem sn (E:Operand→x4) (l:Array Operand):(b2 E l.toList).toArray=l.map E:=by
 apply Array.toList_inj.1;simp[qu]
def partsOf (E:Operand→x4):List (Nat×Operand)→List (Nat×x4)
 |[]=>[]
 |x::r=>(x.1,E x.2)::partsOf E r
theorem uJ (E:Operand→x4):∀ l,partsOf E l=l.map fun(i,x)=>(i,E x)
 |[]=>rfl
 |x::r=>by simp[partsOf,uJ E r]
theorem zM (E:Operand→x4) (l:Array (Nat×Operand)):(partsOf E l.toList).toArray=l.map fun(i,x)=>(i,E x):=by
 apply Array.toList_inj.1;simp[uJ]
def opsOf:Op→List Operand
 | .alloc _| .ready _| .waits _=>[]
 | .move x| .assign x| .box _ x| .load _ x| .nilCheck x| .unOp _ _ x| .convert _ _ x| .sliceToArrayPointer _ x| .makeInterface _ x
 | .makeChan _ x| .fieldAddr _ x _| .field _ x _| .range _ x| .next x _| .entry x| .typeAssert x _ _ _| .extract x _| .panic x| .recv _ x _=>[x]
 | .pick c a b=>[c,a,b]
 | .build _ E| .buildSlice _ _ E=>E.toList.map (·.2)
 | .store _ a v| .binOp _ _ a v _| .makeSlice _ a v| .indexAddr _ a v| .index _ a v| .lookup _ a v _| .mapEntry _ a v| .send a v=>[a,v]
 | .makeFunc _ first I=>first.toList++I.toList
 | .makeMap _ r=>match r with
  |some x=>[x]
  |none=>[]
 | .slice _ x l h m=>x::((match l with
  |some y=>[y]
  |none=>[])++((match h with
  |some y=>[y]
  |none=>[])++(match m with
  |some y=>[y]
  |none=>[])))
 | .mapUpdate _ m k v| .entryStore _ m k v| .insert _ m k v=>[m,k,v]
 | .call c=>match c.callee with
  | .value f=>f::c.args.toList
  | .invoke r _=>r::c.args.toList
  | .builtin _=>c.args.toList
 | .go _| .defer _| .select ..=>[]
theorem zN {op:Op} (h1:∀ c,op≠ .go c) (I:∀ c,op≠ .defer c) (J:∀ cs b,op≠ .select cs b):∀ x∈op.operands,x∈opsOf op:=by
 intro x E;cases op <;> simp only[Op.operands,opsOf] at E ⊢ <;> try (first|(simp at E;done)|(simp at E ⊢;exact E))
 case go c=>exact absurd rfl (h1 c)
 case defer c=>exact absurd rfl (I c)
 case select cs b=>exact absurd rfl (J cs b)
 case makeMap t r=>cases r <;> simp at E ⊢ <;> exact E
 case slice t y l h m=>cases l <;> cases h <;> cases m <;> simpa[or_assoc] using E
 case call c=>cases O:c.callee <;> simpa[Call.operands,O] using E
def nD (E:Operand→x4):Op→Option (Sem x4)
 | .pick c a b=>some (do pure (if ←asBool (E c) then E a else E b))
 | .alloc O=>some (n0 O true (.tuple #[]))
 | .box O x=>some (Z5 O (E x))
 | .build t parts=>some (Z3 t (partsOf E parts.toList).toArray)
 | .buildSlice t len parts=>some (u9 t len (partsOf E parts.toList).toArray)
 | .load t a=>some (x1 t (E a))
 | .nilCheck x=>some (aj (E x))
 | .binOp op I x y _=>some (U op I (qs x) (qs y) (E x) (E y))
 | .unOp op _ x=>some (Z4 op (E x))
 | .convert src dst x=>some (convert src dst (E x))
 | .makeInterface I x=>some (Instr.makeInterface I (E x))
 | .makeFunc fn first V=>some (Instr.makeFunc fn (b2 E first.toList).toArray (b2 E V.toList).toArray)
 | .makeMap t r=>some (Instr.makeMap t (r.map E))
 | .makeSlice t l c=>some (U7 t (E l) (E c))
 | .slice t x lo hi mx=>some (j4 t (E x) (lo.map E) (hi.map E) (mx.map E))
 | .fieldAddr s x f=>some (x2 s (E x) f)
 | .field I x f=>some (Instr.field I (E x) f)
 | .indexAddr t x J=>some (x7 t (E x) (E J))
 | .index I x J=>some (Y2 I (E x) (E J))
 | .lookup I x J ok=>some (V3 I (E x) (E J) ok)
 | .mapEntry t m k=>some (Instr.mapEntry t (E m) (E k))
 | .range I x=>some (Instr.range I (E x))
 | .entry W=>some (Instr.entry (E W))
 | .typeAssert x I X ok=>some (Instr.typeAssert (E x) I X ok)
 | .extract t J=>some (x8 (E t) J)
 |_=>none
def sq (E:Operand→x4):Op→Option (Sem Unit)
 | .store t a x=>some (x6 t (E a) (E x))
 | .mapUpdate t m k x=>some (Instr.mapUpdate t (E m) (E k) (E x))
 | .insert t m k x=>some (Instr.mapUpdate t (E m) (E k) (E x))
 | .entryStore t m s x=>some (Instr.entryStore t (E m) (E s) (E x))
 |_=>none
def lZ (b:u7) (E:Array o6) (I:o6) (args:Array x4):Option (Sem x4):=
 match b with
 | .append=>some (r8 E I args)
 | .cap=>some (u7.cap_ E I args)
 | .clear=>some (u7.clear_ E I args)
 | .copy=>some (u7.copy_ E I args)
 | .delete=>some (u7.delete_ E I args)
 | .len=>some (u6 E I args)
 | .max=>some (u7.max_ E I args)
 | .min=>some (T1 E I args)
 |_=>none
theorem zO {s:Sem Next} {w w':x5} {v:x4} (h:(qt s).run P w= .ok v w'):s.run P w= .ok (.value v) w':=by
 unfold qt at h;rw[Y4] at h;cases E:s.run P w with
 |halt x I=>rw[E] at h;simp[Y6] at h
 |ok x I=>
  rw[E] at h;cases x <;> simp_all [Y6,stuck,X0]
theorem zP (x:x4) (b:Bool) (t:o6):Instr.next x b 0=Instr.next x b t:=rfl
theorem sr {J:Operand→x4} {o:U9} {s:Sem x4} (h:nD J o.op=some s) {w w':x5} {v:x4} (E:s.run P w= .ok v w'):
  (execOp J o).run P w= .ok (.value v) w':=by
 cases I:o.op with
 |nilCheck x=>
  rw[I] at h;cases h;have:=zO P E;unfold execOp at this ⊢;simpa[I] using this
 |pick c x y=>
  rw[I] at h;cases h;unfold execOp;simp only[I,Y4,X0] at E ⊢;cases O:(asBool (J c)).run P w with
  |halt x V=>rw[O] at E;simp[Y6] at E
  |ok x V=>rw[O] at E;simp only[Y6,Result.ok.injEq] at E ⊢;simp[E]
 |binOp op W x y X=>
  rw[I] at h;cases h;unfold execOp;simp only[I];unfold U at E;rw[←zL] at E;simp only[Y4,X0] at E ⊢;rw[E];rfl
 |_=>
  rw[I] at h
  first
   |(cases h;done)
   |(cases h;simp only[sn,zM] at E;unfold execOp;simp only[I,Y4,E,Y6,X0])
   |(cases h;unfold execOp;simp only[I,Y4,E,Y6,X0])
theorem zQ {E:Operand→x4} {o:U9} {s:Sem Unit} (h:sq E o.op=some s) {w w':x5} {v:Unit} (J:s.run P w= .ok v w'):
  (execOp E o).run P w= .ok .skip w':=by
 cases I:o.op with
 |_=>
  rw[I] at h
  first
   |(cases h;done)
   |(cases h;unfold execOp;simp only[I,Y4,J,Y6,X0])
def Enters (f:FuncId):Prop:=∀ args w,(callFunc f args).run P w= .ok (.enter f args) w
inductive O (f:FuncId) (args:List x4) (w:x5) (K:x4→x5→Prop):Prop
 |code (h1:Enters P f) (h2:Calls P f args.toArray w fun e w'=>∃ v,e= .returned v∧cO w w'∧K v w')
 |ext (v:x4) (w':x5) (h1:(callFunc f args.toArray).run P w= .ok (.value v) w') (h2:cO w w') (h3:K v w')
inductive ey (f:FuncId) (args:List x4) (w:x5) (K:x4→x5→Prop):Prop
 |code (h1:Enters P f) (h2:Calls P f args.toArray w fun e w'=>∃ v,e= .returned v∧K v w')
 |ext (v:x4) (w':x5) (h1:(callFunc f args.toArray).run P w= .ok (.value v) w') (h3:K v w')
theorem ey.calls {f:FuncId} {args:List x4} {w:x5} {K:x4→x5→Prop} (h:ey P f args w K) (E:Enters P f):Calls P f args.toArray w fun e w'=>∃ v,e= .returned v∧K v w':=by
 cases h with
 |code _ h=>exact h
 |ext v w' h1=>rw[E] at h1;cases h1
def l0 (l:Nat) (args:List x4) (w:x5) (K:x4→x5→Prop):Prop:=
 YieldAt Fence.wide 0 P l args.toArray w fun e w'=>∃ v,e= .returned v∧K v w'
def hJ (free:Bool) (f:x4) (args:List x4) (w:x5) (K:x4→x5→Prop):Prop:=
 match f with
 | .func (.func g) first cap=>bif free then ey P g (first.toList++args++cap.toList) w K else O P g (first.toList++args++cap.toList) w K
 | .func (.yield l) first _=>free=true∧l0 P l (first.toList++args) w K
 |_=>False
def I (s:Sem x4) (w:x5) (K:x4→Prop):Prop:=∃ v,(∀ w',Ext w w'→s.run P w'= .ok v w')∧K v
def zR:List (Nat×Nat):=[(9,22),(22,22)]
def zS (s d:Nat):Bool:=zR.any fun p=>Nat.beq p.1 s&&Nat.beq p.2 d
def je (o:U9):Bool:=
 match o.op with
 | .convert s d _=>!zS s d
 | .move _| .assign _| .pick .. | .load .. | .nilCheck _| .binOp .. | .unOp .. | .makeInterface .. | .makeFunc .. | .slice .. | .fieldAddr .. | .field ..
 | .indexAddr .. | .index .. | .lookup .. | .extract .. | .build .. | .typeAssert ..=>true
 | .call c=>
  match c.callee with
  | .builtin .len| .builtin .cap| .builtin .min| .builtin .max=>true
  |_=>false
 |_=>false
def ai (s:Sem x4) (v:x4) (w':x5):Prop:=∀ E,Ext w' E→s.run P E= .ok v E
def jf (o:U9) (e:Env) (w:x5) (K:Env→(x5→Prop)→Prop):Prop:=
 bif known e (opsOf o.op) then
  match o.op with
  | .move x| .assign x=>
   match dM e x with
   |some y=>K (dk e o.dst y) (fun _=>True)
   |none=>False
  | .pick c a b=>
   match dM e c with
   |some (.b true)=>(match dM e a with|some y=>K (dk e o.dst y) (fun _=>True)|none=>False)
   |some (.b false)=>(match dM e b with|some y=>K (dk e o.dst y) (fun _=>True)|none=>False)
   |some (.v x)=>Split x (K (dk e o.dst (.v (cq e a))) (fun _=>True)) (K (dk e o.dst (.v (cq e b))) (fun _=>True))
   |some .u=>False
   |none=>False
  | .call c=>
   match c.callee with
   | .builtin b=>
    match lZ b c.argTypes o.type (b2 (cq e) c.args.toList).toArray with
    |some s=>I P s w fun v=>K (dk e o.dst (.v v)) (ai P s v)
    |none=>False
   |_=>False
  |op=>
   match nD (cq e) op with
   |some s=>I P s w fun v=>K (dk e o.dst (.v v)) (ai P s v)
   |none=>False
 else False
def ss (free:ew) (o:U9) (e:Env) (w:x5) (K:Env→x5→Prop):Prop:=
 bif known e (opsOf o.op) then
  match o.op with
  | .call c=>
   match c.callee with
   | .builtin b=>
    match lZ b c.argTypes o.type (b2 (cq e) c.args.toList).toArray with
    |some s=>aa P s w fun v w'=>K (dk e o.dst (.v v)) w'
    |none=>False
   | .value (.func f)=>
    bif free.1 then ey P f (b2 (cq e) c.args.toList) w fun v w'=>K (dk e o.dst (.v v)) w'
    else O P f (b2 (cq e) c.args.toList) w fun v w'=>K (dk e o.dst (.v v)) w'
   | .value x=>hJ P free.1 (cq e x) (b2 (cq e) c.args.toList) w fun v w'=>K (dk e o.dst (.v v)) w'
   | .invoke _ _=>False
  | .next x str=>nC P free (Instr.next (cq e x) str 0) w fun v w'=>K (dk e o.dst (.v v)) w'
  |op=>
   match nD (cq e) op with
   |some s=>aa P s w fun v w'=>K (dk e o.dst (.v v)) w'
   |none=>
    match sq (cq e) op with
    |some s=>aa P s w fun _ w'=>K (dk e o.dst (.v undef)) w'
    |none=>False
 else False
def l1 (free:ew) (o:U9) (e:Env) (w:x5) (K:Env→x5→Prop):Prop:=
 bif je o then jf P o e w (fun E _=>K E w) else ss P free o e w K
theorem Enters.of {f:FuncId} {fn:Func} {c:Code} (E:P.funcs[f]? =some fn) (I:fn.body=some c) (J:(fn.name == "runtime.NumGoroutine")=false):Enters P f:=by
 intro args w;have O:fn.name≠ "runtime.NumGoroutine":=by simpa using J
 unfold callFunc;simp[Y4,program,Sem.run,Y6,E,O,I,X0]
variable {P}
variable {N:Nat} {r:Option Nat} {o:U9} {e:Env} {a:Act} {w:x5}
theorem hK (I:U3 N e a) (J:known e (opsOf o.op)=true) (E:∀ cs b,o.op≠ .select cs b) (O:∀ c,o.op≠ .go c:=by simp_all) (U:∀ c,o.op≠ .defer c:=by simp_all):
  execOp a.eval o=execOp (cq e) o:=
 execOp_congr o E fun x V=>I.eval (sk J x (zN O U E x V))
theorem nE {next:Act→x5→Prop} {Q:Exit→Act→x5→Prop} (I:U3 N e a) (J:known e (opsOf o.op)=true) (O:∀ cs b,o.op≠ .select cs b)
  (E:∀ c,o.op≠ .defer c) {v:x4} {w':x5} (U:(execOp (cq e) o).run P w= .ok (.value v) w') (h:next (a.put o.dst v) w') (V:∀ c,o.op≠ .go c:=by simp_all):o.wpIn (dC r) 0 P a w next Q:=by
 refine⟨fun _ _=>trivial,?_⟩;rw[U9.semAt_eq _ _ _ E,hK I J O V E,U,U9.uponIn_value];exact h
theorem zT {next:Act→x5→Prop} {Q:Exit→Act→x5→Prop} (I:U3 N e a) (J:known e (opsOf o.op)=true) (O:∀ cs b,o.op≠ .select cs b)
  (E:∀ c,o.op≠ .defer c) {w':x5} (U:(execOp (cq e) o).run P w= .ok .skip w') (h:next (a.put o.dst undef) w') (V:∀ c,o.op≠ .go c:=by simp_all):o.wpIn (dC r) 0 P a w next Q:=by
 refine⟨fun _ _=>trivial,?_⟩;rw[U9.semAt_eq _ _ _ E,hK I J O V E,U,U9.uponIn_skip];exact h
def ek (N:Nat) (free:ew) (K:Env→x5→Prop) (o:U9) (a:Act) (w:x5) (a':Act) (w':x5):Prop:=
 ∃ E v,K E w'∧U3 N E a'∧a'=a.put o.dst v∧(free.1=false→cm free.2 w w')
theorem ek.of {free:ew} {K:Env→x5→Prop} {x:ee} {v:x4} {w':x5} (E:K (dk e o.dst x) w') (I:U3 N e a) (J:hg N o.dst=true) (O:x.val=v)
  (U:free.1=false→cm free.2 w w'):ek N free K o a w (a.put o.dst v) w':=⟨_,v,E,I.put J O,rfl,U⟩
theorem uK {free:ew} {K:Env→x5→Prop} {Q:Exit→Act→x5→Prop} {f:FuncId} {args:Array x4} (I:U3 N e a) (J:hg N o.dst=true)
  (h:Calls P f args w fun E w'=>∃ v,E= .returned v∧(free.1=false→cm free.2 w w')∧K (dk e o.dst (.v v)) w'):
  o.uponIn (dC r) 0 P a (ek N free K o a w) Q (.ok (.enter f args) w):=by
 rw[U9.uponIn_enter];refine⟨sm _ _,CallsIn.mono (uI h) ?_⟩;rintro E w' ⟨v,rfl,O,U⟩;exact ek.of U I J rfl O
theorem jg {x:Operand} {y:ee} (h:dM e x=some y):cq e x=y.val:=by simp[cq,h]
theorem uL {l:List Operand} {x:Operand} (E:known e l=true) (I:x∈l):∃ y,dM e x=some y:=Option.isSome_iff_exists.1 (sk E x I)
theorem uM {K:Env→(x5→Prop)→Prop} (h:jf P o e w K) (W:U3 N e a) (af:hg N o.dst=true):
  ∃ v,∃ st:x5→Prop,(∀ w',Ext w w'→(execOp a.eval o).run P w'= .ok (.value v) w')∧(∃ X,K X st∧U3 N X (a.put o.dst v))∧(∀ c,o.op≠ .defer c)∧
   (∀ w',st w'→ ∀ I,Ext w' I→(execOp a.eval o).run P I= .ok (.value v) I):=by
 unfold jf at h;cases V:known e (opsOf o.op) with
 |false=>rw[V] at h;exact h.elim
 |true=>
  rw[V] at h;simp only[cond_true] at h;have put:∀ {x:ee} {v:x4} {st:x5→Prop},K (dk e o.dst x) st→x.val=v→ ∃ X,K X st∧U3 N X (a.put o.dst v):=fun h1 Y=>⟨_,h1,W.put af Y⟩;cases E:o.op with
  |move x=>
   rw[E] at h;simp only at h;cases O:dM e x with
   |none=>rw[O] at h;exact h.elim
   |some y=>
    rw[O] at h;have all:∀ w':x5,(execOp a.eval o).run P w'= .ok (.value y.val) w':=fun w'=>by
     rw[hK W V (by simp[E])];unfold execOp;simp only[E,X0,jg O]
    exact⟨y.val,_,fun w' _=>all w',put h rfl,by simp,fun _ _ I _=>all I⟩
  |assign x=>
   rw[E] at h;simp only at h;cases O:dM e x with
   |none=>rw[O] at h;exact h.elim
   |some y=>
    rw[O] at h;have all:∀ w':x5,(execOp a.eval o).run P w'= .ok (.value y.val) w':=fun w'=>by
     rw[hK W V (by simp[E])];unfold execOp;simp only[E,X0,jg O]
    exact⟨y.val,_,fun w' _=>all w',put h rfl,by simp,fun _ _ I _=>all I⟩
  |pick c x y=>
   rw[E] at h;simp only at h;have ab:=V;rw[E] at ab;obtain⟨aj,O⟩:=uL ab (x:=x) (by simp[opsOf]);obtain⟨ak,ae⟩:=uL ab (x:=y) (by simp[opsOf]);have Z:∀ (t:Bool) (w':x5),cq e c= .bool t→(execOp a.eval o).run P w'= .ok (.value (if t=true then cq e x else cq e y)) w':=by
    intro t w' ac;rw[hK W V (by simp[E])];unfold execOp;simp[E,ac,asBool,X0]
   cases J:dM e c with
   |none=>rw[J] at h;exact h.elim
   |some ag=>
    rw[J] at h;cases ag with
    |b t=>
     cases t with
     |true=>
      simp only[O] at h;exact⟨_,_,fun w' _=>Z true w' (jg J),put h (by simp[jg O]),by simp,fun _ _ w' _=>Z true w' (jg J)⟩
     |false=>
      simp only[ae] at h;exact⟨_,_,fun w' _=>Z false w' (jg J),put h (by simp[jg ae]),by simp,fun _ _ w' _=>Z false w' (jg J)⟩
    |v z=>
     obtain⟨t,ah,ac,ai⟩:=h;have U:=fun w'=>Z t w' (by rw[jg J];exact ah);cases t with
     |true=>exact⟨_,_,fun w' _=>U w',put (ac rfl) rfl,by simp,fun _ _ w' _=>U w'⟩
     |false=>exact⟨_,_,fun w' _=>U w',put (ai rfl) rfl,by simp,fun _ _ w' _=>U w'⟩
    |u=>exact h.elim
  |call c=>
   rw[E] at h;simp only at h;cases J:c.callee with
   |builtin b=>
    rw[J] at h;simp only at h;rw[sn] at h;cases aa:lZ b c.argTypes o.type (c.args.map (cq e)) with
    |none=>rw[aa] at h;exact h.elim
    |some s=>
     rw[aa] at h;obtain⟨v,U,ad⟩:=h;have all:∀ w':x5,s.run P w'= .ok v w'→(execOp a.eval o).run P w'= .ok (.value v) w':=fun w' U=>by
      rw[hK W V (by simp[E])];unfold execOp;cases b <;> simp only[lZ] at aa <;> first|(cases aa;done)|(cases aa;simp[E,J,resolve,invoke,builtin,U,Y6])
     exact⟨v,_,fun w' hw=>all w' (U w' hw),put ad rfl,by simp,fun w' h1 I Y=>all I (h1 I Y)⟩
   |value x=>rw[J] at h;exact h.elim
   |invoke x m=>rw[J] at h;exact h.elim
  |_=>
   rw[E] at h
   first
    |(simp only[nD] at h;done)
    |(obtain⟨v,U,ad⟩:=h
      refine⟨v,_,fun w' hw=>?_,put ad rfl,by simp,fun w' h1 I Y=>?_⟩
      ·rw[hK W V (by simp[E])];exact sr P (by rw[E];rfl) (U w' hw)
      ·rw[hK W V (by simp[E])];exact sr P (by rw[E];rfl) (h1 I Y))
theorem zU {free:ew} {K:Env→x5→Prop} {Q:Exit→Act→x5→Prop} (h:ss P free o e w K) (I:U3 N e a) (Y:hg N o.dst=true):
  o.wpIn (dC r) 0 P a w (ek N free K o a w) Q:=by
 unfold ss at h;cases W:known e (opsOf o.op) with
 |false=>rw[W] at h;exact h.elim
 |true=>
  rw[W] at h;simp only[cond_true] at h;cases E:o.op with
  |call c=>
   rw[E] at h;simp only at h;cases Z:c.callee with
   |builtin b=>
    rw[Z] at h;simp only at h;rw[sn] at h;cases aa:lZ b c.argTypes o.type (c.args.map (cq e)) with
    |none=>rw[aa] at h;exact h.elim
    |some s=>
     rw[aa] at h;obtain⟨v,w',J,X,V⟩:=h;refine nE I W (by simp[E]) (by simp[E]) (v:=v) (w':=w') ?_ (ek.of V I Y rfl fun _=>X.b);unfold execOp;cases b <;> simp only[lZ] at aa <;> first|(cases aa;done)|(cases aa;simp[E,Z,resolve,invoke,builtin,J,Y6])
   |value x=>
    rw[Z] at h;have step:∀ (d:Deferred) (y:x4),cq e x=y→Deferred.ofValue y (c.args.map (cq e))=pure d→
      (invoke d.target d.args).run P w=(execOp (cq e) o).run P w:=by
     intro d y U aj;unfold execOp;simp only[E,Z,resolve,U,aj,Y4,X0,Y6]
    have ad:∀ (g:FuncId) (first cap:Array x4),cq e x= .func (.func g) first cap→
      (execOp (cq e) o).run P w=(callFunc g (first.toList++b2 (cq e) c.args.toList++cap.toList).toArray).run P w:=by
     intro g first cap U
     rw[←step {target:=.fn (.func g) cap,args:=first++c.args.map (cq e)} _ U rfl];simp only[invoke];have ae:first++c.args.map (cq e)++cap=(first.toList++b2 (cq e) c.args.toList++cap.toList).toArray:=by apply Array.toList_inj.1;simp[qu]
     rw[ae]
    have enter:∀ (g:FuncId) (first cap:Array x4),cq e x= .func (.func g) first cap→Enters P g→
      (execOp (cq e) o).run P w= .ok (.enter g (first.toList++b2 (cq e) c.args.toList++cap.toList).toArray) w:=by
     intro g first cap U ab
     rw[ad g first cap U,ab]
    have go:∀ (g:FuncId) (first cap:Array x4),cq e x= .func (.func g) first cap→
      (bif free.1 then ey P g (first.toList++b2 (cq e) c.args.toList++cap.toList) w fun v w'=>K (dk e o.dst (.v v)) w'
       else O P g (first.toList++b2 (cq e) c.args.toList++cap.toList) w fun v w'=>K (dk e o.dst (.v v)) w')→
      o.wpIn (dC r) 0 P a w (ek N free K o a w) Q:=by
     intro g first cap U h
     obtain⟨ak,aq⟩:=free;cases ak with
     |true=>
      rcases h with⟨ab,af⟩|⟨v,w',J,V⟩
      ·refine⟨fun _ _=>trivial,?_⟩;rw[U9.semAt_eq _ _ _ (by simp[E]),hK I W (by simp[E])];rw[enter g first cap U ab];exact uK I Y (af.mono fun ac w' ⟨v,h1,ag⟩=>⟨v,h1,(fun h=>by cases h),ag⟩)
      ·rw[←ad g first cap U] at J;exact nE I W (by simp[E]) (by simp[E]) J (ek.of V I Y rfl fun h=>by cases h)
     |false=>
      rcases h with⟨ab,af⟩|⟨v,w',J,X,V⟩
      ·refine⟨fun _ _=>trivial,?_⟩;rw[U9.semAt_eq _ _ _ (by simp[E]),hK I W (by simp[E])];rw[enter g first cap U ab];exact uK I Y (af.mono fun ac w' ⟨v,h1,X,ag⟩=>⟨v,h1,fun _=>X.b,ag⟩)
      ·rw[←ad g first cap U] at J;exact nE I W (by simp[E]) (by simp[E]) J (ek.of V I Y rfl fun _=>X.b)
    have ah:hJ P free.1 (cq e x) (b2 (cq e) c.args.toList) w (fun v w'=>K (dk e o.dst (.v v)) w')→
      o.wpIn (dC r) 0 P a w (ek N free K o a w) Q:=by
     intro h;unfold hJ at h;split at h
     ·rename_i g first cap U
      exact go g first cap U h
     ·rename_i l first cap U
      obtain⟨al,fn,tmps,ai,body,am,ao⟩:=h;refine⟨fun _ _=>trivial,?_⟩;rw[U9.semAt_eq _ _ _ (by simp[E]),hK I W (by simp[E])];have:(execOp (cq e) o).run P w= .ok (.round l fn tmps ai body) w:=by
       rw[←step {target:=.fn (.yield l) cap,args:=first++c.args.map (cq e)} _ U rfl,←am];have ae:(first.toList++b2 (cq e) c.args.toList).toArray=first++c.args.map (cq e):=by apply Array.toList_inj.1;simp[qu]
       rw[ae];rfl
      rw[this,U9.uponIn_round];refine⟨sm _ _,?_⟩;have ap:RoundIn (dC r) (0-1) P l fn tmps ai body w fun ac w'=>∃ v,ac= .returned v∧K (dk e o.dst (.v v)) w':=ao;refine RoundIn.mono ap ?_;rintro ac w' ⟨v,rfl,V⟩;exact ek.of V I Y rfl fun h=>by rw[al] at h;cases h
     ·exact h.elim
    cases x with
    |func f=>exact go f #[] #[] rfl (by simpa using h)
    |tmp t=>exact ah h
    |const v=>exact ah h
    |global g=>exact ah h
   |invoke x m=>rw[Z] at h;exact h.elim
  |next x str=>
   rw[E] at h;obtain⟨v,w',J,X,V⟩:=h;refine nE I W (by simp[E]) (by simp[E]) (v:=v) (w':=w') ?_ (ek.of V I Y rfl X);rw[zP _ _ o.type] at J;unfold execOp;simp only[E,Y4,J,Y6,X0]
  |_=>
   rw[E] at h
   first
    |(simp only[nD,sq] at h;done)
    |(obtain⟨v,w',J,X,V⟩:=h
      exact nE I W (by simp[E]) (by simp[E]) (sr P (by rw[E];rfl) J) (ek.of V I Y rfl fun _=>X.b))
    |(obtain⟨v,w',J,X,V⟩:=h
      exact zT I W (by simp[E]) (by simp[E]) (zQ P (by rw[E];rfl) J) (ek.of V I Y rfl fun _=>X.b))
theorem qv {free:ew} {K:Env→x5→Prop} {Q:Exit→Act→x5→Prop} (h:l1 P free o e w K) (I:U3 N e a) (J:hg N o.dst=true):
  o.wpIn (dC r) 0 P a w (ek N free K o a w) Q:=by
 unfold l1 at h;cases O:je o with
 |false=>rw[O] at h;exact zU h I J
 |true=>
  rw[O] at h;have h:jf P o e w (fun E _=>K E w):=h;obtain⟨v,st,U,⟨E,V,W⟩,X,_⟩:=uM h I J;refine⟨fun _ _=>trivial,?_⟩;rw[U9.semAt_eq _ _ _ X,U w (Ext.refl _),U9.uponIn_value];exact⟨E,v,V,W,rfl,fun _=>cm.refl _ _⟩
end
section
variable {P:X5}
def Still {α:Type} (P:X5) (s:Sem α):Prop:=∀ w v E,s.run P w= .ok v E→E=w∧ ∀ w',s.run P w'= .ok v w'
theorem Still.pure {α:Type} (a:α):Still P (Pure.pure a:Sem α):=fun w v E h=>by
 rw[X0] at h;cases h;exact⟨rfl,fun w'=>by rw[X0]⟩
theorem Still.bind {α β:Type} {s:Sem α} {f:α→Sem β} (J:Still P s) (O:∀ a,Still P (f a)):Still P (s >>= f):=fun w v U h=>by
 rw[Y4] at h;cases E:s.run P w with
 |halt x I=>rw[E] at h;simp[Y6] at h
 |ok a I=>
  rw[E] at h;obtain⟨rfl,V⟩:=J w a I E;obtain⟨rfl,W⟩:=O a _ v U h;exact⟨rfl,fun w'=>by rw[Y4,V w'];exact W w'⟩
theorem Still.never {α:Type} {s:Sem α} (h:∀ w v E,s.run P w≠ .ok v E):Still P s:=fun w v E h'=>absurd h' (h w v E)
theorem Still.stuck {α:Type} (m:String):Still P (stuck m:Sem α):=.never fun w v E h=>by simp[Go.stuck] at h
theorem Still.unsupported {α:Type} (m):Still P (unsupported m:Sem α):=.never fun w v E h=>by simp[Go.unsupported] at h
theorem Still.program:Still P program:=fun w v E h=>by cases h;exact⟨rfl,fun _=>rfl⟩
theorem Still.underlying (t:o6):Still P (underlying t):=Still.bind .program fun p=>by
 cases p.underlying t with
 |some d=>exact Still.pure d
 |none=>exact Still.stuck _
theorem Still.typeInfo (t:o6):Still P (typeInfo t):=Still.bind .program fun p=>by
 cases p.info? t with
 |some d=>exact Still.pure d
 |none=>exact Still.stuck _
theorem Still.sizeOf (t:o6):Still P (sizeOf t):=Still.bind (.typeInfo t) fun _=>Still.pure _
theorem Still.boundsPanic {α:Type} (k:o8) (x y:Int) (c:BoundsCode):Still P (boundsPanic k x y c:Sem α):=.never fun w v E h=>by
 have I:∀ (s:Sem Bool) (w:x5) (v:α) (E:x5),(s >>= fun b=>(runtimePanic (.bounds (X3.wrap x) y b c):Sem α)).run P w≠ .ok v E:=by
  intro s w v E h;rw[Y4] at h;cases J:s.run P w with
  |halt x O=>rw[J] at h;simp[Y6] at h
  |ok a O=>rw[J] at h;simp[Y6,Go.runtimePanic,Go.goPanic] at h
 unfold Go.boundsPanic at h;dsimp only at h;split at h
 ·exact I _ _ _ _ h
 ·exact I _ _ _ _ h
theorem Still.asIntOf (v:x4):Still P (asIntOf v):=by
 unfold Go.asIntOf;split
 ·exact Still.pure _
 ·exact Still.unsupported _
 ·exact Still.stuck _
theorem Still.sureAddr (v:x4):Still P (Instr.sureAddr v):=by
 unfold Instr.sureAddr;split
 ·exact Still.pure _
 ·exact Still.stuck _
theorem Still.extract (v:x4) (i:Nat):Still P (x8 v i):=by
 unfold x8;split
 ·split
  ·exact Still.pure _
  ·exact Still.stuck _
 ·exact Still.stuck _
theorem Still.indexAt (t:o6) (x i:x4):Still P (x7 t x i):=by
 have tail:∀ (t:o6) (k:o8) (i:Int) (base:Option Addr) (len:Nat) (E:o6),Still P (do
   let I:=len≤1&&(match ←Go.underlying t with| .array ..=>true|_=>false)
   match base with
   |some a=>
    if 0≤i∧i<len then Pure.pure (x4.pointer (some (a.add (i.toNat*(←Go.sizeOf E)))))
    else if I then Go.unsupported (.noEntry "op/indexAddr.an index out of range at an array of length 0 or 1 (ledger 616)")
    else Go.boundsPanic k i len .index
   |none=>Go.boundsPanic k i 0 .index):=by
  intro t k i base len E;refine .bind (.underlying t) fun d=>?_;cases base with
  |none=>exact Still.boundsPanic _ _ _ _
  |some a=>
   dsimp only;split
   ·exact .bind (.sizeOf E) fun _=>.pure _
   ·split <;> split <;> first|exact Still.unsupported _|exact Still.boundsPanic _ _ _ _
 unfold x7;refine .bind (.asIntOf i) fun J=>?_;refine .bind (.underlying t) fun d=>?_;split
 ·refine .bind (.sureAddr _) fun b=>?_;refine .bind (.pure _) fun y=>?_;exact tail _ _ _ _ _ _
 ·refine .bind (.pure _) fun y=>?_;exact tail _ _ _ _ _ _
 ·refine .bind (.stuck _) fun y=>?_;exact tail _ _ _ _ _ _
end
section
variable (P:X5)
def qw (free:ew) (ops:Array U9) (o:U9) (e:Env) (w:x5) (K:Env→x5→Prop):Prop:=
 match o.guard with
 |none=>l1 P free o e w K
 |some (j,b)=>
  match (ops[j]?).bind (·.dst) with
  |none=>False
  |some s=>
   match look e s with
   |some (.b c)=>bif xor c b then K (dk e o.dst .u) w else l1 P free o e w K
   |some (.v x)=>
    Split x (bif b then l1 P free o ((s,.b true)::e) w K else K (dk ((s,.b true)::e) o.dst .u) w)
     (bif b then K (dk ((s,.b false)::e) o.dst .u) w else l1 P free o ((s,.b false)::e) w K)
   |some .u=>K (dk e o.dst .u) w
   |none=>False
def l2 (free:ew) (ops:Array U9):List U9→Env→x5→(Env→x5→Prop)→Prop
 |[],e,w,K=>K e w
 |o::l,e,w,K=>qw P free ops o e w fun E w'=>l2 free ops l E w' K
def su (ops:Array U9) (o:U9) (e:Env) (w:x5) (K:Env→(x5→Prop)→Prop):Prop:=
 match o.guard with
 |none=>jf P o e w K
 |some (j,b)=>
  match (ops[j]?).bind (·.dst) with
  |none=>False
  |some s=>
   match look e s with
   |some (.b c)=>bif xor c b then K (dk e o.dst .u) (fun _=>True) else jf P o e w K
   |some (.v x)=>
    Split x (bif b then jf P o ((s,.b true)::e) w K else K (dk ((s,.b true)::e) o.dst .u) (fun _=>True))
     (bif b then K (dk ((s,.b false)::e) o.dst .u) (fun _=>True) else jf P o ((s,.b false)::e) w K)
   |some .u=>K (dk e o.dst .u) (fun _=>True)
   |none=>False
def kT (o:U9):Bool:=
 match o.op with
 | .move _| .assign _| .extract .. | .indexAddr ..=>true
 |_=>false
def jW (ops:Array U9):List Nat→Option Nat
 |[]=>none
 |i::r=>match ops[i]? with
  |some o=>bif je o then some i else jW ops r
  |none=>jW ops r
def sw (p:Nat→Prop):List Nat→Prop
 |[]=>True
 |[i]=>p i
 |i::r=>p i∧sw p r
def iu (bs:Array Nat) (j k:Nat):Bool:=!(Nat.beq k j)&&(!((bs.getD j 0).testBit k)&& !((bs.getD k 0).testBit j))
def nF (same:Bool) (q:Nat) (w:x5) (st:x5→Prop) (E:List (x5×List (Nat×(x5→Prop)))):List (x5×List (Nat×(x5→Prop))):=
 match same,E with
 |true,g::r=>(g.1,(q,st)::g.2)::r
 |_,E=>(w,[(q,st)])::E
def nG (bs:Array Nat) (j:Nat):List (Nat×(x5→Prop))→Bool
 |[]=>false
 |x::r=>iu bs j x.1||nG bs j r
def l3 (bs:Array Nat) (j:Nat) (w':x5):List (Nat×(x5→Prop))→Prop
 |[]=>True
 |x::r=>bif iu bs j x.1 then x.2 w'∧l3 bs j w' r else l3 bs j w' r
def kU (bs:Array Nat) (j:Nat) (w':x5) (C:Prop):List (x5×List (Nat×(x5→Prop)))→Prop
 |[]=>C
 |g::r=>bif nG bs j g.2 then (Ext g.1 w'∨l3 bs j w' g.2)∧kU bs j w' C r else kU bs j w' C r
def jX (free:ew) (ops:Array U9) (bs:Array Nat):Nat→Array Bool→Bool→List (x5×List (Nat×(x5→Prop)))→Env→x5→(Env→x5→Prop)→Prop
 |0,E,_,_,e,w,K=>match Region.ready .any ops E with|[]=>K e w|_=>False
 |fuel+1,E,same,I,e,w,K=>
  match Region.ready .any ops E with
  |[]=>K e w
  |i::r=>
   match jW ops (i::r) with
   |some q=>
    bif Region.free .any ops E q then
     match ops[q]? with
     |some o=>su P ops o e w fun J st=>
       bif kT o then jX free ops bs fuel (E.setIfInBounds q true) same I J w K
       else jX free ops bs fuel (E.setIfInBounds q true) true (nF same q w st I) J w K
     |none=>False
    else False
   |none=>
    sw (fun j=>match ops[j]? with
     |some o=>qw P free ops o e w fun J w'=>kU bs j w' (jX free ops bs fuel (E.setIfInBounds j true) false I J w' K) I
     |none=>False) (i::r)
def sx (free:ew) (ops:Array U9) (e:Env) (w:x5) (K:Env→x5→Prop):Prop:=
 bif Region.noSelect ops then jX P free ops (Region.before ops) ops.size (Array.replicate ops.size false) false [] e w K else False
end
section
variable {P:X5} {N:Nat} {r:Option Nat} {free:ew} {ops:Array U9}
theorem zV {e:Env} {a:Act} (I:U3 N e a) {j s:Nat} {c:Bool} (J:(ops[j]?).bind (·.dst)=some s) {x:ee} (O:look e s=some x) (U:x.val= .bool c):
  yielded ops a.tmps j=some c:=by
 have h:=I.2 s x O;rw[U] at h;have V:a.tmps[s]? =some (.bool c):=by
  rw[Array.getD_eq_getD_getElem?] at h;cases E:a.tmps[s]? with
  |none=>rw[E] at h;simp[undef] at h
  |some y=>rw[E] at h;simpa using h
 simp[yielded,J,V]
theorem qx {e:Env} {a:Act} (E:U3 N e a) {o:U9} {j s:Nat} {b c:Bool} (I:o.guard=some (j,b)) (J:(ops[j]?).bind (·.dst)=some s) {x:ee}
  (O:look e s=some x) (U:x.val= .bool c):Region.wanted o (yielded ops a.tmps)= !(xor c b):=by
 simp only[Region.wanted,I,zV E J O U];cases c <;> cases b <;> rfl
theorem uN {e:Env} {a:Act} (I:U3 N e a) {o:U9} {j s:Nat} {b:Bool} (J:o.guard=some (j,b)) (O:(ops[j]?).bind (·.dst)=some s)
  (U:look e s=some .u):Region.wanted o (yielded ops a.tmps)=false:=by
 have h:=I.2 s .u U;have V:yielded ops a.tmps j=none:=by
  rw[Array.getD_eq_getD_getElem?] at h;unfold yielded;rw[O];cases E:a.tmps[s]? with
  |none=>simp[E]
  |some y=>
   rw[E] at h;simp only[T4,ee.val] at h;subst h;simp[E,undef]
 simp[Region.wanted,J,V]
theorem U3.lit {e:Env} {a:Act} (I:U3 N e a) {s:Nat} {x:ee} {c:Bool} (O:look e s=some x) (U:x.val= .bool c):U3 N ((s,.b c)::e) a:=by
 refine⟨I.1,fun t y E=>?_⟩;simp only[look] at E;cases J:Nat.beq s t with
 |true=>
  have:s=t:=Nat.eq_of_beq_eq_true J;subst this;simp only[J,cond_true,Z9] at E;subst E;rw[I.2 s x O,U];rfl
 |false=>simp only[J,cond_false] at E;exact I.2 t y E
theorem uO {o:U9} {e:Env} {a:Act} {w:x5} {K:Env→x5→Prop} {Q:Exit→Act→x5→Prop} (h:qw P free ops o e w K) (E:U3 N e a) (I:hg N o.dst=true):
  (Region.wanted o (yielded ops a.tmps)=true∧o.wpIn (dC r) 0 P a w (ek N free K o a w) Q)∨
  (Region.wanted o (yielded ops a.tmps)=false∧ek N free K o a w (a.put o.dst undef) w):=by
 unfold qw at h;cases J:o.guard with
 |none=>rw[J] at h;exact .inl ⟨by simp[Region.wanted,J],qv h E I⟩
 |some Z=>
  obtain⟨j,b⟩:=Z;rw[J] at h;simp only at h;cases U:(ops[j]?).bind (·.dst) with
  |none=>rw[U] at h;exact h.elim
  |some s=>
   rw[U] at h;simp only at h;cases O:look e s with
   |none=>rw[O] at h;exact h.elim
   |some x=>
    rw[O] at h;cases x with
    |b c=>
     simp only at h;have hw:=qx E J U O (c:=c) rfl;cases Y:xor c b with
     |true=>
      rw[Y] at h hw;exact .inr ⟨hw,ek.of h E I rfl fun _=>cm.refl _ _⟩
     |false=>
      rw[Y] at h hw;exact .inl ⟨hw,qv h E I⟩
    |v y=>
     simp only at h;obtain⟨c,rfl,V,W⟩:=h;have hw:=qx E J U O (c:=c) rfl;have X:=E.lit O (c:=c) rfl;cases c with
     |true=>
      have V:=V rfl;cases b with
      |true=>exact .inl ⟨hw,qv V X I⟩
      |false=>exact .inr ⟨hw,ek.of V X I rfl fun _=>cm.refl _ _⟩
     |false=>
      have W:=W rfl;cases b with
      |true=>exact .inr ⟨hw,ek.of W X I rfl fun _=>cm.refl _ _⟩
      |false=>exact .inl ⟨hw,qv W X I⟩
    |u=>exact .inr ⟨uN E J U O,ek.of h E I rfl fun _=>cm.refl _ _⟩
def e5 (D:List Nat) (a a':Act):Prop:=a'.defers=a.defers∧ ∀ t,t∉D→a'.tmps.getD t undef=a.tmps.getD t undef
theorem e5.refl (D:List Nat) (a:Act):e5 D a a:=⟨rfl,fun _ _=>rfl⟩
theorem e5.trans {D:List Nat} {a b c:Act} (h:e5 D a b) (k:e5 D b c):e5 D a c:=⟨k.1.trans h.1,fun t E=>(k.2 t E).trans (h.2 t E)⟩
theorem e5.put {D:List Nat} (a:Act) {d:Option Tmp} (v:x4) (E:∀ t,d=some t→t∈D):e5 D a (a.put d v):=by
 cases d with
 |none=>exact e5.refl _ _
 |some s=>
  refine⟨rfl,fun t I=>?_⟩;have J:s≠t:=fun h=>I (h▸E s rfl);simp only[Act.put,Array.getD_eq_getD_getElem?];rw[Array.getElem?_setIfInBounds_ne J]
def jY (N:Nat) (free:ew) (K:Env→x5→Prop) (D:List Nat) (a:Act) (w:x5) (a':Act) (w':x5):Prop:=
 ∃ E,K E w'∧U3 N E a'∧e5 D a a'∧(free.1=false→cm free.2 w w')
theorem jY.step {K:Env→x5→Prop} {D:List Nat} {a E a':Act} {w I w':x5} (h:jY N free K D E I a' w') (O:e5 D a E) (U:free.1=false→cm free.2 w I):
  jY N free K D a w a' w':=by
 obtain⟨V,h1,W,X,Y⟩:=h;exact⟨V,h1,W,O.trans X,fun J=>(U J).trans (Y J)⟩
def kV (N:Nat) (l:List U9):Bool:=l.all fun o=>hg N o.dst
theorem zW {K:Env→x5→Prop} {D:List Nat} {Q:Exit→Act→x5→Prop} (Z:∀ o∈ops.toList,∀ t,o.dst=some t→t∈D) (W:kV N ops.toList=true):
  ∀ (l:List U9) (k:Nat) (e:Env) (a:Act) (w:x5),(∀ j,l[j]? =ops[k+j]?)→l2 P free ops l e w K→U3 N e a→
   (∀ a' w',jY N free K D a w a' w'→Q .normal a' w')→wpOpsIn (dC r) 0 P ops Q (List.range' k l.length) a w:=by
 intro l;induction l with
 |nil=>
  intro k e a w _ h I J;exact J a w ⟨e,h,I,e5.refl _ _,fun _=>cm.refl _ _⟩
 |cons o l aa=>
  intro k e a w X h I J;have O:=X 0;simp only[List.getElem?_cons_zero,Nat.add_zero] at O;have Y:o∈ops.toList:=by
   have:=O.symm;rw[←U8] at this;exact u5 this
  have ab:hg N o.dst=true:=by
   simp only[kV,List.all_eq_true] at W;exact W o Y
  have ac:∀ j,l[j]? =ops[k+1+j]?:=fun j=>by
   have:=X (j+1);rw[List.getElem?_cons_succ] at this;rw[this];congr 1;omega
  have next:∀ U E,ek N free (fun ad w'=>l2 P free ops l ad w' K) o a w U E→wpOpsIn (dC r) 0 P ops Q (List.range' (k+1) l.length) U E:=by
   rintro U E ⟨ae,v,af,ag,rfl,ah⟩;refine aa (k+1) ae _ E ac af ag fun a' w' ai=>J a' w' (ai.step (e5.put a v fun t aj=>Z o Y t aj) ah)
  simp only[l2] at h;show wpOpsIn (dC r) 0 P ops Q (k::List.range' (k+1) l.length) a w;unfold wpOpsIn;rw[←O];simp only;rcases uO (r:=r) (Q:=Q) h I ab with⟨hw,V⟩|⟨hw,V⟩
  ·rw[if_pos hw];exact U9.wpIn_mono next V
  ·rw[hw];exact⟨fun _ _=>trivial,next _ _ V⟩
theorem zX {K:Env→x5→Prop} {D:List Nat} {Q:Exit→Act→x5→Prop} {id:Nat} {e:Env} {a:Act} {w:x5} (E:∀ o∈ops.toList,∀ t,o.dst=some t→t∈D)
  (I:kV N ops.toList=true) (h:l2 P free ops ops.toList e w K) (J:U3 N e a) (O:∀ a' w',jY N free K D a w a' w'→Q .normal a' w'):
  (Code.region id ops false).wpIn (dC r) 0 P Q a w:=by
 refine wpIn_region ?_;have:=zW (r:=r) E I ops.toList 0 e a w (fun j=>by simp) h J O;rw[List.range_eq_range'];simpa using this
end
section
variable {P:X5} {N:Nat} {r:Option Nat} {free:ew} {ops:Array U9} {Q:Exit→Act→x5→Prop}
theorem zY (E:Option Nat) (o:U9) (I:∀ cs b,o.op≠ .select cs b) (a:Act) (d:Option Tmp) (v:x4) (h:∀ t,d=some t→t∉o.looksAt ops):
  o.semAt E (a.put d v).eval=o.semAt E a.eval:=by
 have he:=execOp_put o I a d v h;unfold U9.semAt;split
 ·rename_i l c J;have:resolve (a.put d v).eval c o.type=resolve a.eval c o.type:=resolve_congr c o.type fun x O=>Act.eval_put fun t U V=>h t U (by
   subst V;refine List.mem_append_left _ (List.mem_filterMap.2 ⟨.tmp t,?_,rfl⟩);rw[J];simpa[Op.operands] using O)
  rw[this]
 ·exact he
def jZ (o:U9) (w0:x5) (st:x5→Prop) (w':x5):Prop:=kT o=true∨Ext w0 w'∨ ∃ E,st E∧Ext E w'
theorem jZ.ext {o:U9} {w0 w w':x5} {st:x5→Prop} (h:jZ o w0 st w) (k:Ext w w'):jZ o w0 st w':=by
 rcases h with h|h|⟨E,h1,I⟩
 ·exact .inl h
 ·exact .inr (.inl (h.trans k))
 ·exact .inr (.inr ⟨E,h1,I.trans k⟩)
theorem zZ {o:U9} (hm:kT o=true) {I:Operand→x4} {v:x4} {w w':x5} (h:(execOp I o).run P w= .ok (.value v) w):(execOp I o).run P w'= .ok (.value v) w':=by
 unfold kT at hm;split at hm
 ·rename_i x E;unfold execOp at h ⊢;simp only[E,X0,Result.ok.injEq,and_true] at h ⊢;exact h
 ·rename_i x E;unfold execOp at h ⊢;simp only[E,X0,Result.ok.injEq,and_true] at h ⊢;exact h
 ·rename_i x i E;unfold execOp at h ⊢;simp only[E] at h ⊢;exact ((Still.bind (Still.extract _ _) fun _=>Still.pure _) _ _ _ h).2 _
 ·rename_i t x i E;unfold execOp at h ⊢;simp only[E] at h ⊢;exact ((Still.bind (Still.indexAt _ _ _) fun _=>Still.pure _) _ _ _ h).2 _
 ·cases hm
def fT (P:X5) (ops:Array U9) (o:U9) (v:x4) (a:Act) (w0:x5→Prop):Prop:=
 (Region.wanted o (yielded ops a.tmps)=true∧(∀ c,o.op≠ .defer c)∧ ∀ w',w0 w'→(execOp a.eval o).run P w'= .ok (.value v) w')∨
 (Region.wanted o (yielded ops a.tmps)=false∧v=undef)
theorem fT.put {o E:U9} {v:x4} {a:Act} {w0:x5→Prop} (I:fT P ops o v a w0) (J:∀ cs b,o.op≠ .select cs b) (h:∀ t,E.dst=some t→t∉o.looksAt ops) (u:x4):
  fT P ops o v (a.put E.dst u) w0:=by
 unfold fT at*;rw[execOp_put o J a E.dst u h,wanted_put o a E.dst u h];exact I
theorem fT.go {i:Nat} {E:U9} {v:x4} {a:Act} {w0:x5→Prop} {w:x5} (hi:ops[i]? =some E) (I:fT P ops E v a w0) (hw:w0 w) {K:Act→x5→Prop} (h:K (a.put E.dst v) w):
  wpOpIn (dC r) 0 P ops Q i K a w:=by
 unfold wpOpIn;simp only[hi];rcases I with⟨h1,J,O⟩|⟨h1,rfl⟩
 ·rw[if_pos h1];refine⟨fun _ _=>trivial,?_⟩;rw[U9.semAt_eq _ _ _ J,O w hw,U9.uponIn_value];exact h
 ·rw[h1];exact⟨fun _ _=>trivial,h⟩
theorem z1 {j:Nat} {E J:U9} {v:x4} (W:ops[j]? =some J) (X:E.apart ops J=true) (Y:∀ cs b,E.op≠ .select cs b) (Z:∀ cs b,J.op≠ .select cs b)
  (U:∀ c a w,¬Q (.panic c) a w) {K:Act→x5→Prop} {a:Act} {w:x5} {w0:x5→Prop} (I:fT P ops E v a w0) (h:wpOpIn (dC r) 0 P ops Q j K (a.put E.dst v) w):
  wpOpIn (dC r) 0 P ops Q j (fun a' w'=>fT P ops E v a' w0∧K (a'.put E.dst v) w') a w:=by
 obtain⟨h1,O,aa⟩:=U9.apart_spec X;have bz:∀ (a:Act),fT P ops E v a w0→ ∀ u,fT P ops E v (a.put J.dst u) w0:=fun a I u=>I.put Y aa u;have ab:∀ d,fT P ops E v {a with defers:=d::a.defers} w0:=fun d=>I;unfold wpOpIn at*;simp only[W] at*;rw[wanted_put J a E.dst v h1] at h;split
 ·rename_i hw;simp only[hw,if_true] at h;obtain⟨_,h⟩:=h;refine⟨fun _ _=>trivial,?_⟩;rw[zY _ J Z a E.dst v h1] at h;generalize (J.semAt (dC r).round a.eval).run P w=res at*;cases res with
  |ok n w'=>
   cases n <;> simp only[U9.uponIn] at h ⊢
   case value u=>exact⟨bz a I u,by rw[←Act.put_comm a v u O];exact h⟩
   case skip=>exact⟨bz a I _,by rw[←Act.put_comm a v undef O];exact h⟩
   case defer d=>
    refine⟨bz _ (ab d) _,?_⟩;rw[←Act.put_comm _ v undef O,←Act.put_defers];exact h
   case enter f args=>
    refine⟨h.1,CallsIn.mono h.2 fun e V he=>?_⟩;cases e with
    |returned u=>exact⟨bz a I u,by rw[←Act.put_comm a v u O];exact he⟩
    |panicked c=>exact absurd he (U _ _ _)
    |outgrown=>exact he
   case row row args=>exact⟨h.1,RowsIn.mono h.2 fun u V he=>⟨bz a I u,by rw[←Act.put_comm a v u O];exact he⟩⟩
   case round l f tmps ac body=>
    refine⟨h.1,RoundIn.mono h.2 fun e V he=>?_⟩;cases e with
    |returned u=>exact⟨bz a I u,by rw[←Act.put_comm a v u O];exact he⟩
    |panicked c=>exact absurd he (U _ _ _)
    |outgrown=>exact he
  |halt x w'=>
   cases x <;> simp only[U9.uponIn] at h ⊢
   case panic u=>exact absurd h (U _ _ _)
 ·rename_i hw;simp only[hw] at h;exact⟨fun _ _=>trivial,bz a I _,by rw[←Act.put_comm a v undef O];exact h.2⟩
def jh (ops:Array U9) (bs:Array Nat):Bool:=
 (W3 ops.size).all fun j=>(W3 ops.size).all fun k=>!((bs.getD j 0).testBit k)||
  (match ops[j]? with
   |some o=>o.after.any fun e=>Region.binds .any e&&Nat.blt e.on j&&(Nat.beq e.on k||(bs.getD e.on 0).testBit k)
   |none=>false)
def Down (ops:Array U9) (E:Array Bool):Prop:=
 ∀ (x:Nat) (o:U9),ops[x]? =some o→E.getD x false=true→ ∀ e∈o.after,Region.binds .any e=true→E.getD e.on false=true
theorem uP {bs:Array Nat} (I:jh ops bs=true) {j k:Nat} (O:j<ops.size) (U:k<ops.size) (h:(bs.getD j 0).testBit k=true):
  ∃ o,ops[j]? =some o∧ ∃ e∈o.after,Region.binds .any e=true∧e.on<j∧(e.on=k∨(bs.getD e.on 0).testBit k=true):=by
 simp only[jh,List.all_eq_true,List.mem_range] at I;have:=I j O k U;rw[h] at this;simp only[Y7,Bool.false_or] at this;cases J:ops[j]? with
 |none=>rw[J] at this;cases this
 |some o=>
  rw[J] at this;obtain⟨e,he,E⟩:=Array.any_eq_true'.1 this;simp only[V7,Nat.blt_eq,Bool.or_eq_true] at E;exact⟨o,rfl,e,he,E.1.1,E.1.2,E.2.imp (fun h=>Nat.eq_of_beq_eq_true h) id⟩
theorem z6 {bs:Array Nat} {E:Array Bool} (O:jh ops bs=true) (U:Down ops E):∀ (j k:Nat),j<ops.size→k<ops.size→E.getD j false=true→
  (bs.getD j 0).testBit k=true→E.getD k false=true:=by
 intro j;induction j using Nat.strongRecOn with
 |_ j V=>
  intro k W I X h;obtain⟨o,Y,e,he,Z,aa,h⟩:=uP O W I h;have J:=U j o Y X e he Z;rcases h with rfl|h
  ·exact J
  ·exact V e.on aa k (by omega) I J h
theorem uQ {bs:Array Nat} {E:Array Bool} (I:jh ops bs=true) (W:Down ops E) {j k:Nat} (J:k<ops.size) (X:j∈Region.ready .any ops E)
  (h:(bs.getD j 0).testBit k=true):E.getD k false=true:=by
 obtain⟨_,o,O,Y⟩:=mem_ready.1 X;have Z:=(l6.1 O).1;obtain⟨o',U,e,he,aa,ab,h⟩:=uP I Z J h;rw[O] at U;cases U;have V:=Y e he aa;rcases h with rfl|h
 ·exact V
 ·exact z6 I W e.on k (by omega) J V h
theorem Down.set {E:Array Bool} (W:Down ops E) {i:Nat} (X:i∈Region.ready .any ops E):Down ops (E.setIfInBounds i true):=by
 intro x o I J e he O;by_cases U:x=i
 ·subst U;obtain⟨_,o',V,Y⟩:=mem_ready.1 X;rw[I] at V;cases V;exact getD_set_true (Y e he O)
 ·rw[getD_set_ne false (Ne.symm U)] at J;exact getD_set_true (W x o I J e he O)
theorem sy {E:Array Bool} {k:Nat} (h:E.getD k true=false):E.getD k false=false:=by
 rcases Nat.lt_or_ge k E.size with h'|h'
 ·simpa[h'] using h
 ·simp[Array.getElem?_eq_none h'] at h
def j1 (ops:Array U9) (i:Nat):Bool:=match ops[i]? with
 |some o=>je o
 |none=>false
def j2 (bs:Array Nat) (E:List (x5×List (Nat×(x5→Prop)))) (j:Nat) (w':x5):Prop:=∀ g∈E,∀ x∈g.2,iu bs j x.1=true→Ext g.1 w'∨x.2 w'
theorem sz {bs:Array Nat} {j:Nat} {w':x5}:∀ {l:List (Nat×(x5→Prop))},l3 bs j w' l→ ∀ x∈l,iu bs j x.1=true→x.2 w'
 |[],_,_,h,_=>by cases h
 |y::l,h,x,E,hu=>by
  unfold l3 at h;cases I:iu bs j y.1 with
  |true=>
   rw[I] at h;cases E with
   |head=>exact h.1
   |tail _ E=>exact sz h.2 x E hu
  |false=>
   rw[I] at h;cases E with
   |head=>rw[I] at hu;cases hu
   |tail _ E=>exact sz (show l3 bs j w' l from h) x E hu
theorem uR {bs:Array Nat} {j:Nat}:∀ {l:List (Nat×(x5→Prop))},nG bs j l=false→ ∀ x∈l,iu bs j x.1=false
 |[],_,_,h=>by cases h
 |y::l,h,x,E=>by
  simp only[nG,U4] at h;cases E with
  |head=>exact h.1
  |tail _ E=>exact uR h.2 x E
theorem sA {bs:Array Nat} {j:Nat} {w':x5} {C:Prop}:∀ {V:List (x5×List (Nat×(x5→Prop)))},kU bs j w' C V→C∧j2 bs V j w'
 |[],h=>⟨h,fun g W=>by cases W⟩
 |g::r,h=>by
  unfold kU at h;cases hu:nG bs j g.2 with
  |true=>
   rw[hu] at h;obtain⟨h1,O⟩:=sA h.2;refine⟨h1,fun U E x J I=>?_⟩;cases E with
   |head=>exact h.1.imp id fun h=>sz h x J I
   |tail _ E=>exact O U E x J I
  |false=>
   rw[hu] at h;obtain⟨h1,O⟩:=sA (show kU bs j w' C r from h);refine⟨h1,fun U E x J I=>?_⟩;cases E with
   |head=>rw[uR hu x J] at I;cases I
   |tail _ E=>exact O U E x J I
def sB (ops:Array U9) (bs:Array Nat) (E:List (x5×List (Nat×(x5→Prop)))) (j:Nat) (w w':x5):Prop:=(j1 ops j=true→Ext w w')∧(j1 ops j=false→j2 bs E j w')
def gp (r:Option Nat) (P:X5) (ops:Array U9) (bs:Array Nat) (Q:Exit→Act→x5→Prop):Nat→Array Bool→List (x5×List (Nat×(x5→Prop)))→Act→x5→Prop
 |0,E,_,a,w=>Region.ready .any ops E=[]∧Q .normal a w
 |fuel+1,E,I,a,w=>(Region.ready .any ops E=[]→Q .normal a w)∧
  ∀ i∈Region.ready .any ops E,wpOpIn (dC r) 0 P ops Q i (fun a' w'=>sB ops bs I i w w'∧gp r P ops bs Q fuel (E.setIfInBounds i true) I a' w') a w
theorem gp.any {bs:Array Nat}:∀ (fuel:Nat) (E:Array Bool) (I:List (x5×List (Nat×(x5→Prop)))) (a:Act) (w:x5),gp r P ops bs Q fuel E I a w→wpAnyIn (dC r) 0 P .any ops Q fuel E a w
 |0,_,_,_,_,h=>h
 |fuel+1,_,_,_,_,h=>⟨h.1,fun i hi=>wpOpIn_mono (fun a' w' h'=>gp.any fuel _ _ a' w' h'.2) (h.2 i hi)⟩
theorem z7 {bs:Array Nat} {E:Array Bool} (I:jh ops bs=true) (J:Down ops E) {i j:Nat} {V:U9} (hi:ops[i]? =some V)
  (O:i∈Region.ready .any ops E) (U:j∈Region.ready .any ops E) (W:j≠i):iu bs j i=true:=by
 have X:=(l6.1 hi).1;obtain⟨Y,ac,Z,_⟩:=mem_ready.1 U;have aa:=(l6.1 Z).1;have ab:=(mem_ready.1 O).1;simp only[iu,V7,Bool.not_eq_true'];refine⟨?_,?_,?_⟩
 ·cases h:Nat.beq i j with
  |true=>exact absurd (Nat.eq_of_beq_eq_true h).symm W
  |false=>rfl
 ·cases h:(bs.getD j 0).testBit i with
  |true=>have:=uQ I J X U h;rw[sy ab] at this;cases this
  |false=>rfl
 ·cases h:(bs.getD i 0).testBit j with
  |true=>have:=uQ I J aa O h;rw[sy Y] at this;cases this
  |false=>rfl
theorem gp.take {bs:Array Nat} (al:jh ops bs=true) (am:Region.noSelect ops=true) (ao:∀ c a w,¬Q (.panic c) a w) {i:Nat} {I:U9} {v:x4} (hi:ops[i]? =some I) (ap:je I=true)
  {w0:x5} {X ev':List (x5×List (Nat×(x5→Prop)))} (ac:∀ j w',j2 bs ev' j w'→j2 bs X j w') {st:x5→Prop} (aq:kT I=false→ ∀ j w',iu bs j i=true→j2 bs ev' j w'→Ext w0 w'∨st w'):
  ∀ (fuel:Nat) (E:Array Bool) (a:Act) (w:x5),Down ops E→
   (∀ j V,ops[j]? =some V→j≠i→E.getD j true=false→(∀ e∈V.after,Region.binds .any e=true→e.on≠i)→I.apart ops V=true)→
   i∈Region.ready .any ops E→fT P ops I v a (jZ I w0 st)→jZ I w0 st w→
   gp r P ops bs Q fuel (E.setIfInBounds i true) ev' (a.put I.dst v) w→gp r P ops bs Q (fuel+1) E X a w:=by
 have ad:=Region.noSelect_spec am;have au:j1 ops i=true:=by simp[j1,hi,ap]
 have fU:∀ (fuel:Nat) (E:Array Bool) (a:Act) (w:x5),gp r P ops bs Q fuel E ev' a w→gp r P ops bs Q fuel E X a w:=by
  intro fuel;induction fuel with
  |zero=>intro E a w h;exact h
  |succ fuel Z=>intro E a w h;exact⟨h.1,fun j O=>wpOpIn_mono (fun a' w' h'=>⟨⟨h'.1.1,fun aa=>ac _ _ (h'.1.2 aa)⟩,Z _ a' w' h'.2⟩) (h.2 j O)⟩
 have ae:∀ w,sB ops bs X i w w:=fun w=>⟨fun _=>Ext.refl _,fun h=>by rw[au] at h;cases h⟩;intro fuel;induction fuel with
 |zero=>
  intro E a w _ _ U Y hw H;refine⟨fun h=>(by rw[h] at U;cases U),fun j O=>?_⟩;by_cases J:j=i
  ·subst J;exact Y.go hi hw ⟨ae w,fU _ _ _ _ H⟩
  ·have:=ready_mono O J;rw[H.1] at this;cases this
 |succ fuel Z=>
  intro E a w af ag U Y hw H;refine⟨fun h=>(by rw[h] at U;cases U),fun j O=>?_⟩;by_cases J:j=i
  ·subst J;exact Y.go hi hw ⟨ae w,fU _ _ _ _ H⟩
  ·have h1:=H.2 j (ready_mono O J);have hu:=z7 al af hi U O J;obtain⟨ah,V,ab,av⟩:=mem_ready.1 O;have aw:∀ e∈V.after,Region.binds .any e=true→e.on≠i:=fun e he ax ay=>by
    have h1:=av e he ax;rw[ay,sy (mem_ready.1 U).1] at h1;cases h1
   have az:=z1 ab (ag j V ab J ah aw) (fun cs b=>ad i I cs b hi) (fun cs b=>ad j V cs b ab) ao Y h1;have aA:∀ k ok,ops[k]? =some ok→k≠i→(E.setIfInBounds j true).getD k true=false→
     (∀ e∈ok.after,Region.binds .any e=true→e.on≠i)→I.apart ops ok=true:=fun k ok aB aC ai aD=>by
    refine ag k ok aB aC ?_ aD;by_cases aj:j=k
    ·subst aj;exact ah
    ·rw[getD_set_ne true aj] at ai;exact ai
   refine wpOpIn_mono (fun a' w' W=>⟨⟨W.2.1.1,fun aa=>ac _ _ (W.2.1.2 aa)⟩,Z (E.setIfInBounds j true) a' w' (af.set O) aA (ready_mono U (Ne.symm J)) W.1 ?_ ?_⟩) az
   ·cases hm:kT I with
    |true=>exact .inl hm
    |false=>
     cases ak:j1 ops j with
     |true=>exact hw.ext (W.2.1.1 ak)
     |false=>exact .inr ((aq hm j w' hu (W.2.1.2 ak)).imp id fun h=>⟨w',h,Ext.refl _⟩)
   ·rw[Array.setIfInBounds_comm _ _ J];exact W.2.2
theorem uS {p:Nat→Prop}:∀ {l:List Nat},sw p l→ ∀ i∈l,p i
 |[],_,_,h=>by cases h
 |[i],h,j,E=>by cases E with
  |head=>exact h
  |tail _ h=>cases h
 |i::k::l,h,j,E=>by
  obtain⟨h1,I⟩:=h;cases E with
  |head=>exact h1
  |tail _ E=>exact uS I j E
theorem sC:∀ {l:List Nat} {q:Nat},jW ops l=some q→q∈l∧ ∃ o,ops[q]? =some o∧je o=true
 |[],q,h=>by cases h
 |i::l,q,h=>by
  simp only[jW] at h;cases E:ops[i]? with
  |none=>rw[E] at h;obtain⟨h1,I⟩:=sC h;exact⟨.tail _ h1,I⟩
  |some o=>
   rw[E] at h;simp only at h;cases J:je o with
   |true=>rw[J] at h;simp only[cond_true,Z9] at h;subst h;exact⟨.head _,o,E,J⟩
   |false=>rw[J] at h;obtain⟨h1,I⟩:=sC h;exact⟨.tail _ h1,I⟩
theorem z8 {o:U9} {e:Env} {a:Act} {w:x5} {K:Env→(x5→Prop)→Prop} (h:su P ops o e w K) (E:U3 N e a) (aa:hg N o.dst=true):
  ∃ v st,fT P ops o v a (jZ o w st)∧ ∃ I,K I st∧U3 N I (a.put o.dst v):=by
 unfold su at h;have V:∀ {e:Env},U3 N e a→jf P o e w K→Region.wanted o (yielded ops a.tmps)=true→ ∃ v st,fT P ops o v a (jZ o w st)∧ ∃ I,K I st∧U3 N I (a.put o.dst v):=fun E h hw=>by
  obtain⟨v,st,h1,ab,ac,ad⟩:=uM h E aa;exact⟨v,st,.inl ⟨hw,ac,fun w' W=>W.elim (fun hm=>zZ hm (h1 w (Ext.refl w))) fun h=>h.elim (h1 w') fun⟨ae,af,ag⟩=>ad ae af w' ag⟩,ab⟩
 have skip:∀ {e:Env},U3 N e a→K (dk e o.dst .u) (fun _=>True)→Region.wanted o (yielded ops a.tmps)=false→ ∃ v st,fT P ops o v a (jZ o w st)∧ ∃ I,K I st∧U3 N I (a.put o.dst v):=fun E h hw=>
  ⟨undef,_,.inr ⟨hw,rfl⟩,_,h,E.put aa rfl⟩
 cases J:o.guard with
 |none=>rw[J] at h;exact V E h (by simp[Region.wanted,J])
 |some ah=>
  obtain⟨j,b⟩:=ah;rw[J] at h;simp only at h;cases U:(ops[j]?).bind (·.dst) with
  |none=>rw[U] at h;exact h.elim
  |some s=>
   rw[U] at h;simp only at h;cases O:look e s with
   |none=>rw[O] at h;exact h.elim
   |some x=>
    rw[O] at h;cases x with
    |b c=>
     simp only at h;have hw:=qx E J U O (c:=c) rfl;cases W:xor c b with
     |true=>rw[W] at h hw;exact skip E h hw
     |false=>rw[W] at h hw;exact V E h hw
    |v y=>
     simp only at h;obtain⟨c,rfl,X,Y⟩:=h;have hw:=qx E J U O (c:=c) rfl;have Z:=E.lit O (c:=c) rfl;cases c with
     |true=>
      have X:=X rfl;cases b with
      |true=>exact V Z X hw
      |false=>exact skip Z X hw
     |false=>
      have Y:=Y rfl;cases b with
      |true=>exact skip Z Y hw
      |false=>exact V Z Y hw
    |u=>exact skip E h (uN E J U O)
theorem sD:∀ {l:List Nat},jW ops l=none→ ∀ j∈l,j1 ops j=false
 |[],_,_,h=>by cases h
 |i::l,h,j,E=>by
  simp only[jW] at h;cases I:ops[i]? with
  |none=>
   rw[I] at h;cases E with
   |head=>simp[j1,I]
   |tail _ E=>exact sD h j E
  |some o=>
   rw[I] at h;simp only at h;cases J:je o with
   |true=>rw[J] at h;cases h
   |false=>
    rw[J] at h;cases E with
    |head=>simp[j1,I,J]
    |tail _ E=>exact sD h j E
theorem Aa {bs:Array Nat} {same:Bool} {q:Nat} {w:x5} {st:x5→Prop} {E:List (x5×List (Nat×(x5→Prop)))} (O:same=true→ ∃ ks r,E=(w,ks)::r):
  (∀ j w',j2 bs (nF same q w st E) j w'→j2 bs E j w')∧(∀ j w',iu bs j q=true→j2 bs (nF same q w st E) j w'→Ext w w'∨st w')∧ ∃ ks r,nF same q w st E=(w,ks)::r:=by
 cases same with
 |true=>
  obtain⟨ks,r,rfl⟩:=O rfl;refine⟨fun j w' h g I x J hu=>?_,fun j w' hu h=>h (w,(q,st)::ks) (.head _) (q,st) (.head _) hu,_,_,rfl⟩;cases I with
  |head=>exact h (w,(q,st)::ks) (.head _) x (.tail _ J) hu
  |tail _ I=>exact h g (.tail _ I) x J hu
 |false=>
  refine⟨fun j w' h g I x J hu=>h g (.tail _ I) x J hu,fun j w' hu h=>h (w,[(q,st)]) (.head _) (q,st) (.head _) hu,_,_,rfl⟩
theorem Ab {K:Env→x5→Prop} {D:List Nat} {bs:Array Nat} (am:jh ops bs=true) (ao:Region.noSelect ops=true) (ap:∀ c a w,¬Q (.panic c) a w)
  (ag:∀ o∈ops.toList,∀ t,o.dst=some t→t∈D) (aq:kV N ops.toList=true):
  ∀ (fuel:Nat) (I:Array Bool) (same:Bool) (J:List (x5×List (Nat×(x5→Prop)))) (e:Env) (a:Act) (w:x5),Down ops I→(same=true→ ∃ ks r,J=(w,ks)::r)→
   jX P free ops bs fuel I same J e w K→U3 N e a→
   (∀ a' w',jY N free K D a w a' w'→Q .normal a' w')→gp r P ops bs Q fuel I J a w:=by
 have ab:∀ {j:Nat} {o:U9},ops[j]? =some o→o∈ops.toList:=fun h=>by
  rw[←U8] at h;exact u5 h
 have ok:∀ {j:Nat} {o:U9},ops[j]? =some o→hg N o.dst=true:=fun h=>by
  simp only[kV,List.all_eq_true] at aq;exact aq _ (ab h)
 intro fuel;induction fuel with
 |zero=>
  intro I same J e a w W ah h Y X;unfold jX at h;cases U:Region.ready .any ops I with
  |nil=>rw[U] at h;exact⟨U,X a w ⟨e,h,Y,e5.refl _ _,fun _=>cm.refl _ _⟩⟩
  |cons i l=>rw[U] at h;exact h.elim
 |succ fuel ai=>
  intro I same J e a w W ah h Y X;unfold jX at h;cases U:Region.ready .any ops I with
  |nil=>
   rw[U] at h;refine⟨fun _=>X a w ⟨e,h,Y,e5.refl _ _,fun _=>cm.refl _ _⟩,fun i hi=>?_⟩;rw[U] at hi;cases hi
  |cons i l=>
   rw[U] at h;simp only at h;cases ac:jW ops (i::l) with
   |some q=>
    rw[ac] at h;simp only at h;obtain⟨az,o,E,au⟩:=sC ac;cases ad:Region.free .any ops I q with
    |false=>rw[ad] at h;exact h.elim
    |true=>
     rw[ad,E] at h;simp only[cond_true] at h;obtain⟨v,st,av,ae,V,aw⟩:=z8 h Y (ok E);have af:q∈Region.ready .any ops I:=by rw[U];exact az
     cases hm:kT o with
     |true=>
      rw[hm] at V;refine gp.take am ao ap E au (w0:=w) (ev':=J) (fun _ _ h=>h) (fun h=>by rw[hm] at h;cases h) fuel I a w W (Region.free_spec E ad) af av (.inr (.inl (Ext.refl _))) ?_;exact ai _ same J ae _ w (W.set af) ah V aw fun a' w' O=>X a' w' (O.step (e5.put a v fun t Z=>ag o (ab E) t Z) fun _=>cm.refl _ _)
     |false=>
      rw[hm] at V;obtain⟨h1,aA,aB⟩:=Aa (bs:=bs) (q:=q) (st:=st) ah;refine gp.take am ao ap E au (w0:=w) (ev':=nF same q w st J) h1 (fun _=>aA) fuel I a w W (Region.free_spec E ad) af av (.inr (.inl (Ext.refl _))) ?_;exact ai _ true _ ae _ w (W.set af) (fun _=>aB) V aw fun a' w' O=>X a' w' (O.step (e5.put a v fun t Z=>ag o (ab E) t Z) fun _=>cm.refl _ _)
   |none=>
    rw[ac] at h;simp only at h;refine⟨(fun ax=>by rw[U] at ax;cases ax),fun j ay=>?_⟩;have aj:=ay;rw[U] at aj;have aC:=sD ac j aj;have O:=uS h j aj;cases E:ops[j]? with
    |none=>rw[E] at O;exact O.elim
    |some o=>
     rw[E] at O;simp only at O;unfold wpOpIn;simp only[E];have next:∀ ak aa,ek N free (fun ae w'=>kU bs j w' (jX P free ops bs fuel (I.setIfInBounds j true) false J ae w' K) J) o a w ak aa→
       sB ops bs J j w aa∧gp r P ops bs Q fuel (I.setIfInBounds j true) J ak aa:=by
      rintro ak aa ⟨aD,v,V,aE,rfl,aF⟩;obtain⟨V,aG⟩:=sA V;exact⟨⟨fun h=>(by rw[aC] at h;cases h),fun _=>aG⟩,
       ai _ false J aD _ aa (W.set ay) (fun h=>by cases h) V aE fun a' w' O=>X a' w' (O.step (e5.put a v fun t Z=>ag o (ab E) t Z) aF)⟩
     rcases uO (r:=r) (Q:=Q) O Y (ok E) with⟨hw,al⟩|⟨hw,al⟩
     ·rw[if_pos hw];exact U9.wpIn_mono next al
     ·rw[hw];exact⟨fun _ _=>trivial,next _ _ al⟩
theorem Ac (hm:P.follows .mixedOrders=true) {K:Env→x5→Prop} {D:List Nat} {id:Nat} {e:Env} {a:Act} {w:x5} (J:jh ops (Region.before ops)=true) (O:∀ c a w,¬Q (.panic c) a w)
  (U:∀ o∈ops.toList,∀ t,o.dst=some t→t∈D) (V:kV N ops.toList=true)
  (h:∀ w',Ext w w'→Ext w' w→cO w w'→sx P free ops e w' K) (W:U3 N e a) (X:∀ a' w',jY N free K D a w a' w'→Q .normal a' w'):
  (Code.region id ops true).wpIn (dC r) 0 P Q a w:=by
 refine wpIn_region_any hm ?_;have h:=h {w with drawn:=w.drawn+1} (qq w _) ⟨o7 _,fun _ _ h _=>h⟩ (nz w _ (Nat.le_succ _));unfold sx at h;cases E:Region.noSelect ops with
 |false=>rw[E] at h;exact h.elim
 |true=>
  rw[E] at h;refine gp.any _ _ _ _ _ (Ab J E O U V ops.size _ false [] e a _ ?_ (fun h=>by cases h) h W fun a' w' Y=>X a' w' (Y.step (e5.refl _ _) fun _=>(nz w _ (Nat.le_succ _)).b));intro x o _ I;rcases Nat.lt_or_ge x ops.size with h'|h'
  ·simp[h'] at I
  ·simp[h'] at I
end
def gM (t:Nat):List Nat→Bool
 |[]=>false
 |s::r=>bif Nat.beq s t then true else gM t r
theorem sE {t:Nat}:∀ {l:List Nat},gM t l=true↔t∈l
 |[]=>by simp[gM]
 |s::r=>by
  simp only[gM];cases h:Nat.beq s t with
  |true=>simp[Nat.eq_of_beq_eq_true h]
  |false=>
   have:=Nat.ne_of_beq_eq_false h;simp[sE (l:=r),Ne.symm this]
def kW:List U9→List Nat
 |[]=>[]
 |o::l=>match o.dst with
  |some d=>d::kW l
  |none=>kW l
def tmpsOf:List Operand→List Nat
 |[]=>[]
 | .tmp t::l=>t::tmpsOf l
 |_::l=>tmpsOf l
def Ad (ops:Array U9) (o:U9):List Nat:=
 match o.guard with
 |some (j,_)=>match (ops[j]?).bind (·.dst) with
  |some s=>[s]
  |none=>[]
 |none=>[]
def qy (D:List Nat):List Nat→List Nat
 |[]=>[]
 |t::r=>bif gM t D then qy D r else t::qy D r
def sF (D:List Nat):List Nat→List Nat
 |[]=>[]
 |t::r=>bif gM t D then t::sF D r else sF D r
def uT (ops:Array U9):List U9→List Nat→List Nat
 |[],_=>[]
 |o::l,D=>qy D (tmpsOf (opsOf o.op)++Ad ops o)++uT ops l (match o.dst with
  |some d=>d::D
  |none=>D)
def cV:Code→List Nat
 | .region _ ops _=>kW ops.toList
 | .seq a b=>cV a++cV b
 | .cond _ a b=>cV a++cV b
 | .block _ c=>cV c
 | .loop c=>cV c
 | .scope c=>cV c
 |_=>[]
def iv (id:Nat):Code→Nat
 | .seq a b=>iv id a+iv id b
 | .cond _ a b=>iv id a+iv id b
 | .block _ c=>iv id c
 | .loop c=>iv id c
 | .scope c=>iv id c
 | .exit i=>bif Nat.beq i id then 1 else 0
 | .rangeFunc _ _ _ b=>iv id b
 |_=>0
def Ae (ops:Array U9):Bool:=
 let bs:=Region.before ops;let E:=fun(i:Nat)=>match ops[i]? with|some o=>!(je o)|none=>false
 (W3 ops.size).any fun j=>E j&&((W3 j).any fun i=>E i&&(!((bs.getD j 0).testBit i)&& !((bs.getD i 0).testBit j)))
def iw:Code→Nat
 | .region _ ops E=>bif (E&&Ae ops)||ops.any (·.guard.isSome) then 2 else 1
 | .seq a b=>bif Nat.beq (iw a) 0 then 0 else iw b
 | .cond _ a b=>iw a+iw b
 | .block id c=>iw c+iv id c
 | .loop _=>0
 | .scope c=>iw c
 | .exit _=>0
 | .goto _=>0
 | .ret=>0
 | .refuse _=>0
 |_=>1
def ji:Code→List Nat
 | .region _ ops _=>kW ops.toList
 | .seq a b=>ji a++ji b
 | .cond _ a b=>bif Nat.beq (iw a) 0 then ji b else bif Nat.beq (iw b) 0 then ji a else sF (ji a) (ji b)
 | .block id c=>bif Nat.beq (iv id c) 0 then ji c else[]
 | .scope c=>ji c
 |_=>[]
def reads:Code→List Nat
 | .region _ ops _=>uT ops ops.toList []
 | .seq a b=>reads a++qy (ji a) (reads b)
 | .cond c a b=>tmpsOf [c]++(reads a++reads b)
 | .block _ c=>reads c
 | .loop c=>reads c
 | .scope c=>reads c
 | .rangeFunc f _ a b=>tmpsOf [f]++(reads a++reads b)
 |_=>[]
def hL:Code→Bool
 | .seq a b=>hL a||hL b
 | .cond _ a b=>hL a||hL b
 | .block _ c=>hL c
 | .loop c=>hL c
 | .scope c=>hL c
 | .rangeFunc ..=>true
 |_=>false
def wf (N:Nat):Code→Bool
 | .region _ ops E=>kV N ops.toList&&(!E||jh ops (Region.before ops))
 | .seq a b=>wf N a&&wf N b
 | .cond _ a b=>wf N a&&wf N b
 | .block _ c=>wf N c
 | .loop c=>wf N c
 | .scope c=>wf N c
 | .rangeFunc _ I a b=>(I.toList.all fun t=>Nat.blt t N)&&(wf N a&&wf N b)
 |_=>true
def kX:Nat→Type→Type
 |0,β=>β
 |n+1,β=>x4→kX n β
def app {β:Type}:(n:Nat)→kX n β→List x4→β
 |0,f,_=>f
 |n+1,f,[]=>app n (f undef) []
 |n+1,f,v::r=>app n (f v) r
def lam {β:Type}:(n:Nat)→(List x4→β)→kX n β
 |0,f=>f []
 |n+1,f=>fun v=>lam n fun r=>f (v::r)
def qz:(n:Nat)→kX n Prop→Prop
 |0,p=>p
 |n+1,p=>∀ v,qz n (p v)
theorem qA {β:Type}:∀ (n:Nat) (f:List x4→β) (vs:List x4),vs.length=n→app n (lam n f) vs=f vs
 |0,f,[],_=>rfl
 |n+1,f,v::r,h=>by
  simp only[app,lam];exact qA n _ r (by simpa using h)
theorem qB:∀ (n:Nat) (p:kX n Prop) (vs:List x4),qz n p→app n p vs
 |0,_,_,h=>h
 |n+1,_,[],h=>qB n _ [] (h undef)
 |n+1,_,v::r,h=>qB n _ r (h v)
def Af (n:Nat) (vs:List x4) (w:x5) (B:List x4→x5→(List x4→x5→Prop)→Prop):Prop:=
 ∃ (E:kX n (x5→Prop)) (I:kX n (x5→Nat)),app n E vs w∧
  qz n (lam n fun us=>∀ w',app n E us w'→B us w' fun J O=>app n E J O∧app n I J O<app n I us w')
def Ag (w:x5) (B:x5→(x5→Prop)→Prop):Prop:=
 ∃ (E:x5→Prop) (I:x5→Nat),E w∧ ∀ w',E w'→B w' fun J=>E J∧I J<I w'
def bd (a:x4) (w:x5) (B:x4→x5→(x4→x5→Prop)→Prop):Prop:=
 ∃ (E:x4→x5→Prop) (I:x4→x5→Nat),E a w∧ ∀ a w',E a w'→B a w' fun a' J=>E a' J∧I a' J<I a w'
def ba (a b:x4) (w:x5) (B:x4→x4→x5→(x4→x4→x5→Prop)→Prop):Prop:=
 ∃ (E:x4→x4→x5→Prop) (I:x4→x4→x5→Nat),E a b w∧ ∀ a b w',E a b w'→B a b w' fun a' J O=>E a' J O∧I a' J O<I a b w'
def jj (a b c:x4) (w:x5) (B:x4→x4→x4→x5→(x4→x4→x4→x5→Prop)→Prop):Prop:=
 ∃ (E:x4→x4→x4→x5→Prop) (I:x4→x4→x4→x5→Nat),E a b c w∧
  ∀ a b c w',E a b c w'→B a b c w' fun a' J O U=>E a' J O U∧I a' J O U<I a b c w'
def l4 (a b c d:x4) (w:x5) (B:x4→x4→x4→x4→x5→(x4→x4→x4→x4→x5→Prop)→Prop):Prop:=
 ∃ (E:x4→x4→x4→x4→x5→Prop) (I:x4→x4→x4→x4→x5→Nat),E a b c d w∧
  ∀ a b c d w',E a b c d w'→B a b c d w' fun a' J O U V=>E a' J O U V∧I a' J O U V<I a b c d w'
def jk (a b c d e:x4) (w:x5) (B:x4→x4→x4→x4→x4→x5→(x4→x4→x4→x4→x4→x5→Prop)→Prop):Prop:=
 ∃ (E:x4→x4→x4→x4→x4→x5→Prop) (I:x4→x4→x4→x4→x4→x5→Nat),E a b c d e w∧ ∀ a b c d e w',E a b c d e w'→B a b c d e w' fun a' J O U V W=>E a' J O U V W∧I a' J O U V W<I a b c d e w'
def aB {α:Type} (E:α) (B:α→Prop):Prop:=B E
def fy (w:x5) (K:x5→Prop):Prop:=∀ w',Ext w w'→Ext w' w→K w'
def Over (w:x5) (K:x5→Prop):Prop:=∀ w',Ext w w'→Ext w' w→eJ w w'→K w'
def aS (w:x5) (K:x5→Prop):Prop:=∀ w',Ext w w'→Ext w' w→cO w w'→K w'
def hM (e:Env):List Nat→Option (List x4)
 |[]=>some []
 |t::r=>match look e t with
  |some x=>match hM e r with
   |some vs=>some (x.val::vs)
   |none=>none
  |none=>none
def gN:List Nat→List x4→Env→Env
 |t::r,v::vs,e=>(t,.v v)::gN r vs e
 |_,_,e=>e
def jl (D:List Nat):Env→Env
 |[]=>[]
 |(t,x)::r=>bif gM t D then jl D r else (t,x)::jl D r
def nH (N:Nat) (D R:List Nat):List Nat:=(W3 N).filter fun t=>gM t D&&gM t R
def nI (N:Nat) (D R:List Nat) (e:Env):List Nat:=(W3 N).filter fun t=>gM t D&&((look e t).isSome&&gM t R)
def hN:Code→Bool
 | .seq a b=>hN a||hN b
 | .cond _ a b=>hN a||hN b
 | .block _ c=>hN c
 | .loop c=>hN c
 | .scope c=>hN c
 | .rangeFunc _ _ a b=>hN a||hN b
 | .ret=>true
 |_=>false
def Ah (i:Nat) (l:List Nat):List Nat:=bif gM i l then l else i::l
def qC:List Nat→List Nat→List Nat
 |[],l=>l
 |i::r,l=>Ah i (qC r l)
def sG (i:Nat):List Nat→List Nat
 |[]=>[]
 |j::r=>bif Nat.beq i j then sG i r else j::sG i r
def ix:Code→List Nat
 | .seq a b=>qC (ix a) (ix b)
 | .cond _ a b=>qC (ix a) (ix b)
 | .block id c=>sG id (ix c)
 | .loop c=>ix c
 | .scope c=>ix c
 | .rangeFunc _ _ a b=>qC (ix a) (ix b)
 | .exit i=>[i]
 |_=>[]
def nJ:List (Nat×(x5→Prop))→Nat→x5→Prop
 |[],_,_=>False
 |(j,k)::r,i,w=>(i=j∧k w)∨nJ r i w
def sH (K:Nat→x5→Prop):List Nat→List (Nat×(x5→Prop))
 |[]=>[]
 |i::r=>(i,fun w=>K i w)::sH K r
theorem uU {K:Nat→x5→Prop}:∀ {l:List Nat} {i:Nat} {w:x5},nJ (sH K l) i w→K i w
 |[],_,_,h=>h.elim
 |j::r,i,w,h=>by
  rcases h with⟨rfl,h⟩|h
  ·exact h
  ·exact uU h
section
variable (P:X5)
def nK {O:Type} (G:Bool) (g:FuncId) (cap:List x4) (Y:O) (Z:O→Prop) (aa:O→List x4→O→x5→Prop) (W:x5→Prop):Prop:=
 Enters P g∧ ∀ (l:Nat) (J U:O→x5→Prop) (w:x5),
  (∀ k E I,Ext E I→cm w.heap.size E I→J k E→J k I)→(∀ k E I,Ext E I→cm w.heap.size E I→U k E→U k I)→
  (∀ k X vs w',W w'→aa k vs X w'→J k w'→l0 P l vs w' fun v V=>(v= .bool true∧W V∧J X V∧(G=true→eJ w' V))∨(v= .bool false∧U k V))→
  W w→J Y w→ey P g (.func (.yield l) #[] #[]::cap) w fun _ w'=>(∃ k,Z k∧J k w')∨ ∃ k,U k w'
def sI (G:Bool) (g:FuncId) (cap:List x4) (n:Nat) (W:Nat→List x4→x5→Prop) (V:x5→Prop):Prop:=
 Enters P g∧ ∀ (l:Nat) (J O:Nat→x5→Prop) (w:x5),
  (∀ k E I,Ext E I→cm w.heap.size E I→J k E→J k I)→(∀ k E I,Ext E I→cm w.heap.size E I→O k E→O k I)→
  (∀ k vs w',k<n→V w'→W k vs w'→J k w'→l0 P l vs w' fun v U=>(v= .bool true∧V U∧J (k+1) U∧(G=true→eJ w' U))∨(v= .bool false∧O k U))→
  V w→J 0 w→ey P g (.func (.yield l) #[] #[]::cap) w fun _ w'=>J n w'∨ ∃ k,k<n∧O k w'
abbrev nL (g:FuncId) (cap:List x4) (n:Nat) (E:Nat→List x4→x5→Prop) (I:x5→Prop):Prop:=sI P false g cap n E I
def Ai (aa:x4) (W:Nat) (w:x5) (B:List x4→x5→(Exit→x5→Prop)→Prop) (ab ac:x5→Prop) (ad:List (Nat×(x5→Prop))):Prop:=
 ∃ (E:Type) (G:Bool) (g:FuncId) (cap:Array x4) (Y:E) (Z:E→Prop) (X:E→List x4→E→x5→Prop) (I:x5→Prop) (J:E→x5→Prop) (O:E→Exit→x5→Prop),
  aa= .func (.func g) #[] cap∧nK P G g cap.toList Y Z X I∧(∀ k vs U w,X k vs U w→vs.length=W)∧
  (∀ w w',Ext w w'→I w→I w')∧(∀ k w w',Ext w w'→J k w→J k w')∧(∀ k ex w w',Ext w w'→O k ex w→O k ex w')∧
  I w∧J Y w∧
  qz W (lam W fun vs=>∀ k U w',I w'→X k vs U w'→J k w'→B vs w' fun ex V=>match ex with
   | .normal=>I V∧J U V∧(G=true→eJ w' V)
   |ex=>O k ex V)∧
  (∀ k w',Z k→J k w'→ab w')∧(∀ k w',O k .ret w'→ac w')∧(∀ k i w',O k (.exit i) w'→nJ ad i w')
def sJ (Z:x4) (w:x5) (B:x4→x5→(Exit→x5→Prop)→Prop) (aa ab:x5→Prop) (ac:List (Nat×(x5→Prop))):Prop:=
 ∃ (E:Type) (G:Bool) (g:FuncId) (cap:Array x4) (X:E) (Y:E→Prop) (W:E→List x4→E→x5→Prop) (I:x5→Prop) (J:E→x5→Prop) (O:E→Exit→x5→Prop),
  Z= .func (.func g) #[] cap∧nK P G g cap.toList X Y W I∧(∀ k vs U w,W k vs U w→vs.length=1)∧
  (∀ w w',Ext w w'→I w→I w')∧(∀ k w w',Ext w w'→J k w→J k w')∧(∀ k ex w w',Ext w w'→O k ex w→O k ex w')∧
  I w∧J X w∧
  (∀ a,∀ k U w',I w'→W k [a] U w'→J k w'→B a w' fun ex V=>match ex with
   | .normal=>I V∧J U V∧(G=true→eJ w' V)
   |ex=>O k ex V)∧
  (∀ k w',Y k→J k w'→aa w')∧(∀ k w',O k .ret w'→ab w')∧(∀ k i w',O k (.exit i) w'→nJ ac i w')
def qD (Z:x4) (w:x5) (B:x4→x4→x5→(Exit→x5→Prop)→Prop) (aa ab:x5→Prop) (ac:List (Nat×(x5→Prop))):Prop:=
 ∃ (E:Type) (G:Bool) (g:FuncId) (cap:Array x4) (X:E) (Y:E→Prop) (W:E→List x4→E→x5→Prop) (I:x5→Prop) (J:E→x5→Prop) (O:E→Exit→x5→Prop),
  Z= .func (.func g) #[] cap∧nK P G g cap.toList X Y W I∧(∀ k vs U w,W k vs U w→vs.length=2)∧
  (∀ w w',Ext w w'→I w→I w')∧(∀ k w w',Ext w w'→J k w→J k w')∧(∀ k ex w w',Ext w w'→O k ex w→O k ex w')∧
  I w∧J X w∧
  (∀ a b,∀ k U w',I w'→W k [a,b] U w'→J k w'→B a b w' fun ex V=>match ex with
   | .normal=>I V∧J U V∧(G=true→eJ w' V)
   |ex=>O k ex V)∧
  (∀ k w',Y k→J k w'→aa w')∧(∀ k w',O k .ret w'→ab w')∧(∀ k i w',O k (.exit i) w'→nJ ac i w')
theorem sI.s {P:X5} {G:Bool} {g:FuncId} {cap:List x4} {n:Nat} {J:Nat→List x4→x5→Prop} {E:x5→Prop} (h:sI P G g cap n J E):
  nK P G g cap 0 (fun k=>k=n) (fun k vs O w=>k<n∧O=k+1∧J k vs w) E:=by
 refine⟨h.1,fun l U V w W X Y hE Z=>?_⟩;have:=h.2 l U (fun k w=>V k w) w W X (fun k vs w' aa hab ac ad=>Y k (k+1) vs w' hab ⟨aa,rfl,ac⟩ ad) hE Z;cases this with
 |code h1 ae=>exact .code h1 (ae.mono fun _ _ ⟨v,af,I⟩=>⟨v,af,I.elim (fun h=>.inl ⟨n,rfl,h⟩) (fun⟨k,_,h⟩=>.inr ⟨k,h⟩)⟩)
 |ext v w' h1 I=>exact .ext v w' h1 (I.elim (fun h=>.inl ⟨n,rfl,h⟩) (fun⟨k,_,h⟩=>.inr ⟨k,h⟩))
def dS (N:Nat) (free:ew):Code→List Nat→Env→x5→(Exit→Env→x5→Prop)→Prop
 | .skip,_,e,w,K=>K .normal e w
 | .label _,_,e,w,K=>K .normal e w
 | .ret,_,e,w,K=>K .ret e w
 | .exit i,_,e,w,K=>K (.exit i) e w
 | .region _ ops O,_,e,w,K=>
  bif O then aS w fun w'=>sx P free ops e w' (K .normal)
  else l2 P free ops ops.toList e w (K .normal)
 | .seq x y,rd,e,w,K=>
  bif Nat.ble 2 (iw x) then
   aB (lam (nH N (cV x) (reads y++rd)).length fun vs=>fun w'=>dS N free y rd (gN (nH N (cV x) (reads y++rd)) vs (jl (cV x) e)) w' K)
    fun U=>dS N free x (reads y++rd) e w fun ex E w'=>match ex with
     | .normal=>match hM E (nH N (cV x) (reads y++rd)) with
      |some vs=>app (nH N (cV x) (reads y++rd)).length U vs w'
      |none=>False
     |ex=>K ex E w'
  else dS N free x (reads y++rd) e w fun ex E w'=>match ex with
   | .normal=>dS N free y rd E w' K
   |ex=>K ex E w'
 | .cond c x y,rd,e,w,K=>
  match dM e c with
  |some (.b true)=>dS N free x rd e w K
  |some (.b false)=>dS N free y rd e w K
  |some (.v v)=>Split v (dS N free x rd e w K) (dS N free y rd e w K)
  |some .u=>False
  |none=>False
 | .block id c,rd,e,w,K=>dS N free c rd e w fun ex E w'=>match ex with
  | .exit i=>bif Nat.beq i id then K .normal E w' else K (.exit i) E w'
  |ex=>K ex E w'
 | .loop c,rd,e,w,K=>
  match hM e (nI N (cV c) (reads c++rd) e) with
  |some vs=>
   Af (nI N (cV c) (reads c++rd) e).length vs w fun us w' k=>
    dS N free c (reads c++rd) (gN (nI N (cV c) (reads c++rd) e) us (jl (cV c) e)) w' fun ex E I=>match ex with
     | .normal=>match hM E (nI N (cV c) (reads c++rd) e) with
      |some V=>k V I
      |none=>False
     |ex=>K ex E I
  |none=>False
 | .scope c,rd,e,w,K=>dS N free c rd e w K
 | .rangeFunc f J W body,_,e,w,K=>
  bif free.1 then False else
  match dM e f with
  |some X=>
   Ai P X.val J.size w
    (fun vs w' k=>dS N free W (reads body) (gN J.toList.reverse vs.reverse e) w' fun ex E I=>match ex with
     | .normal=>Over I fun Y=>dS N free body [] E Y fun ex _ Z=>k ex Z
     |_=>False)
    (fun w'=>K .normal e w') (bif hN body then fun w'=>K .ret e w' else fun _=>False) (sH (fun i w'=>K (.exit i) e w') (ix body))
  |none=>False
 | .goto _,_,_,_,_=>False
 | .refuse _,_,_,_,_=>False
end
theorem qE {n:Nat} {w0 w:x5} (h:cm n w0 w) {l:Nat} (U:w0.heap.size≤l) (o:Obj):cm n w0 (w.putObj l o):=
 ⟨h.os,h.tape,h.output,by simpa using h.size,fun r x E I=>by
  have J:=(l6.1 E).1;rw[x5.putObj_heap_other (by omega)];exact h.bz r x E I,fun r x O E I=>by
  have J:=(l6.1 E).1;rw[x5.putObj_heap_other (by omega)];exact h.old r x O E I⟩
theorem uV {w0 w:x5} (h:eJ w0 w) {l:Nat} {I:Obj} (O:w.heap[l]? =some I) (U:sj I=false) (o:Obj):eJ w0 (w.putObj l o):=fun r x V E=>by
 have h1:=h r x V E;by_cases J:r=l
 ·subst J;rw[O] at h1;cases h1;rw[U] at E;cases E
 ·rw[x5.putObj_heap_other J];exact h1
theorem nM {w:x5} {l:Nat} {I:Obj} (U:w.heap[l]? =some I) (V:fx I=false) (o:Obj):Ext w (w.putObj l o):=
 ⟨by simp,fun r x E J=>by
  by_cases O:r=l
  ·subst O;rw[U] at E;cases E;rw[V] at J;cases J
  ·rw[x5.putObj_heap_other O];exact E⟩
theorem uW {w:x5} {l:Nat} {o:Obj} (O:fx o=false):Ext (w.putObj l o) w:=
 ⟨by simp,fun r x E I=>by
  by_cases J:r=l
  ·subst J;rcases Nat.lt_or_ge r w.heap.size with h|h
   ·rw[x5.putObj_heap_same h] at E;cases E;rw[O] at I;cases I
   ·rw[Array.getElem?_eq_none (by simpa using h)] at E;cases E
  ·rw[x5.putObj_heap_other J] at E;exact E⟩
theorem l8 (w:x5) (o:Obj):Ext w (w.alloc o):=nA w o
theorem ma (w:x5) (o:Obj):cO w (w.alloc o):=nB w o
def hP (D:Nat):Deferred:={target:=.collected D,args:=#[]}
def jm (w:x5) (I:List Deferred):Prop:=∃ E:List Nat,I=E.map hP∧E.Nodup∧ ∀ D∈E,w.heap[D]? =some (.deferred (some []))
theorem jm.da {n:Nat} {w w':x5} {E:List Deferred} (h:jm w E) (I:cm n w w'):jm w' E:=by
 obtain⟨J,h1,O,U⟩:=h;exact⟨J,h1,O,fun D V=>I.bz D _ (U D V) rfl⟩
section
variable {P:X5} {N:Nat}
def Aj (w:x5) (I J:List Deferred):Prop:=∃ E:List Nat,J=E.map hP++I∧ ∀ D∈E,w.heap.size≤D
def e6 (n:Nat) (w:x5) (I:List Deferred) (w':x5) (E:List Deferred):Prop:=cm n w w'∧jm w' E∧Aj w I E
theorem e6.refl {n:Nat} {w:x5} {E:List Deferred} (h:jm w E):e6 n w E w E:=⟨cm.refl _ _,h,[],rfl,fun _ h=>by cases h⟩
theorem e6.trans {n:Nat} {w E w':x5} {I J O:List Deferred} (h:e6 n w I E J) (k:e6 n E J w' O):e6 n w I w' O:=by
 obtain⟨U,ac,V,a3,a4⟩:=h;obtain⟨W,X,Y,Z,aa⟩:=k;refine⟨U.trans W,X,Y++V,by simp[Z,a3],fun D ab=>?_⟩;rcases n9.1 ab with h|h
 ·exact Y5 U.size (aa D h)
 ·exact a4 D h
theorem e6.same {n:Nat} {w w':x5} {E:List Deferred} (h:jm w E) (I:cm n w w'):e6 n w E w' E:=⟨I,h.da I,[],rfl,fun _ h=>by cases h⟩
def iy:Exit→Bool
 | .panic _=>false
 | .outgrown=>false
 | .goto _=>false
 |_=>true
def j3 (N:Nat) (free:ew) (I:Bool) (K:Exit→Env→x5→Prop) (D:List Nat) (a:Act) (w:x5) (ex:Exit) (a':Act) (w':x5):Prop:=
 iy ex=true∧ ∃ E,K ex E w'∧U3 N E a'∧(∀ t,t∉D→a'.tmps.getD t undef=a.tmps.getD t undef)∧(I=true→a'.defers=a.defers)∧
  (free.1=false→e6 free.2 w a.defers w' a'.defers)
theorem j3.step {free:ew} {I J:Bool} {K:Exit→Env→x5→Prop} {D O:List Nat} {a E a':Act} {w U w':x5} {ex:Exit} (h:j3 N free J K O E U ex a' w')
  (W:∀ t,t∈O→t∈D) (X:∀ t,t∉D→E.tmps.getD t undef=a.tmps.getD t undef) (Y:I=true→J=true) (Z:I=true→E.defers=a.defers)
  (aa:free.1=false→e6 free.2 w a.defers U E.defers):j3 N free I K D a w ex a' w':=by
 obtain⟨ab,ac,h1,ad,ae,af,ag⟩:=h;exact⟨ab,ac,h1,ad,fun t V=>(ae t fun h=>V (W t h)).trans (X t V),fun h=>(af (Y h)).trans (Z h),fun h=>(aa h).trans (ag h)⟩
theorem qF {D:List Nat} {t:Nat} {x:ee}:∀ {e:Env},look (jl D e) t=some x→look e t=some x∧t∉D
 |[],h=>by cases h
 |(s,y)::r,h=>by
  simp only[jl] at h;cases hm:gM s D with
  |true=>
   rw[hm] at h;simp only[cond_true] at h;obtain⟨h1,I⟩:=qF h;refine⟨?_,I⟩;simp only[look];cases E:Nat.beq s t with
   |true=>exact absurd (sE.1 hm) (by rw[Nat.eq_of_beq_eq_true E];exact I)
   |false=>exact h1
  |false=>
   rw[hm] at h;simp only[cond_false,look] at h ⊢;cases E:Nat.beq s t with
   |true=>
    rw[E] at h;refine⟨h,fun J=>?_⟩;rw[←Nat.eq_of_beq_eq_true E] at J;rw[sE.2 J] at hm;cases hm
   |false=>
    rw[E] at h;exact qF h
theorem sK {a:Act} {e:Env}:∀ {S:List Nat} {vs:List x4},U3 N e a→(∀ p∈S.zip vs,a.tmps.getD p.1 undef=p.2)→U3 N (gN S vs e) a
 |[],_,h,_=>by simpa[gN] using h
 |t::r,[],h,_=>by simpa[gN] using h
 |t::r,v::vs,h,J=>by
  have O:=sK (S:=r) (vs:=vs) h fun p U=>J p (by simp[U]);refine⟨O.1,fun s x E=>?_⟩;simp only[gN,look] at E;cases I:Nat.beq t s with
  |true=>
   rw[I] at E;simp only[cond_true,Z9] at E;subst E;rw[←Nat.eq_of_beq_eq_true I];exact J (t,v) (by simp)
  |false=>rw[I] at E;exact O.2 s x E
theorem qG {e:Env} {a:Act} (O:U3 N e a):∀ {S:List Nat} {vs:List x4},hM e S=some vs→vs.length=S.length∧ ∀ p∈S.zip vs,a.tmps.getD p.1 undef=p.2
 |[],vs,h=>by simp[hM] at h;subst h;simp
 |t::r,vs,h=>by
  simp only[hM] at h;cases I:look e t with
  |none=>rw[I] at h;cases h
  |some x=>
   rw[I] at h;simp only at h;cases J:hM e r with
   |none=>rw[J] at h;cases h
   |some us=>
    rw[J] at h;simp only[Z9] at h;subst h;obtain⟨h1,U⟩:=qG O J;refine⟨by simp[h1],fun p E=>?_⟩;simp only[List.zip_cons_cons,U6] at E;rcases E with rfl|E
    ·exact O.2 t x I
    ·exact U p E
theorem Ak {a a':Act} {e E:Env} {D:List Nat} (I:U3 N e a) (J:U3 N E a') (O:∀ t,t∉D→a'.tmps.getD t undef=a.tmps.getD t undef):U3 N (jl D e) a':=
 ⟨J.1,fun t x h=>by
  obtain⟨h1,U⟩:=qF h;rw[O t U];exact I.2 t x h1⟩
theorem Al {o:U9} {t:Nat} (E:o.dst=some t) (l:List U9) (hm:o∈l):t∈kW l:=by
 induction l with
 |nil=>cases hm
 |cons o' l I=>
  simp only[kW];rcases U6.1 hm with h|h
  ·rw[←h,E];simp
  ·have:=I h;cases o'.dst with
   |none=>exact this
   |some d=>exact .tail _ this
theorem uX {free:ew} {J:Bool} {K:Exit→Env→x5→Prop} {D:List Nat} {a a':Act} {w w':x5} (O:free.1=false→jm w a.defers) (h:jY N free (K .normal) D a w a' w'):
  j3 N free J K D a w .normal a' w':=by
 obtain⟨U,h1,V,E,W⟩:=h;exact⟨rfl,U,h1,V,E.2,fun _=>E.1,fun I=>by rw[E.1];exact e6.same (O I) (W I)⟩
theorem uY:∀ (E:List Nat) (vs:List x4) (p:Nat) (v:x4) (e:Env),E.length=vs.length→gN (E++[p]) (vs++[v]) e=gN E vs ((p,.v v)::e)
 |[],[],_,_,_,_=>rfl
 |[],_::_,_,_,_,h=>by simp at h
 |_::_,[],_,_,_,h=>by simp at h
 |q::E,u::vs,p,v,e,h=>by
  simp only[List.cons_append,gN];rw[uY E vs p v e (by simpa using h)]
theorem uZ:∀ (E:List Nat) (vs:List x4) (I:Array x4) (e:Env),E.length=vs.length→(E.all fun t=>Nat.blt t N)=true→U3 N e {tmps:=I,defers:=[]}→
  U3 N (gN E.reverse vs.reverse e) {tmps:=(E.zip vs).foldl (fun I (p:Nat×x4)=>I.setIfInBounds p.1 p.2) I,defers:=[]}
 |[],[],_,_,_,_,h=>h
 |[],_::_,_,_,h,_,_=>by simp at h
 |_::_,[],_,_,h,_,_=>by simp at h
 |p::E,v::vs,I,e,U,J,h=>by
  have O:E.length=vs.length:=by simpa using U
  simp only[List.all_cons,V7] at J;simp only[List.zip_cons_cons,List.foldl_cons,List.reverse_cons];rw[uY _ _ _ _ _ (by simpa using O)];exact uZ E vs _ _ O J.2 (h.put (d:=some p) (x:=.v v) (v:=v) J.1 rfl)
def gO (free:ew) (c:Code):Bool:=free.1|| !hL c
theorem u0:∀ f a b:Bool,(f|| !(a||b))=true→(f|| !a)=true:=by decide
theorem u1:∀ f a b:Bool,(f|| !(a||b))=true→(f|| !b)=true:=by decide
def exitCode:Exit→Option Code
 | .ret=>some .ret
 | .exit id=>some (.exit id)
 |_=>none
end
section
variable {P:X5} {N:Nat}
def Sound (P:X5) (N:Nat) (c:Code):Prop:=
 ∀ (free:ew) (r:Option Nat) (rd:List Nat) (e:Env) (a:Act) (w:x5) (K:Exit→Env→x5→Prop) (Q:Exit→Act→x5→Prop),
  wf N c=true→(∀ l,r=some l→free.1=false∧ ∃ E,w.heap[l]? =some (.loop E))→(free.1=false→jm w a.defers)→
  dS P N free c rd e w K→U3 N e a→(∀ ex a' w',j3 N free (gO free c) K (cV c) a w ex a' w'→Q ex a' w')→(∀ I a w,¬Q (.panic I) a w)→
  c.wpIn (dC r) 0 P Q a w
theorem Am {x y:Code} (aw:Sound P N x) (ax:Sound P N y):Sound P N (.seq x y):=by
 intro free r rd e a w K Q ac ai ay h aj ak al;simp only[wf,V7] at ac;have am:∀ t,t∈cV x→t∈cV (.seq x y):=fun t U=>by simp[cV,U]
 have az:∀ t,t∈cV y→t∈cV (.seq x y):=fun t U=>by simp[cV,U]
 have ao:gO free (.seq x y)=true→gO free x=true:=fun h=>u0 _ _ _ h;have aA:gO free (.seq x y)=true→gO free y=true:=fun h=>u1 _ _ _ h;refine wpIn_seq ?_;have ap:∀ (I:Env) (J:Act) (E:x5),dS P N free y rd I E K→U3 N I J→(∀ t,t∉cV x→J.tmps.getD t undef=a.tmps.getD t undef)→
   (gO free (.seq x y)=true→J.defers=a.defers)→(free.1=false→e6 free.2 w a.defers E J.defers)→y.wpIn (dC r) 0 P Q J E:=by
  intro I J E h1 V W Y O;refine ax free r rd I J E K Q ac.2 ?_ (fun h=>(O h).2.1) h1 V ?_ al
  ·intro l aB;obtain⟨aq,aC,ab⟩:=ai l aB;exact⟨aq,aC,(O aq).1.bz _ _ ab rfl⟩
  ·intro ex a' w' Z;exact ak ex a' w' (Z.step az (fun t U=>W t fun h=>U (am t h)) aA Y O)
 have au:∀ (X:Exit→Env→x5→Prop),dS P N free x (reads y++rd) e w X→
   (∀ I J E,j3 N free (gO free x) X (cV x) a w .normal J E→U3 N I J→X .normal I E→(∀ t,t∉cV x→J.tmps.getD t undef=a.tmps.getD t undef)→
    (gO free (.seq x y)=true→J.defers=a.defers)→(free.1=false→e6 free.2 w a.defers E J.defers)→y.wpIn (dC r) 0 P Q J E)→
   (∀ ex I E,ex≠ .normal→X ex I E→K ex I E)→x.wpIn (dC r) 0 P (Exit.then (y.wpIn (dC r) 0 P Q) Q) a w:=by
  intro X aa O aD;refine aw free r _ e a w X _ ac.1 ai ay aa aj ?_ ?_
  ·intro ex J E Z;cases ex with
   |normal=>
    have aE:=Z;obtain⟨ab,I,h1,ad,ae,af,ag⟩:=Z;exact O I J E aE ad h1 ae (fun h=>af (ao h)) ag
   |_=>
    obtain⟨ab,I,h1,ad,ae,af,ag⟩:=Z;refine ak _ J E ⟨ab,I,aD _ I E (by simp) h1,ad,fun t U=>ae t fun h=>U (am t h),fun h=>af (ao h),ag⟩
  ·intro aF a w aG;exact al aF a w aG
 simp only[dS] at h;cases av:Nat.ble 2 (iw x) with
 |false=>
  rw[av] at h;refine au _ h (fun I J E _ V h1 W Y O=>ap I J E h1 V W Y O) ?_;intro ex I E ah h1;cases ex <;> first|exact absurd rfl ah|exact h1
 |true=>
  rw[av] at h;refine au _ h (fun I J E _ V h1 W Y O=>?_) ?_
  ·simp only at h1;cases aa:hM I (nH N (cV x) (reads y++rd)) with
   |none=>rw[aa] at h1;exact h1.elim
   |some vs=>
    rw[aa] at h1;obtain⟨aH,aI⟩:=qG V aa;simp only at h1;rw[qA _ _ _ aH] at h1;exact ap _ J E h1 (sK (Ak aj V W) aI) W Y O
  ·intro ex I E ah h1;cases ex <;> first|exact absurd rfl ah|exact h1
theorem An {c:Code} (aw:Sound P N c):Sound P N (.loop c):=by
 intro free r rd e a w K Q ak ax ay h ab az aA;simp only[wf] at ak;simp only[dS] at h;generalize aP:nI N (cV c) (reads c++rd) e=S at h;cases ac:hM e S with
 |none=>rw[ac] at h;exact h.elim
 |some vs=>
  rw[ac] at h;simp only at h;obtain⟨aB,aC,O,aD⟩:=h;obtain⟨aE,aF⟩:=qG ab ac;let Inv:Act→x5→Prop:=fun E I=>∃ us,us.length=S.length∧app S.length aB us I∧(∀ p∈S.zip us,E.tmps.getD p.1 undef=p.2)∧E.tmps.size=N∧
   (∀ t,t∉cV c→E.tmps.getD t undef=a.tmps.getD t undef)∧(gO free c=true→E.defers=a.defers)∧(free.1=false→e6 free.2 w a.defers I E.defers)
  let U:Act→List x4:=fun E=>S.map fun t=>E.tmps.getD t undef;have al:∀ (E:Act) (us:List x4),us.length=S.length→(∀ p∈S.zip us,E.tmps.getD p.1 undef=p.2)→U E=us:=by
   intro E us V W;apply List.ext_getElem
   ·simp[U,V]
   ·intro i h1 J;have hi:i<S.length:=by simpa[U] using h1
    have aG:(S[i],us[i])∈S.zip us:=by
     have:=List.getElem_mem (l:=S.zip us) (n:=i) (by simp[List.length_zip,V,hi]);simpa using this
    simpa[U] using W _ aG
  refine wpIn_loop Inv (fun E I=>app S.length aC (U E) I) ⟨vs,aE,O,aF,ab.1,fun _ _=>rfl,fun _=>rfl,fun X=>e6.refl (ay X)⟩ ?_;rintro E I ⟨us,V,aH,W,aI,am,X,Y⟩;have Z:=qB S.length _ us aD;rw[qA _ _ _ V] at Z;have Z:=Z I aH;have aJ:U3 N (gN S us (jl (cV c) e)) E:=by
   refine sK (a:=E) (e:=jl (cV c) e) ⟨aI,fun t x aa=>?_⟩ W;obtain⟨h1,J⟩:=qF aa;rw[am t J];exact ab.2 t x h1
  refine aw free r _ _ E I _ _ ak ?_ (fun h=>(Y h).2.1) Z aJ ?_ ?_
  ·intro l aK;obtain⟨ao,aL,O⟩:=ax l aK;exact⟨ao,aL,(Y ao).1.bz _ _ O rfl⟩
  ·intro ex ad aM ae;have ap:∀ t,t∉cV c→ad.tmps.getD t undef=a.tmps.getD t undef:=by
    obtain⟨_,_,_,_,af,_,_⟩:=ae;exact fun t aa=>(af t aa).trans (am t aa)
   cases ex with
   |normal=>
    obtain⟨O,ag,h1,J,af,ah,ai⟩:=ae;simp only at h1;cases aj:hM ag S with
    |none=>rw[aj] at h1;exact h1.elim
    |some aq=>
     rw[aj] at h1;obtain⟨au,av⟩:=qG J aj;refine⟨⟨aq,au,h1.1,av,J.1,ap,fun h=>(ah h).trans (X h),fun h=>(Y h).trans (ai h)⟩,?_⟩;rw[al E us V W,al ad aq au av];exact h1.2
   |_=>
    obtain⟨O,ag,h1,J,af,ah,ai⟩:=ae;exact az _ ad aM ⟨O,ag,h1,J,ap,fun h=>(ah h).trans (X h),fun h=>(Y h).trans (ai h)⟩
  ·intro aN a w aO;exact aA aN a w aO
theorem Ao {f:Operand} {ab:Array Tmp} {ah body:Code} (bh:Sound P N ah) (av:Sound P N body):Sound P N (.rangeFunc f ab ah body):=by
 intro free r rd e a w K Q aU aw bi h al bj b7;simp only[wf,V7] at aU;obtain⟨bk,bl,bm⟩:=aU;simp only[dS] at h;obtain⟨bn,b⟩:=free;cases bn with
 |true=>exact h.elim
 |false=>
  simp only[cond_false] at h;cases aE:dM e f with
  |none=>rw[aE] at h;exact h.elim
  |some b8=>
   rw[aE] at h;obtain⟨aV,G,g,cap,b9,ca,cb,aF,bo,aG,bp,⟨aW,bq⟩,br,haX,ax,aH,hbt,bu,bw,bx,bA,bB⟩:=h;have bC:∀ k ex w',iy ex=true→ex≠ .normal→aG k ex w'→K ex e w':=by
    intro k ex w' am aI aY;cases ex with
    |normal=>exact absurd rfl aI
    |ret=>
     have:=bA k w' aY;cases aw:hN body with
     |true=>rw[aw] at this;exact this
     |false=>rw[aw] at this;exact this.elim
    |exit i=>exact uU (bB k i w' aY)
    |_=>cases am
   have bD:a.eval f= .func (.func g) #[] cap:=by rw[al.dM aE];exact bp
   refine wpIn_rangeFunc ?_;intro fn _;obtain⟨D,mark,l,X,I,bE,U,bF,aJ,ay,bG,az⟩:∃ (D:Nat) (mark:List Deferred) (l:Nat) (X:x5) (I:LoopState→Option Code→Loop),
     (Instr.enterLoop fn a.tmps ab ah body (dC r).round).run P w= .ok (l,mark) X∧
     I=(fun st bH=>{state:=st,pending:=bH,fn,tmps:=a.tmps,params:=ab,assign:=ah,body,defers:=D})∧
     X.heap[l]? =some (.loop (I .ready none))∧(mark=[]∨(mark=[hP D]∧X.heap[D]? =some (.deferred (some []))∧w.heap.size≤D∧D≠l))∧Ext w X∧cm b w X∧w.heap.size≤l:=by
    cases r with
    |none=>
     refine⟨w.heap.size,[hP w.heap.size],w.heap.size+1,_,_,run_enterLoop_outer _ _ _ _ _,rfl,?_,.inr ⟨rfl,?_,o7 _,by omega⟩,?_,?_,by omega⟩
     ·have:=x5.alloc_heap_new (w.alloc (.deferred (some []))) (.loop {state:=.ready,pending:=none,fn,tmps:=a.tmps,params:=ab,assign:=ah,body,defers:=w.heap.size});rwa [x5.size_alloc] at this
     ·exact (Below.heap_alloc _ _ _ (by simp)).trans (x5.alloc_heap_new w _)
     ·exact (l8 w _).trans (l8 _ _)
     ·exact ((ma w _).trans (ma _ _)).b
    |some bI=>
     obtain⟨_,bJ,Y⟩:=aw bI rfl;exact⟨bJ.defers,[],w.heap.size,_,_,run_enterLoop_inner Y _ _ _ _ _,rfl,x5.alloc_heap_new w _,.inl rfl,l8 _ _,(ma _ _).b,o7 _⟩
   let ac:x5→Prop:=fun E=>mark=[]∨(mark=[hP D]∧E.heap[D]? =some (.deferred (some []))∧w.heap.size≤D∧D≠l);have ao:∀ {m:Nat} {A B:x5},cm m A B→ac A→ac B:=fun Z h=>h.imp id fun⟨h1,J,O⟩=>⟨h1,Z.bz _ _ J rfl,O⟩;have aA:∀ {A:x5} (o:Obj),ac A→ac (A.putObj l o):=fun o h=>h.imp id fun⟨h1,J,O,W⟩=>⟨h1,(x5.putObj_heap_other W).trans J,O,W⟩;let aZ:aV→x5→Prop:=fun k E=>bo k E∧E.heap[l]? =some (.loop (I .ready none))∧cm b w E∧ac E;let a1:aV→x5→Prop:=fun k E=>∃ ex c,iy ex=true∧exitCode ex=some c∧aG k ex E∧E.heap[l]? =some (.loop (I .done (some c)))∧cm b w E∧ac E;have aK:=bq l aZ a1 X (fun k A B he Z ⟨h1,J,O,W⟩=>⟨ax k A B he h1,Z.bz _ _ J rfl,O.step Z ay.size,ao Z W⟩)
    (fun k A B he Z ⟨ex,c,Y,h1,J,O,W,ap⟩=>⟨ex,c,Y,h1,aH k ex A B he J,Z.bz _ _ O rfl,W.step Z ay.size,ao Z ap⟩) ?round (haX _ _ ay hbt) ⟨ax _ _ _ ay bu,bF,bG,aJ⟩
   case round=>
    intro k aL vs E haF a2 ⟨hi,aB,bK,bL⟩;have aM:=br k vs aL E a2;have a6:=run_yield (P:=P) (args:=vs.toArray) aB (by rw[U];simp[aM]);rw[U] at a6;refine⟨fn,_,ah,body,a6,roundIn_of_wpIn trivial ?_⟩;have bM:(ab.zip vs.toArray).foldl (fun tmps x=>match x with|(t,a)=>tmps.setIfInBounds t a) a.tmps=(ab.toList.zip vs).foldl (fun bN (p:Nat×x4)=>bN.setIfInBounds p.1 p.2) a.tmps:=by
     rw[←Array.foldl_toList,Array.toList_zip]
    have a7:=uZ (N:=N) ab.toList vs a.tmps e (by simp[aM]) bk (show U3 N e {tmps:=a.tmps,defers:=[]} from⟨al.1,al.2⟩);rw[←bM] at a7;have cc:E.heap[l]? =some (.loop (I .ready none)):=aB;refine bh (false,b) (some l) _ _ _ E _ _ bl (fun l' aN=>⟨rfl,by cases aN;exact⟨_,aB⟩⟩) (fun _=>⟨[],rfl,List.nodup_nil,fun D aJ=>by cases aJ⟩) (by have av:=qB _ _ vs bw;rw[qA _ _ _ aM] at av;exact av k aL E haF a2 hi) a7 ?_ (fun _ _ _ h=>h);intro ex a8 V aO;obtain⟨Y,cd,h1,J,O,W,ap⟩:=aO;obtain⟨aq,bO,_⟩:=ap rfl;cases ex with
    |normal=>
     have ai:V.heap[l]? =some (.loop (I .ready none)):=aq.bz _ _ aB rfl;have bP:=(l6.1 ai).1;refine⟨_,run_beginRound ai (by rw[U]),?_⟩;have bQ:Ext V (V.putObj l (.loop {I .ready none with state:=.busy})):=nM ai rfl _;have ba:(V.putObj l (.loop {I .ready none with state:=.busy})).heap[l]? =some (.loop {I .ready none with state:=.busy}):=x5.putObj_heap_same bP;have bR:jm (V.putObj l (.loop {I .ready none with state:=.busy})) a8.defers:=by
      obtain⟨aC,aj,ak,ad⟩:=bO;refine⟨aC,aj,ak,fun ae af=>?_⟩;have:=ad ae af;have aI:ae≠l:=fun he=>by rw[he,ai] at this;cases this
      rw[x5.putObj_heap_other aI];exact this
     have bb:cm b w (V.putObj l (.loop {I .ready none with state:=.busy})):=qE (bK.trans aq) az _;have bc:=aA (.loop {I .ready none with state:=.busy}) (ao aq bL);have bS:=h1 _ bQ (uW rfl) (uV (eJ.refl _) ai rfl _);refine av (false,b) (some l) _ _ a8 _ _ _ bm (fun l' aN=>⟨rfl,by cases aN;exact⟨_,ba⟩⟩) (fun _=>bR) bS J ?_ (fun _ _ _ h=>h);intro bT ce au aO;obtain⟨aP,cg,aQ,ch,ci,cj,bU⟩:=aO;obtain⟨aa,_,_⟩:=bU rfl;have aD:au.heap[l]? =some (.loop {I .ready none with state:=.busy}):=aa.bz _ _ ba rfl;have bd:=(l6.1 aD).1;have be:=fun bV=>run_endRound (P:=P) bV aD;have aR:∀ (o:Obj),Ext au (au.putObj l o):=fun o=>nM aD rfl o;have bf:∀ (ex:Exit) (c:Code),iy ex=true→exitCode ex=some c→aG k ex au→
       ∃ v w',(Instr.endRound l (some c)).run P au= .ok v w'∧ ∃ aS,Ending.returned v= .returned aS∧((aS= .bool true∧aF w'∧aZ aL w'∧(G=true→eJ E w'))∨(aS= .bool false∧a1 k w')):=by
      intro ex c am bW bX;refine⟨_,_,be (some c),_,rfl,.inr ⟨rfl,ex,c,am,bW,aH k ex _ _ (aR _) bX,?_,qE (bb.trans aa) az _,aA _ (ao aa bc)⟩⟩;rw[x5.putObj_heap_same bd,U];rfl
     cases bT with
     |normal=>
      obtain⟨aj,ak,ad⟩:=aQ;refine⟨_,_,be none,_,rfl,.inl ⟨rfl,haX _ _ (aR _) aj,⟨ax _ _ _ (aR _) ak,?_,qE (bb.trans aa) az _,aA _ (ao aa bc)⟩,fun bY=>uV (ad bY) aD rfl _⟩⟩;rw[x5.putObj_heap_same bd,U];rfl
     |ret=>exact bf .ret _ rfl rfl aQ
     |exit id=>exact bf (.exit id) _ rfl rfl aQ
     |goto t=>cases aP
     |panic bZ=>cases aP
     |outgrown=>cases aP
    |_=>exact h1.elim
   have aK:=ey.calls P aK aW;refine⟨l,mark,X,{target:=.fn (.func g) cap,args:=#[.func (.yield l) #[] #[]]},X,g,#[.func (.yield l) #[] #[]]++cap,X,bE,?_,fun _ _=>trivial,?_,sm _ _,?_⟩
   ·simp only[resolve,bD];simp[go_sem]
   ·simp only[invoke];exact aW _ _
   ·have b1:(#[.func (.yield l) #[] #[]]++cap:Array x4)=(x4.func (.yield l) #[] #[]::cap.toList).toArray:=by apply Array.toList_inj.1;simp
    rw[b1];refine CallsIn.mono (uI aK) ?_;rintro ck V ⟨v,rfl,b2⟩;have left:∀ (ag:Loop) (ex:Exit),iy ex=true→V.heap[l]? =some (.loop ag)→ag.state≠ .busy→cm b w V→ac V→K ex e (V.putObj l (.loop {ag with state:=.exhausted}))→
      Q ex {a with defers:=mark++a.defers} (V.putObj l (.loop {ag with state:=.exhausted})):=by
     intro ag ex am ai cl aq bg b3;have aa:cm b w (V.putObj l (.loop {ag with state:=.exhausted})):=qE aq az _;refine bj ex _ _ ⟨am,e,b3,⟨al.1,al.2⟩,fun _ _=>rfl,(fun h=>by simp[gO,hL] at h),fun _=>⟨aa,?_,?_⟩⟩
     case refine_2=>
      rcases bg with hm|⟨hm,_,b4,_⟩
      ·exact⟨[],by simp[hm],fun _ h=>by cases h⟩
      ·exact⟨[D],by simp[hm],fun ae af=>by simp at af;omega⟩
     obtain⟨aC,aj,ak,ad⟩:=bi rfl;have aT:=aA (.loop {ag with state:=.exhausted}) bg;rcases aT with hm|⟨hm,aT,b4,_⟩
     ·exact⟨aC,by simp[hm,aj],ak,fun ae af=>aa.bz _ _ (ad ae af) rfl⟩
     ·refine⟨D::aC,by simp[hm,aj],List.nodup_cons.2 ⟨fun b5=>?_,ak⟩,fun ae af=>?_⟩
      ·have:=(l6.1 (ad D b5)).1;omega
      ·rcases U6.1 af with h|h
       ·rw[h];exact aT
       ·exact aa.bz _ _ (ad ae h) rfl
    rcases b2 with⟨k,b6,h1,J,O,W⟩|⟨k,ex,c,Y,h1,J,O,W,ap⟩
    ·refine⟨none,_,by have:=run_endLoop (P:=P) J (by rw[U];simp);rw[U] at this;exact this,?_⟩;have:=left (I .ready none) .normal rfl J (by rw[U];simp) O W (bx _ _ b6 (ax _ _ _ (nM J rfl _) h1));rw[U] at this;exact this
    ·refine⟨some c,_,by have:=run_endLoop (P:=P) O (by rw[U];simp);rw[U] at this;exact this,?_⟩;have:=left (I .done (some c)) ex Y O (by rw[U];simp) W ap (bC k ex _ Y (by intro he;rw[he] at h1;cases h1) (aH _ _ _ _ (nM O rfl _) J));rw[U] at this;cases ex with
     |normal=>cases h1
     |ret=>cases h1;exact wpIn_ret this
     |exit id=>cases h1;exact wpIn_exit this
     |goto t=>cases Y
     |panic bZ=>cases Y
     |outgrown=>cases Y
theorem qH {b:Frame} {a:Act} {k:List Item} {cs:List Frame} {w:x5} {c:Code}:
  step P (lone (b.atR a (.code (.scope c)::k)) cs w)= .next (lone (b.atR a (.code c:: .inScope c::k)) cs w):=
 step_lone_go (by simp[stepG,stepG.exec,Frame.atR])
theorem Ap {b:Frame} {a:Act} {k:List Item} {cs:List Frame} {w:x5} {c:Code}:
  step P (lone (b.atR a (.inScope c::k)) cs w)= .next (lone (b.atR a k) cs w):=
 step_lone_go (by simp[stepG,stepG.exec,Frame.atR])
theorem Aq {F:Fence} {n:Nat} {c:Code} {Q:Exit→Act→x5→Prop} {a:Act} {w:x5} (h:c.wpIn F n P (fun ex a' w'=>iy ex=true∧Q ex a' w') a w):
  (Code.scope c).wpIn F n P Q a w:=by
 intro b k cs aa J O;have E:(lone (b.atR a (.code (.scope c)::k)) cs w).fenced P F:=fenced_calm J O rfl;obtain⟨e,U,V,⟨W,X⟩,I⟩:=h b (.inScope c::k) cs aa J O;have Z:∀ id,exitTo id (.inScope c::k)=exitTo id k:=fun id=>by simp[exitTo]
 cases e with
 |normal=>exact⟨.normal,U,V,X,.head E qH (StepsIn.trans I (.one (fenced_calm J O rfl) Ap))⟩
 |exit id=>
  exact⟨.exit id,U,V,X,fun ab Y=>.head E qH (I.1 ab (by rw[Z];exact Y)),
   fun ac Y=>let⟨ad,h1,ae⟩:=I.2 ac (by rw[Z];exact Y);⟨ad,h1,.head E qH ae⟩⟩
 |ret=>exact⟨_,U,V,X,.of_steps (.one E qH) I⟩
 |goto l=>cases W
 |panic af=>cases W
 |outgrown=>cases W
theorem sound (hm:P.follows .mixedOrders=true) (c:Code):Sound P N c:=by
 induction c with
 |skip=>exact fun free r rd e a w K Q _ _ I h E J _=>wpIn_skip (J _ _ _ ⟨rfl,e,h,E,fun _ _=>rfl,fun _=>rfl,fun W=>e6.refl (I W)⟩)
 |label l=>exact fun free r rd e a w K Q _ _ I h E J _=>wpIn_label (J _ _ _ ⟨rfl,e,h,E,fun _ _=>rfl,fun _=>rfl,fun W=>e6.refl (I W)⟩)
 |ret=>exact fun free r rd e a w K Q _ _ I h E J _=>wpIn_ret (J _ _ _ ⟨rfl,e,h,E,fun _ _=>rfl,fun _=>rfl,fun W=>e6.refl (I W)⟩)
 |exit i=>exact fun free r rd e a w K Q _ _ I h E J _=>wpIn_exit (J _ _ _ ⟨rfl,e,h,E,fun _ _=>rfl,fun _=>rfl,fun W=>e6.refl (I W)⟩)
 |goto l=>exact fun free r rd e a w K Q _ _ I h E J _=>h.elim
 |refuse s=>exact fun free r rd e a w K Q _ _ I h E J _=>h.elim
 |region id ops ap=>
  intro free r rd e a w K Q O X I h E J Y;simp only[wf,V7] at O;have ak:∀ o∈ops.toList,∀ t,o.dst=some t→t∈kW ops.toList:=fun o aq t ab=>Al ab _ aq;simp only[dS] at h;cases ap with
  |false=>exact zX ak O.1 h E fun a' w' U=>J _ _ _ (uX I U)
  |true=>
   simp only[Y7,Bool.false_or] at O;exact Ac hm O.2 Y ak O.1 (fun w' h1 Z aa=>h w' h1 Z aa) E fun a' w' U=>J _ _ _ (uX I U)
 |seq x y af ag=>exact Am af ag
 |cond c x y af ag=>
  intro free r rd e a w K Q O X I h E J Y;simp only[wf,V7] at O;have al:∀ ex a' w',j3 N free (gO free x) K (cV x) a w ex a' w'→Q ex a' w':=fun ex a' w' U=>J ex a' w' (by
   obtain⟨ae,ac,h1,Z,aa,ad,ah⟩:=U;exact⟨ae,ac,h1,Z,fun t ab=>aa t fun h=>ab (by simp[cV,h]),(fun h=>ad (u0 _ _ _ h)),ah⟩)
  have am:∀ ex a' w',j3 N free (gO free y) K (cV y) a w ex a' w'→Q ex a' w':=fun ex a' w' U=>J ex a' w' (by
   obtain⟨ae,ac,h1,Z,aa,ad,ah⟩:=U;exact⟨ae,ac,h1,Z,fun t ab=>aa t fun h=>ab (by simp[cV,h]),(fun h=>ad (u1 _ _ _ h)),ah⟩)
  simp only[dS] at h;cases V:dM e c with
  |none=>rw[V] at h;exact h.elim
  |some v=>
   rw[V] at h;cases v with
   |b t=>
    cases t with
    |true=>exact wpIn_cond (t:=true) (E.dM V) (af free r rd e a w K Q O.1 X I h E al Y)
    |false=>exact wpIn_cond (t:=false) (E.dM V) (ag free r rd e a w K Q O.2 X I h E am Y)
   |v z=>
    obtain⟨t,au,ab,W⟩:=h;refine wpIn_cond (t:=t) ((E.dM V).trans au) ?_;cases t with
    |true=>exact af free r rd e a w K Q O.1 X I (ab rfl) E al Y
    |false=>exact ag free r rd e a w K Q O.2 X I (W rfl) E am Y
   |u=>exact h.elim
 |block id c V=>
  intro free r rd e a w K Q O X I h E J Y;simp only[wf] at O;simp only[dS] at h;refine wpIn_block (V free r rd e a w _ _ O X I h E ?_ fun ao a w ai=>Y ao a w ai);intro ex a' w' U;obtain⟨ae,ac,h1,Z,aa,ad⟩:=U;cases ex with
  |exit i=>
   simp only[Exit.inBlock];simp only at h1;by_cases hi:i=id
   ·rw[if_pos hi];rw[hi,Nat.beq_refl] at h1;exact J _ _ _ ⟨rfl,ac,h1,Z,aa,ad⟩
   ·rw[if_neg hi];have:Nat.beq i id=false:=by
     cases aj:Nat.beq i id with
     |true=>exact absurd (Nat.eq_of_beq_eq_true aj) hi
     |false=>rfl
    rw[this] at h1;exact J _ _ _ ⟨rfl,ac,h1,Z,aa,ad⟩
  |_=>exact J _ _ _ ⟨ae,ac,h1,Z,aa,ad⟩
 |loop c V=>exact An V
 |scope c V=>
  intro free r rd e a w K Q O X I h E J Y;exact Aq (V free r rd e a w K (fun ex a' w'=>iy ex=true∧Q ex a' w') O X I h E (fun ex a' w' U=>⟨U.1,J ex a' w' U⟩) fun ao a w ai=>by cases ai.1)
 |rangeFunc f aw ax body av aj=>exact Ao av aj
def j7:Nat→List x4→Env
 |_,[]=>[]
 |i,v::r=>(i,.v v)::j7 (i+1) r
def kY (P:X5) (e:Env) (w:x5):List ResultVar→(List x4→Prop)→Prop
 |[],K=>K []
 | .tmp t::r,K=>match look e t with
  |some x=>kY P e w r fun vs=>K (x.val::vs)
  |none=>False
 | .cell a t::r,K=>match look e a with
  |some x=>I P (do loadVar t (←asAddr x.val)) w fun v=>kY P e w r fun vs=>K (v::vs)
  |none=>False
def qI:List x4→x4
 |[v]=>v
 |vs=>.tuple vs.toArray
def kZ (P:X5) (E:List ResultVar) (marks:Bool) (Q:x4→x5→Prop):Exit→Env→x5→Prop
 | .normal,e,w| .ret,e,w=>kY P e w E fun vs=>bif marks then fy w fun w'=>Q (qI vs) w' else Q (qI vs) w
 |_,_,_=>False
def mb:List ResultVar→List Nat
 |[]=>[]
 | .tmp t::r=>t::mb r
 | .cell a _::r=>a::mb r
theorem u2:∀ (vs:List x4) (i t:Nat) (x:ee),look (j7 i vs) t=some x→ ∃ j v,t=i+j∧vs[j]? =some v∧x= .v v
 |[],_,_,_,h=>by cases h
 |v::r,i,t,x,h=>by
  simp only[j7,look] at h;cases E:Nat.beq i t with
  |true=>
   rw[E] at h;simp only[cond_true,Z9] at h;exact⟨0,v,by rw[Nat.eq_of_beq_eq_true E];rfl,rfl,h.symm⟩
  |false=>
   rw[E] at h;obtain⟨j,u,h1,I,J⟩:=u2 r (i+1) t x h;exact⟨j+1,u,by omega,by simpa using I,J⟩
theorem sL {n:Nat} (vs:List x4) (h:vs.length≤n):U3 n (j7 0 vs) {tmps:=vs.toArray++Array.replicate (n-vs.toArray.size) undef,defers:=[]}:=by
 refine⟨by simp;omega,fun t x I=>?_⟩;obtain⟨j,v,h1,E,rfl⟩:=u2 vs 0 t x I;have h1:t=j:=by omega
 subst h1;have J:t<vs.length:=(u4.1 E).1;rw[Array.getD_eq_getD_getElem?,Array.getElem?_append_left (by simpa using J)];simp[E,ee.val]
def qJ (E:Array x4):ResultVar→Sem x4
 | .tmp t=>pure (E.getD t undef)
 | .cell b t=>do loadVar t (←asAddr (E.getD b undef))
theorem Ar (fn:Func) (E:Array x4):results fn E=(do let vs ←fn.results.mapM (qJ E);pure (if h:vs.size=1 then vs[0] else .tuple vs)):=by
 unfold results;congr 2
theorem sM {e:Env} {a:Act} {w:x5} (I:U3 N e a):∀ (J:List ResultVar) (K:List x4→Prop),kY P e w J K→
  ∃ vs,K vs∧vs.length=J.length∧ ∀ w',Ext w w'→(J.mapM (qJ a.tmps)).run P w'= .ok vs w'
 |[],K,h=>⟨[],h,rfl,fun w' _=>by simp[X0]⟩
 | .tmp t::r,K,h=>by
  simp only[kY] at h;cases E:look e t with
  |none=>rw[E] at h;exact h.elim
  |some x=>
   rw[E] at h;obtain⟨vs,h1,O,U⟩:=sM I r _ h;refine⟨x.val::vs,h1,by simp[O],fun w' hw=>?_⟩;rw[List.mapM_cons];simp only[qJ,Y4,X0,Y6,U w' hw,I.2 t x E]
 | .cell b t::r,K,h=>by
  simp only[kY] at h;cases E:look e b with
  |none=>rw[E] at h;exact h.elim
  |some x=>
   rw[E] at h;obtain⟨v,V,h⟩:=h;obtain⟨vs,h1,O,U⟩:=sM I r _ h;refine⟨v::vs,h1,by simp[O],fun w' hw=>?_⟩;rw[List.mapM_cons];have:=V w' hw;rw[←I.2 b x E] at this;rw[qJ,Y4,this];simp only[Y6,Y4,U w' hw,X0]
theorem sN {fn:Func} {e:Env} {a:Act} {w:x5} (I:U3 N e a) {K:List x4→Prop} (h:kY P e w fn.results.toList K):
  ∃ vs,K vs∧ ∀ w',Ext w w'→(results fn a.tmps).run P w'= .ok (qI vs) w':=by
 obtain⟨vs,h1,J,E⟩:=sM I _ _ h;refine⟨vs,h1,fun w' hw=>?_⟩;have E:=E w' hw;rw[Ar,Y4,Array.mapM_eq_mapM_toList,map_eq_pure_bind,Y4,E];simp only[Y6,X0];cases vs with
 |nil=>rfl
 |cons v r=>
  cases r with
  |nil=>rfl
  |cons u r=>simp[qI]
theorem u3 {fn:Func} {tmps:Array x4} {R:Ending→x5→Prop}:∀ (E:List Nat) (w:x5),E.Nodup→(∀ D∈E,w.heap[D]? =some (.deferred (some [])))→
  (∀ w',Ext w w'→Ext w' w→w'.os=w.os→iq w w'→w'.output=w.output→w.heap.size=w'.heap.size→
   (∀ r,r∉E→w'.heap[r]? =w.heap[r]?)→ ∃ v,(results fn tmps).run P w'= .ok v w'∧R (.returned v) w')→
  LeavesInM Fence.wide 0 P fn tmps R (E.map hP) .returning w
 |[],w,_,_,h=>by
  obtain⟨v,h1,I⟩:=h w (Ext.refl _) (Ext.refl _) rfl .ir rfl rfl fun _ _=>rfl;exact⟨v,h1,I⟩
 |D::E,w,J,O,h=>by
  rw[List.nodup_cons] at J;have U:=O D (.head _);refine⟨by simp,.inl ⟨D,_,rfl,run_takeDeferred U,?_⟩⟩;refine u3 E _ J.2 (fun X V=>?_) fun w' h1 I Y Z aa ab ac=>?_
  ·rw[x5.putObj_heap_other (fun he=>J.1 (by rw[←he];exact V))];exact O X (.tail _ V)
  ·refine h w' ((nM U rfl _).trans h1) (I.trans (uW rfl)) Y Z aa (by simpa using ab) fun r W=>?_;rw[ac r fun hm=>W (.tail _ hm),x5.putObj_heap_other fun he=>W (by rw[he];exact .head _)]
theorem O.enter (hm:P.follows .mixedOrders=true) {f:FuncId} {fn:Func} {c:Code} (W:P.funcs[f]? =some fn) (X:fn.body=some c) (af:(fn.name == "runtime.NumGoroutine")=false)
  (ag:wf fn.ntmps c=true) {args:List x4} (ah:Nat.ble args.length fn.ntmps=true) {w:x5} {Q:x4→x5→Prop}
  (h:dS P fn.ntmps (false,w.heap.size) c (mb fn.results.toList) (j7 0 args) w (kZ P fn.results.toList true Q)):O P f args w Q:=by
 refine .code (Enters.of P W X af) (callsIn_wide (n:=0).1 (callsIn_of_wp_marks W X trivial ?_));have ai:=sL (n:=fn.ntmps) args (Nat.le_of_ble_eq_true ah);refine wpIn_mono (Q:=fun ex a' w'=>iy ex=true∧bodyPostM Fence.wide 0 P fn (fun e w'=>∃ v,e= .returned v∧cO w w'∧Q v w') ex a' w') ?_ fun _ _ _ h=>h.2;refine sound hm c (false,w.heap.size) none _ _ _ w _ _ ag (fun l aj=>by cases aj) (fun _=>⟨[],rfl,List.nodup_nil,fun D J=>by cases J⟩) h ai ?_ (fun _ _ _ h=>by cases h.1)
 ·intro ex a' w' ak;obtain⟨al,am,I,ao,_,_,ap⟩:=ak;obtain⟨E,⟨U,Y,aq,J⟩,au,av,aw⟩:=ap rfl;have ax:∀ D∈U,w.heap.size≤D:=by
   intro D ay;have h1:hP D∈au.map hP:=by
    have:hP D∈U.map hP:=l9.2 ⟨D,ay,rfl⟩;rw[←Y,av] at this;simpa using this
   obtain⟨Z,V,az⟩:=l9.1 h1;have:Z=D:=by simpa[hP] using az
   exact this▸aw Z V
  have aa:kZ P fn.results.toList true Q .ret am w'→LeavesInM Fence.wide 0 P fn a'.tmps (fun e ab=>∃ v,e= .returned v∧cO w ab∧Q v ab) a'.defers .returning w':=by
   intro I;rw[Y];obtain⟨vs,h1,V⟩:=sN (fn:=fn) ao I;refine u3 U w' aq J fun ac ad aA aB aC aD aE aF=>⟨_,V ac ad,_,rfl,?_,h1 ac ad aA⟩;have E:=E.da (o7 _);refine⟨aB.trans E.os,aC.trans E.tape,aD.trans E.output,by rw[←aE];exact E.size,fun r o ae aG=>?_⟩;have aH:=(l6.1 ae).1;rw[aF r fun hm=>by have:=ax r hm;omega];exact E.bz r o ae aG
  cases ex with
  |normal=>exact⟨rfl,aa I⟩
  |ret=>exact⟨rfl,aa I⟩
  |exit id=>exact I.elim
  |_=>cases al
theorem O.As (hm:P.follows .mixedOrders=true) {f:FuncId} {fn:Func} {c:Code} (I:P.funcs[f]? =some fn) (J:fn.body=some c) (W:(fn.name == "runtime.NumGoroutine")=false)
  (X:wf fn.ntmps c=true) {args:List x4} (Y:Nat.ble args.length fn.ntmps=true) (Z:hL c=false) {w:x5} {Q:x4→x5→Prop}
  (h:dS P fn.ntmps (false,w.heap.size) c (mb fn.results.toList) (j7 0 args) w (kZ P fn.results.toList false Q)):O P f args w Q:=by
 refine .code (Enters.of P I J W) (callsIn_wide (n:=0).1 (callsIn_of_wp I J trivial ?_));have aa:=sL (n:=fn.ntmps) args (Nat.le_of_ble_eq_true Y);refine wpIn_mono (Q:=fun ex a' w'=>iy ex=true∧bodyPost P fn (fun e w'=>∃ v,e= .returned v∧cO w w'∧Q v w') ex a' w') ?_ fun _ _ _ h=>h.2;refine sound hm c (false,w.heap.size) none _ _ _ w _ _ X (fun l ab=>by cases ab) (fun _=>⟨[],rfl,List.nodup_nil,fun D ac=>by cases ac⟩) h aa ?_ (fun _ _ _ h=>by cases h.1);intro ex a' w' ad;obtain⟨ae,af,E,ag,_,ah,ai⟩:=ad;have aj:a'.defers=[]:=ah (by simp[gO,Z]);have U:kZ P fn.results.toList false Q .ret af w'→a'.defers=[]∧ ∃ v,(results fn a'.tmps).run P w'= .ok v w'∧ ∃ V,Ending.returned v= .returned V∧cO w w'∧Q V w':=by
  intro E;obtain⟨vs,h1,ak⟩:=sN (fn:=fn) ag E;exact⟨aj,_,ak w' (Ext.refl _),_,rfl,(ai rfl).1.da (o7 _),h1⟩
 cases ex with
 |normal=>exact⟨rfl,U E⟩
 |ret=>exact⟨rfl,U E⟩
 |exit id=>exact E.elim
 |_=>cases ae
theorem ey.enter (hm:P.follows .mixedOrders=true) {f:FuncId} {fn:Func} {c:Code} (I:P.funcs[f]? =some fn) (J:fn.body=some c) (V:(fn.name == "runtime.NumGoroutine")=false)
  (W:wf fn.ntmps c=true) {args:List x4} (X:Nat.ble args.length fn.ntmps=true) {w:x5} {Q:x4→x5→Prop}
  (h:dS P fn.ntmps (true,0) c (mb fn.results.toList) (j7 0 args) w (kZ P fn.results.toList false Q)):ey P f args w Q:=by
 refine .code (Enters.of P I J V) (callsIn_wide (n:=0).1 (callsIn_of_wp I J trivial ?_));have Y:=sL (n:=fn.ntmps) args (Nat.le_of_ble_eq_true X);refine wpIn_mono (Q:=fun ex a' w'=>iy ex=true∧bodyPost P fn (fun e w'=>∃ v,e= .returned v∧Q v w') ex a' w') ?_ fun _ _ _ h=>h.2;refine sound hm c (true,0) none _ _ _ w _ _ W (fun l Z=>by cases Z) (fun h=>by cases h) h Y ?_ (fun _ _ _ h=>by cases h.1);intro ex a' w' aa;obtain⟨ab,ac,E,ad,_,ae,ah⟩:=aa;have af:a'.defers=[]:=ae rfl;have O:kZ P fn.results.toList false Q .ret ac w'→a'.defers=[]∧ ∃ v,(results fn a'.tmps).run P w'= .ok v w'∧ ∃ U,Ending.returned v= .returned U∧Q U w':=by
  intro E;obtain⟨vs,h1,ag⟩:=sN (fn:=fn) ad E;exact⟨af,_,ag w' (Ext.refl _),_,rfl,h1⟩
 cases ex with
 |normal=>exact⟨rfl,O E⟩
 |ret=>exact⟨rfl,O E⟩
 |exit id=>exact E.elim
 |_=>cases ab
end
end Go.Vc
namespace Go.Proofs.YtgbkinibgjmodaaGreatDoor
open Go Go.Vc Go.RowKit Go.Proofs Go.Proofs.Tryz
set_option maxRecDepth 100000
theorem mixed:y0.follows .mixedOrders=true:=by kernel_rfl
def qK:Nat:=10
def nN:Nat:=11
def mc:Nat:=12
def j8:Nat:=13
def gP:Nat:=14
def nO:Nat:=15
def jn:Nat:=16
def ff:Nat:=18
def hQ:Nat:=19
def nP:Nat:=20
def gq:Nat:=22
def jo:Nat:=31
def ka:Nat:=33
def nQ:Nat:=40
def md:Nat:=42
def me:Nat:=43
def nR:Nat:=44
def nS:Nat:=47
def kb:Nat:=48
def eT:Nat:=49
def hh:Nat:=50
def nT:Nat:=51
def iz:Nat:=52
def jp:Nat:=53
def kc:Nat:=54
def nU:Nat:=55
def nV:Nat:=56
def nW:Nat:=57
def nX:Nat:=58
def gQ:Nat:=59
def iA:Nat:=60
def jq:Nat:=61
def jr:Nat:=62
def gR:Nat:=63
def nY:Nat:=64
def fg:Nat:=65
def nZ:Nat:=66
def n1:Nat:=67
def n2:Nat:=68
def n3:Nat:=69
def n4:Nat:=70
def n5:Nat:=71
def js:Nat:=72
def gS:Nat:=73
def fV:Nat:=74
def iB:Nat:=75
def n7:Nat:=76
def mf:Nat:=77
def n8:Nat:=78
def mg:Nat:=79
def jt:Nat:=80
def oa:Nat:=81
def k0:Nat:=89
def k1:Nat:=90
def ob:Nat:=91
def hR:Nat:=103
def oc:Nat:=113
def mh:Nat:=114
def Au:Nat:=115
def kd:Nat:=116
def mi:Nat:=117
def va:Nat:=118
def Av:Nat:=119
def qL:Nat:=120
def ke:Nat:=121
def Aw:Nat:=122
def Ax:Nat:=123
def od:Nat:=124
def Ay:Nat:=126
def oe:Nat:=127
def og:Nat:=128
def ju:Nat:=129
def mj:Nat:=130
def iC:Nat:=131
def kf:Nat:=132
def ml:Nat:=133
def oh:Nat:=134
def oi:Nat:=135
def vb:Nat:=136
def kg:Nat:=137
def oj:Nat:=138
def hS:Nat:=139
def hT:Nat:=140
def jv:Nat:=141
def Az:Nat:=142
def k2:Nat:=143
def AA:Nat:=144
def k3:Nat:=145
def kh:Nat:=146
def ki:Nat:=147
def fz:Nat:=148
def ez:Nat:=149
def ef:Nat:=150
def mm:Nat:=151
def iD:Nat:=152
def fh:Nat:=153
def jw:Nat:=154
def k4:Nat:=155
def ol:Nat:=156
def mn:Nat:=157
def fW:Nat:=158
def en:Nat:=159
def mo:Nat:=160
def fA:Nat:=161
def om:Nat:=162
def mq:Nat:=163
def hj:Nat:=164
def oo:Nat:=165
def mr:Nat:=166
def hU:Nat:=167
def kj:Nat:=170
def oq:Nat:=171
def mu:Nat:=172
def iE:Nat:=173
def mv:Nat:=174
def ot:Nat:=181
def cmp_isNaN_int:Nat:=182
def mw:Nat:=183
def gr:Nat:=187
def ou:Nat:=188
def kk:Nat:=191
def ov:Nat:=192
def ow:Nat:=193
def my:Nat:=194
def hV:Nat:=196
def ox:Nat:=197
def oy:Nat:=198
def k5:Nat:=199
def mz:Nat:=200
def oz:Nat:=201
def oA:Nat:=202
def oB:Nat:=203
def mA:Nat:=204
def fB:Nat:=205
def mB:Nat:=206
def oC:Nat:=207
def iF:Nat:=208
def oD:Nat:=209
def oE:Nat:=210
def kl:Nat:=211
def mC:Nat:=212
def mD:Nat:=213
def jx:Nat:=214
def oF:Nat:=215
def k6:Nat:=216
def oG:Nat:=217
def vc:Nat:=218
def mE:Nat:=219
def oH:Nat:=220
def mF:Nat:=221
def oI:Nat:=222
def mG:Nat:=223
def mH:Nat:=224
def mI:Nat:=225
def mJ:Nat:=226
def km:Nat:=227
def oJ:Nat:=228
def k7:Nat:=238
def oK:Nat:=240
def oL:Nat:=242
def k8:Nat:=243
def ko:Nat:=244
def oM:Nat:=245
def k9:Nat:=246
def oN:Nat:=247
def oO:Nat:=248
def la:Nat:=249
def oP:Nat:=250
def lb:Nat:=251
def kp:Nat:=252
def kq:Nat:=253
def mK:Nat:=254
def mL:Nat:=255
def oQ:Nat:=256
def oR:Nat:=257
def oS:Nat:=258
def ld:Nat:=259
def mM:Nat:=260
def qM:Nat:=261
def hl:Nat:=263
def mN:Nat:=264
def oT:Nat:=265
def oU:Nat:=266
def oV:Nat:=267
def oW:Nat:=268
def oX:Nat:=269
def qN:Nat:=271
def oY:Nat:=277
def qO:Nat:=278
def oZ:Nat:=279
def qP:Nat:=280
def o0:Nat:=281
def o1:Nat:=282
def hW:Nat:=283
def mO:Nat:=284
def jy:Nat:=285
def o2:Nat:=286
def pa:Nat:=295
def pb:Nat:=296
def pc:Nat:=297
def vd:Nat:=298
def gu:Nat:=299
def pd:Nat:=300
def pe:Nat:=302
def pf:Nat:=303
def pg:Nat:=304
def mP:Nat:=305
def mQ:Nat:=309
def mR:Nat:=310
def ph:Nat:=312
def pi:Nat:=313
def pj:Nat:=314
def AB:Nat:=315
def pk:Nat:=316
def AC:Nat:=317
def AD:Nat:=318
def AE:Nat:=319
def AF:Nat:=320
def AG:Nat:=321
def cmp_Less_int:Nat:=322
def AH:Nat:=323
def AI:Nat:=324
def qQ:Nat:=334
def qR:Nat:=335
def qS:Nat:=0
def af:Nat:=2
def J:Nat:=3
def gT:Nat:=4
def bi:Nat:=5
def a1:Nat:=9
def aX:Nat:=22
def bI:Nat:=25
def ab:Nat:=26
def cz:Nat:=27
def fM:Nat:=28
def b5:Nat:=29
def dX:Nat:=30
def a6:Nat:=33
def bJ:Nat:=37
def bG:Nat:=39
def bk:Nat:=41
def ae:Nat:=68
def aE:Nat:=70
def gv:Nat:=72
def dl:Nat:=92
def dE:Nat:=95
def eo:Nat:=98
def mS:Nat:=111
def qT:Nat:=114
def bo:Nat:=120
def bX:Nat:=122
def dm:Nat:=125
def bc:Nat:=126
def aM:Nat:=128
def aK:Nat:=136
def cj:Nat:=138
def bB:Nat:=147
def ve:Nat:=153
def lf:Nat:=197
def cP:Nat:=200
def dz:Nat:=201
def bn:Nat:=203
def e7:Nat:=208
def eg:Nat:=209
def bf:Nat:=211
def bO:Nat:=217
def bg:Nat:=219
def b6:Nat:=220
def bj:Nat:=222
def cA:Nat:=224
def bY:Nat:=228
def aN:Nat:=230
def b3:Nat:=232
def bp:Nat:=234
def cp:Nat:=238
def aF:Nat:=240
def ep:Nat:=245
def cK:Nat:=247
def fi:Nat:=250
def dn:Nat:=252
def gw:Nat:=253
def kr:Nat:=254
def cX:Nat:=256
def dY:Nat:=258
def du:Nat:=260
def iG:Nat:=262
def bq:Nat:=271
def hn:Nat:=278
def dv:Nat:=290
def fX:Nat:=296
def cB:Nat:=301
def bA:Nat:=304
def cY:Nat:=306
def bE:Nat:=311
def dD:Nat:=320
def cL:Nat:=322
def ho:Nat:=323
def dp:Nat:=326
def vf:Nat:=332
def cZ:Nat:=340
def eA:Nat:=343
def dA:Nat:=345
def bl:Nat:=347
def fj:Nat:=363
def er:Nat:=365
def fY:Nat:=394
def gU:Nat:=409
def pm:Nat:=426
abbrev aT:=x4→x5→Prop
abbrev dF:=x5→Prop
theorem aD {f:FuncId} {fn:Func} {c:Code} (I:y0.funcs[f]? =some fn) (J:fn.body=some c) {args:List x4} (E:(!(fn.name == "runtime.NumGoroutine")&&wf fn.ntmps c&&Nat.ble args.length fn.ntmps&& !hL c)=true)
  {w:x5} {Q:x4→x5→Prop} {B:Prop} (e:B=dS y0 fn.ntmps (false,w.heap.size) c (mb fn.results.toList) (j7 0 args) w (kZ y0 fn.results.toList false Q)) (h:B):O y0 f args w Q:=by
 simp only[V7,Bool.not_eq_true'] at E;exact O.As mixed I J E.1.1.1 E.1.1.2 E.1.2 E.2 (e▸h)
section
variable {Z:x5} {ac:aT} {V an bb cQ jz lg lh li lj lk ll lm:x4}
theorem qK.enter (h:O y0 nN [] Z fun bL ax=>I y0 (Z4 .not bL) ax fun bM=>Split bM (ac (.bool false) ax) (O y0 mc [V] ax fun ay aj=>I y0 (x8 ay 0) aj fun W=>I y0 (x8 ay 1) aj fun bN=>I y0 (x8 ay 2) aj fun bO=>aa y0 (n0 a6 true (.tuple #[])) aj fun x bP=>aa y0 (x6 a6 x bN) bP fun _ bQ=>O y0 iz [(.pointer none),an,bb] bQ fun bg az=>I y0 (x8 bg 0) az fun _=>I y0 (x8 bg 1) az fun bR=>O y0 jp [(.pointer none),cQ,(.slice none 0 0)] az fun bh aA=>I y0 (x8 bh 0) aA fun _=>I y0 (x8 bh 1) aA fun t46=>O y0 kc [(.pointer none),(.slice none 0 0),(.pointer none)] aA fun bi aC=>I y0 (x8 bi 0) aC fun _=>I y0 (x8 bi 1) aC fun bS=>O y0 jn [(.pointer none),(.slice none 0 0)] aC fun bj ag=>I y0 (x8 bj 0) ag fun _=>I y0 (x8 bj 1) ag fun bT=>@aB aT (fun bU ah=>Split bU (ac (.bool false) ah) (I y0 (Z4 .not bO) ah fun bV=>Split bV (I y0 (U .eql bI false true W (.pointer none)) ah fun bW=>ac bW ah) (O y0 iz [W,an,bb] ah fun bk ak=>I y0 (x8 bk 0) ak fun _=>I y0 (x8 bk 1) ak fun bl=>@aB aT (fun right bX=>aa y0 (u9 ab 2 #[(0,(.int .i64 0)),(1,(.int .i64 1))]) bX fun bY bZ=>O y0 kc [W,bY,(.pointer none)] bZ fun bm Y=>I y0 (x8 bm 0) Y fun _=>I y0 (x8 bm 1) Y fun bn=>@aB aT (fun b1 b2=>ac b1 b2) fun E=>I y0 (U .eql bJ false true bl (.int .i64 0)) Y fun b3=>I y0 (U .eql gT false false b3 right) Y fun b4=>Split b4 (Split right (I y0 (U .eql bJ false true bn (.int .i64 1)) Y fun b5=>Split b5 (I y0 (x1 a6 x) Y fun b6=>O y0 ka [b6,an] Y fun b7 aE=>Split b7 (I y0 (x1 a6 x) aE fun b8=>O y0 jo [b8,cQ] aE fun b9 bo=>Split b9 (aa y0 (u9 ab 1 #[(0,(.int .i64 99))]) bo fun ca cb=>O y0 fg [W,ca] cb fun cc aF=>I y0 (U .eql J false true cc (.int .i64 (-1))) aF fun cd=>Split cd (O y0 eT [W] aF fun ce bp=>I y0 (U .neq dl false true ce (.pointer none)) bp fun cg=>E cg bp) (E (.bool false) aF)) (O y0 ff [W,cQ] bo fun ch aG=>I y0 (Z4 .not ch) aG fun ci=>Split ci (O y0 hh [W,cQ] aG fun cj al=>I y0 (u6 #[ab] J #[cj]) al fun ck=>I y0 (U .eql J false true ck (.int .i64 0)) al fun cl=>Split cl (aa y0 (u9 ab 1 #[(0,(.int .i64 99))]) al fun cm cn=>O y0 fg [W,cm] cn fun cp aH=>I y0 (U .eql J false true cp (.int .i64 (-1))) aH fun cq=>Split cq (O y0 eT [W] aH fun cr bq=>I y0 (U .neq dl false true cr (.pointer none)) bq fun ct=>E ct bq) (E (.bool false) aH)) (E (.bool false) al)) (E (.bool false) aG))) (O y0 gP [W,an] aE fun cu cw=>O y0 jr [cu] cw fun cz aI=>I y0 (U .eql J false true cz (.int .i64 0)) aI fun cA=>Split cA (O y0 gR [W,an] aI fun cB am=>I y0 (Z4 .not cB) am fun cC=>Split cC (I y0 (x1 a6 x) am fun cD=>O y0 jo [cD,cQ] am fun cE br=>Split cE (aa y0 (u9 ab 1 #[(0,(.int .i64 99))]) br fun cF cG=>O y0 fg [W,cF] cG fun cH aJ=>I y0 (U .eql J false true cH (.int .i64 (-1))) aJ fun cI=>Split cI (O y0 eT [W] aJ fun cJ bt=>I y0 (U .neq dl false true cJ (.pointer none)) bt fun cK=>E cK bt) (E (.bool false) aJ)) (O y0 ff [W,cQ] br fun cL aK=>I y0 (Z4 .not cL) aK fun cM=>Split cM (O y0 hh [W,cQ] aK fun cN ao=>I y0 (u6 #[ab] J #[cN]) ao fun cO=>I y0 (U .eql J false true cO (.int .i64 0)) ao fun cP=>Split cP (aa y0 (u9 ab 1 #[(0,(.int .i64 99))]) ao fun cR cS=>O y0 fg [W,cR] cS fun cT aL=>I y0 (U .eql J false true cT (.int .i64 (-1))) aL fun cU=>Split cU (O y0 eT [W] aL fun cV bu=>I y0 (U .neq dl false true cV (.pointer none)) bu fun cW=>E cW bu) (E (.bool false) aL)) (E (.bool false) ao)) (E (.bool false) aK))) (E (.bool false) am)) (E (.bool false) aI))) (E (.bool false) Y)) (I y0 (U .eql bJ false true bl (.int .i64 1)) Y fun cX=>Split cX (I y0 (U .eql bJ false true bn (.int .i64 1)) Y fun cY=>Split cY (I y0 (x1 a6 x) Y fun cZ=>O y0 ka [cZ,an] Y fun c0 aM=>Split c0 (I y0 (x1 a6 x) aM fun c1=>O y0 jo [c1,cQ] aM fun c2 bw=>Split c2 (aa y0 (u9 ab 1 #[(0,(.int .i64 99))]) bw fun c3 c4=>O y0 fg [W,c3] c4 fun c5 aN=>I y0 (U .eql J false true c5 (.int .i64 (-1))) aN fun c6=>Split c6 (O y0 eT [W] aN fun c7 bx=>I y0 (U .neq dl false true c7 (.pointer none)) bx fun c8=>E c8 bx) (E (.bool false) aN)) (O y0 ff [W,cQ] bw fun c9 aO=>I y0 (Z4 .not c9) aO fun da=>Split da (O y0 hh [W,cQ] aO fun db ap=>I y0 (u6 #[ab] J #[db]) ap fun dc=>I y0 (U .eql J false true dc (.int .i64 0)) ap fun dd=>Split dd (aa y0 (u9 ab 1 #[(0,(.int .i64 99))]) ap fun de df=>O y0 fg [W,de] df fun dg aP=>I y0 (U .eql J false true dg (.int .i64 (-1))) aP fun dh=>Split dh (O y0 eT [W] aP fun di bz=>I y0 (U .neq dl false true di (.pointer none)) bz fun dj=>E dj bz) (E (.bool false) aP)) (E (.bool false) ap)) (E (.bool false) aO))) (O y0 gP [W,an] aM fun dk dm=>O y0 jr [dk] dm fun dn aQ=>I y0 (U .eql J false true dn (.int .i64 0)) aQ fun dp=>Split dp (O y0 gR [W,an] aQ fun dq aq=>I y0 (Z4 .not dq) aq fun dr=>Split dr (I y0 (x1 a6 x) aq fun ds=>O y0 jo [ds,cQ] aq fun dt bA=>Split dt (aa y0 (u9 ab 1 #[(0,(.int .i64 99))]) bA fun du dv=>O y0 fg [W,du] dv fun dw aR=>I y0 (U .eql J false true dw (.int .i64 (-1))) aR fun dx=>Split dx (O y0 eT [W] aR fun dy bB=>I y0 (U .neq dl false true dy (.pointer none)) bB fun dz=>E dz bB) (E (.bool false) aR)) (O y0 ff [W,cQ] bA fun dA aS=>I y0 (Z4 .not dA) aS fun dB=>Split dB (O y0 hh [W,cQ] aS fun dC au=>I y0 (u6 #[ab] J #[dC]) au fun dD=>I y0 (U .eql J false true dD (.int .i64 0)) au fun dF=>Split dF (aa y0 (u9 ab 1 #[(0,(.int .i64 99))]) au fun dG dH=>O y0 fg [W,dG] dH fun dI aU=>I y0 (U .eql J false true dI (.int .i64 (-1))) aU fun dJ=>Split dJ (O y0 eT [W] aU fun dK bC=>I y0 (U .neq dl false true dK (.pointer none)) bC fun dL=>E dL bC) (E (.bool false) aU)) (E (.bool false) au)) (E (.bool false) aS))) (E (.bool false) aq)) (E (.bool false) aQ))) (E (.bool false) Y)) (E (.bool false) Y))) (E (.bool false) Y)) fun aV=>I y0 (x1 a6 x) ak fun dM=>O y0 ka [dM,an] ak fun dN ad=>Split dN (I y0 (U .geq J false true bb (.int .i64 0)) ad fun dO=>Split dO (I y0 (x2 a6 x 1) ad fun dP=>I y0 (x1 ab dP) ad fun dQ=>I y0 (x2 a6 x 1) ad fun dR=>I y0 (x1 ab dR) ad fun dS=>I y0 (u6 #[ab] J #[dS]) ad fun dT=>I y0 (U .sub J false true dT (.int .i64 1)) ad fun dU=>I y0 (T1 #[J,J] J #[an,dU]) ad fun dV=>I y0 (u7.max_ #[J,J] J #[dV,(.int .i64 0)]) ad fun dW=>I y0 (x7 ab dQ dW) ad fun dX=>I y0 (x1 J dX) ad fun dY=>I y0 (U .lss J false false bb dY) ad fun dZ=>aV dZ ad) (aV (.bool false) ad)) (aV (.bool false) ad)))) fun X=>I y0 (U .neq bJ false true bR (.int .i64 2)) ag fun ea=>Split ea (X (.bool true) ag) (I y0 (U .neq bJ false true t46 (.int .i64 2)) ag fun eb=>Split eb (X (.bool true) ag) (I y0 (U .neq bJ false true bS (.int .i64 2)) ag fun ec=>Split ec (X (.bool true) ag) (I y0 (U .neq bJ false true bT (.int .i64 2)) ag fun ed=>Split ed (X (.bool true) ag) (O y0 nU [(.pointer none),(.int .i64 0)] ag fun ee aW=>I y0 (U .neq bJ false true ee (.int .i64 2)) aW fun ef=>Split ef (X (.bool true) aW) (O y0 nV [(.pointer none),an,bb,(.int .i64 0)] aW fun eg aX=>I y0 (U .neq bJ false true eg (.int .i64 2)) aX fun eh=>Split eh (X (.bool true) aX) (O y0 nW [(.pointer none),cQ,(.slice none 0 0),(.int .i64 0)] aX fun ei aY=>I y0 (U .neq bJ false true ei (.int .i64 2)) aY fun ej=>Split ej (X (.bool true) aY) (O y0 j8 [(.pointer none),an,bb] aY fun ek aZ=>I y0 (U .neq bJ false true ek (.int .i64 2)) aZ fun em=>Split em (X (.bool true) aZ) (O y0 nP [(.pointer none),cQ] aZ fun en av=>I y0 (U .neq bJ false true en (.int .i64 2)) av fun ep=>Split ep (X (.bool true) av) (I y0 (Z3 eo #[]) av fun er=>O y0 nX [(.pointer none),er] av fun es a1=>I y0 (U .neq bJ false true es (.int .i64 2)) a1 fun et=>Split et (X (.bool true) a1) (O y0 nS [(.pointer none),cQ] a1 fun eu a2=>I y0 (U .neq bJ false true eu (.int .i64 2)) a2 fun ev=>Split ev (X (.bool true) a2) (O y0 eT [(.pointer none)] a2 fun ew a7=>I y0 (U .neq dl false true ew (.pointer none)) a7 fun ey=>Split ey (X (.bool true) a7) (O y0 gQ [(.pointer none)] a7 fun ez a8=>I y0 (U .neq af false true ez (.int .i64 0)) a8 fun eA=>Split eA (X (.bool true) a8) (O y0 iA [(.pointer none)] a8 fun eB eC=>O y0 hQ [(.pointer none)] eC fun eD bD=>I y0 (U .add J false false eB eD) bD fun eE=>O y0 nQ [(.pointer none)] bD fun eF bE=>I y0 (U .add J false false eE eF) bE fun eG=>O y0 nR [(.pointer none)] bE fun eH aw=>I y0 (U .add J false false eG eH) aw fun eI=>I y0 (U .neq J false true eI (.int .i64 0)) aw fun eJ=>Split eJ (X (.bool true) aw) (O y0 jq [(.pointer none)] aw fun eK ba=>I y0 (U .neq af false true eK (.int .i64 0)) ba fun eL=>Split eL (X (.bool true) ba) (O y0 gP [(.pointer none),an] ba fun eM eN=>O y0 jr [eM] eN fun eO bc=>I y0 (U .neq J false true eO (.int .i64 0)) bc fun eP=>Split eP (X (.bool true) bc) (O y0 gR [(.pointer none),an] bc fun eQ bF=>Split eQ (X (.bool true) bF) (O y0 ff [(.pointer none),cQ] bF fun eR bG=>Split eR (X (.bool true) bG) (O y0 hh [(.pointer none),cQ] bG fun eS bH=>I y0 (u6 #[ab] J #[eS]) bH fun eU=>O y0 nY [(.pointer none),an] bH fun eV bd=>I y0 (u6 #[ab] J #[eV]) bd fun eW=>I y0 (U .add J false false eU eW) bd fun eX=>O y0 nT [(.pointer none)] bd fun eY be=>I y0 (u6 #[dE] J #[eY]) be fun eZ=>I y0 (U .add J false false eX eZ) be fun e0=>O y0 me [(.pointer none)] be fun e1 ai=>I y0 (u6 #[ae] J #[e1]) ai fun e2=>I y0 (U .add J false false e0 e2) ai fun e3=>I y0 (U .neq J false true e3 (.int .i64 0)) ai fun e4=>Split e4 (X (.bool true) ai) (O y0 fg [(.pointer none),(.slice none 0 0)] ai fun e5 bf=>I y0 (U .neq J false true e5 (.int .i64 (-1))) bf fun e6=>Split e6 (X (.bool true) bf) (O y0 kb [(.pointer none)] bf fun e7 bK=>I y0 (U .neq bI false true e7 (.pointer none)) bK fun e8=>X e8 bK)))))))))))))))))))))):O y0 qK [V,an,bb,cQ] Z ac:=aD Tryz.func10 rfl (by kernel_rfl) (by kernel_rfl) h
theorem nN.enter (h:aa y0 (u9 aX 30 #[(0,(.int .u8 116)),(1,(.int .u8 32)),(2,(.int .u8 50)),(3,(.int .u8 32)),(4,(.int .u8 50)),(5,(.int .u8 32)),(6,(.int .u8 49)),(7,(.int .u8 32)),(8,(.int .u8 57)),(9,(.int .u8 32)),(10,(.int .u8 50)),(11,(.int .u8 32)),(12,(.int .u8 50)),(13,(.int .u8 10)),(14,(.int .u8 50)),(15,(.int .u8 32)),(16,(.int .u8 48)),(17,(.int .u8 32)),(18,(.int .u8 49)),(19,(.int .u8 32)),(20,(.int .u8 48)),(21,(.int .u8 32)),(22,(.int .u8 49)),(23,(.int .u8 10)),(24,(.int .u8 49)),(25,(.int .u8 32)),(26,(.int .u8 49)),(27,(.int .u8 32)),(28,(.int .u8 53)),(29,(.int .u8 10))]) Z fun t9 aj=>aa y0 (convert aX aX t9) aj fun ak al=>O y0 mc [ak] al fun W J=>I y0 (x8 W 0) J fun X=>I y0 (x8 W 1) J fun am=>I y0 (x8 W 2) J fun ao=>aa y0 (n0 a6 true (.tuple #[])) J fun ap aq=>aa y0 (x6 a6 ap am) aq fun _ Y=>@aB aT (fun au ae=>Split au (ac (.bool false) ae) (aa y0 (u9 ab 2 #[(0,(.int .i64 1)),(1,(.int .i64 1))]) ae fun av aw=>O y0 jn [X,av] aw fun t25 ad=>I y0 (x8 t25 0) ad fun ax=>I y0 (x8 t25 1) ad fun ay=>aa y0 (u9 ab 2 #[(0,(.int .i64 1)),(1,(.int .i64 0))]) ad fun az aA=>O y0 jn [X,az] aA fun ag E=>I y0 (x8 ag 0) E fun aC=>I y0 (x8 ag 1) E fun aE=>@aB aT (fun t0 aF=>ac t0 aF) fun V=>I y0 (U .eql af false true ax (.int .i64 9)) E fun aG=>Split aG (I y0 (U .eql bJ false true ay (.int .i64 0)) E fun aH=>Split aH (I y0 (U .eql af false true aC (.int .i64 0)) E fun aI=>Split aI (I y0 (U .eql bJ false true aE (.int .i64 0)) E fun t46=>V t46 E) (V (.bool false) E)) (V (.bool false) E)) (V (.bool false) E))) fun ah=>I y0 (Z4 .not ao) Y fun aJ=>Split aJ (ah (.bool true) Y) (O y0 j8 [X,(.int .i64 1),(.int .i64 1)] Y fun aK ai=>I y0 (U .neq bJ false true aK (.int .i64 0)) ai fun aL=>ah aL ai)):O y0 nN [] Z ac:=aD Tryz.func11 rfl (by kernel_rfl) (by kernel_rfl) h
theorem mc.enter (h:aa y0 (n0 a6 true (.tuple #[])) Z fun t3 W=>I y0 (u6 #[aX] J #[V]) W fun aq=>I y0 (T1 #[J,J] J #[aq,(.int .i64 300)]) W fun au=>I y0 (j4 aX V none (some au) none) W fun av=>O y0 nZ [av] W fun ah aw=>O y0 n1 [ah] aw fun ab X=>I y0 (x8 ab 0) X fun t22=>I y0 (x8 ab 1) X fun _=>I y0 (x8 ab 2) X fun ax=>O y0 n2 [ah] X fun ad E=>I y0 (x8 ad 0) E fun ai=>I y0 (x8 ad 1) E fun _=>I y0 (x8 ad 2) E fun _=>@aB aT (fun ay ae=>Split ay (I y0 (Z3 a6 #[]) ae fun az=>aa y0 (x6 a6 t3 az) ae fun _ aj=>I y0 (do loadVar a6 (←asAddr t3)) aj fun r=>ac (.tuple #[(.pointer none),r,(.bool false)]) aj) (O y0 n3 [t22] ae fun ak af=>I y0 (x8 ak 0) af fun aA=>I y0 (x8 ak 1) af fun aC=>O y0 kb [aA] af fun ag aE=>aB (α:=x4→x4→x5→Prop) (fun(aF t4:x4) (al:x5)=>I y0 (do loadVar a6 (←asAddr t3)) al fun aG=>ac (.tuple #[aF,aG,t4]) al) fun am=>O y0 n5 [ai] aE fun aH aI=>O y0 n4 [aH] aI fun ao Y=>I y0 (U .eql bJ false true aC (.int .i64 0)) Y fun t50=>Split t50 (I y0 (U .neq bI false true ag (.pointer none)) Y fun t53=>aa y0 (x6 a6 t3 ao) Y fun _ aJ=>am ag t53 aJ) (aa y0 (x6 a6 t3 ao) Y fun _ aK=>am ag (.bool false) aK))) fun ap=>I y0 (U .neq bJ false true ax (.int .i64 0)) E fun aL=>Split aL (ap (.bool true) E) (I y0 (U .eql qT false true ai (.pointer none)) E fun aM=>ap aM E)):O y0 mc [V] Z ac:=aD Tryz.func12 rfl (by kernel_rfl) (by kernel_rfl) h
theorem j8.enter (h:I y0 (U .eql bI false true V (.pointer none)) Z fun t9=>Split t9 (ac (.int .i64 2) Z) (O y0 js [V,an,bb] Z fun ae E=>I y0 (U .lss J false true ae (.int .i64 0)) E fun ag=>Split ag (ac (.int .i64 1) E) (I y0 (aj V) E fun ah=>I y0 (x2 aM ah 2) E fun ak=>I y0 (x1 ab ak) E fun al=>I y0 (x7 ab al an) E fun am=>I y0 (x1 J am) E fun ao=>I y0 (U .add J false true ao (.int .i64 1)) E fun t22=>aS E fun W=>I y0 (aj V) W fun Y=>I y0 (x2 aM Y 1) W fun t25=>I y0 (x1 dm t25) W fun aa=>I y0 (aj V) W fun ap=>I y0 (x2 aM ap 1) W fun aq=>I y0 (x1 dm aq) W fun au=>I y0 (U .shl af true false (.int .i64 1) bb) W fun ad=>O y0 fV [au,t22] W fun av X=>(Ext W X∨ai y0 (U .shl af true false (.int .i64 1) bb) ad X∧ai y0 (x1 dm t25) aa X∧ai y0 (x2 aM Y 1) t25 X∧ai y0 (aj V) Y X∧True)∧I y0 (U .or af false false av ad) X fun aw=>O y0 gS [aa,t22,aw] X fun ax ay=>ac ax ay))):O y0 j8 [V,an,bb] Z ac:=aD Tryz.func13 rfl (by kernel_rfl) (by kernel_rfl) h
theorem gP.enter (h:aa y0 (n0 bk true (.tuple #[])) Z fun t4 al=>O y0 iB [V,an] al fun am X=>I y0 (Z4 .not am) X fun ao=>Split ao (I y0 (Z3 bk #[]) X fun ap=>aa y0 (x6 bk t4 ap) X fun _ ad=>I y0 (do loadVar bk (←asAddr t4)) ad fun r=>ac r ad) (I y0 (aj V) X fun aq=>I y0 (x2 aM aq 0) X fun au=>I y0 (x1 dl au) X fun av=>O y0 mf [av,an] X fun aw ax=>O y0 n7 [aw] ax fun ae Y=>I y0 (x8 ae 0) Y fun t22=>I y0 (x8 ae 1) Y fun _=>aa y0 (n0 bk true (.tuple #[])) Y fun d ay=>aa y0 (x6 bk d t22) ay fun _ az=>aS az fun E=>I y0 (aj V) E fun t25=>I y0 (x2 aM t25 1) E fun aA=>I y0 (x1 dm aA) E fun aC=>I y0 (aj V) E fun aE=>I y0 (x2 aM aE 2) E fun aF=>I y0 (x1 ab aF) E fun aG=>I y0 (x7 ab aG an) E fun aH=>I y0 (x1 J aH) E fun aI=>I y0 (U .add J false true aI (.int .i64 1)) E fun aJ=>O y0 fV [aC,aJ] E fun aK ag=>I y0 (x1 bk d) ag fun aL=>O y0 jr [aL] ag fun aN aO=>bd (.int .i64 0) aO fun t39 W k=>I y0 (U .lss J false false t39 aN) W fun aP=>Split aP (@aB dF (fun ah=>I y0 (U .add J false true t39 (.int .i64 1)) ah fun t50=>k t50 ah) fun ai=>I y0 (U .shr af false false aK t39) W fun aQ=>I y0 (U .and af false true aQ (.int .i64 1)) W fun t45=>I y0 (U .eql af false true t45 (.int .i64 1)) W fun t46=>Split t46 (I y0 (x1 bk d) W fun aR=>O y0 n8 [aR,t39] W fun aT aU=>aa y0 (x6 bk d aT) aU fun _ aV=>ai aV) (ai W)) (I y0 (x1 bk d) W fun aW=>aa y0 (x6 bk t4 aW) W fun _ ak=>I y0 (do loadVar bk (←asAddr t4)) ak fun aX=>ac aX ak))):O y0 gP [V,an] Z ac:=aD Tryz.func14 rfl (by kernel_rfl) (by kernel_rfl) h
theorem nO.enter (h:aa y0 (Z5 bk V) Z fun J W=>@aB aT (fun t4 Y=>ac t4 Y) fun X=>I y0 (x1 bk J) W fun t5=>O y0 mg [t5,an] W fun ab E=>Split ab (I y0 (x2 bk J 0) E fun t9=>I y0 (x1 bG t9) E fun ad=>I y0 (U .shr bG false false ad an) E fun ae=>I y0 (U .and bG false true ae (.int .u64 1)) E fun af=>I y0 (U .eql bG false true af (.int .u64 1)) E fun ag=>X ag E) (X (.bool false) E)):O y0 nO [V,an] Z ac:=aD Tryz.func15 rfl (by kernel_rfl) (by kernel_rfl) h
theorem jn.enter (h:I y0 (U .eql bI false true V (.pointer none)) Z fun aN=>Split aN (ac (.tuple #[(.int .i64 0),(.int .i64 2)]) Z) (I y0 (u6 #[ab] J #[an]) Z fun t22=>O y0 iA [V] Z fun aO ai=>I y0 (U .neq J false false t22 aO) ai fun t25=>Split t25 (ac (.tuple #[(.int .i64 0),(.int .i64 3)]) ai) (O y0 jq [V] ai fun aP aq=>I y0 (u6 #[ab] J #[an]) aq fun aQ=>jk (.int .i64 0) (.int .i64 0) aP (.bool true) (.int .i64 0) aq fun t4 t5 ak left X E k=>I y0 (U .lss J false false X aQ) E fun aR=>Split aR (aB (α:=x4→x4→x4→x4→x5→Prop) (fun(aS aU aV aW:x4) (au:x5)=>I y0 (U .add J false true X (.int .i64 1)) au fun aX=>k aS aU aV aW aX au) fun av=>I y0 (x7 ab an X) E fun aY=>I y0 (x1 J aY) E fun aw=>O y0 gR [V,X] E fun aZ ax=>Split aZ (av t4 t5 ak left ax) (O y0 iz [V,X,aw] ax fun ay Y=>I y0 (x8 ay 0) Y fun a1=>I y0 (x8 ay 1) Y fun a2=>I y0 (U .neq bJ false true a2 (.int .i64 0)) Y fun t46=>Split t46 (ac (.tuple #[(.int .i64 0),(.int .i64 3)]) Y) (@aB aT (fun a6 a7=>O y0 gQ [V] a7 fun a8 bb=>O y0 jt [ak,a1,a8] bb fun az al=>I y0 (x8 az 0) al fun be=>I y0 (x8 az 1) al fun _=>av t4 t5 be a6 al) fun aA=>Split left (O y0 gP [V,X] Y fun bf bg=>O y0 nO [bf,aw] bg fun t53 bh=>aA t53 bh) (aA (.bool false) Y)))) (I y0 (Z4 .not left) E fun bi=>Split bi (O y0 gQ [V] E fun bj bk=>ac (.tuple #[bj,(.int .i64 0)]) bk) (I y0 (aj V) E fun bl=>I y0 (x2 aM bl 3) E fun t70=>I y0 (x1 bc t70) E fun aC=>I y0 (u6 #[bc] J #[aC]) E fun bm=>ba ak (.int .i64 0) E fun am ad ae bn=>I y0 (U .lss J false false ad bm) ae fun bo=>Split bo (@aB aT (fun bp aE=>I y0 (U .add J false true ad (.int .i64 1)) aE fun bq=>bn bp bq aE) fun aF=>I y0 (x7 bc aC ad) ae fun t76=>I y0 (x1 cj t76) ae fun t77=>aa y0 (n0 cj true (.tuple #[])) ae fun f br=>aa y0 (x6 cj f t77) br fun _ bt=>O y0 ff [V,ad] bt fun bu af=>Split bu (I y0 (x2 cj f 0) af fun bw=>I y0 (x1 ab bw) af fun bx=>I y0 (u6 #[ab] J #[bx]) af fun aG=>aa y0 (U7 ab aG aG) af fun aH ag=>I y0 (x2 cj f 0) ag fun bz=>I y0 (x1 ab bz) ag fun aI=>I y0 (u6 #[ab] J #[aI]) ag fun bA=>bd (.int .i64 0) ag fun ah W bB=>I y0 (U .lss J false false ah bA) W fun bC=>Split bC (I y0 (x7 ab aI ah) W fun bD=>I y0 (x1 J bD) W fun bE=>I y0 (x7 ab an bE) W fun bF=>I y0 (x1 J bF) W fun bG=>I y0 (x7 ab aH ah) W fun bH=>aa y0 (x6 J bH bG) W fun _ aJ=>I y0 (U .add J false true ah (.int .i64 1)) aJ fun bK=>bB bK aJ) (O y0 jp [V,ad,aH] W fun aK ao=>I y0 (x8 aK 0) ao fun bL=>I y0 (x8 aK 1) ao fun _=>O y0 gQ [V] ao fun bM bN=>O y0 jt [am,bL,bM] bN fun aL ap=>I y0 (x8 aL 0) ap fun bO=>I y0 (x8 aL 1) ap fun _=>aF bO ap)) (aF am af)) (ac (.tuple #[am,(.int .i64 0)]) ae)))))):O y0 jn [V,an] Z ac:=aD Tryz.func16 rfl (by kernel_rfl) (by kernel_rfl) h
theorem ff.enter (h:@aB aT (fun t4 aa=>ac t4 aa) fun W=>aS Z fun X=>I y0 (U .geq J false true an (.int .i64 0)) X fun ab=>Split ab (O y0 hQ [V] X fun ad E=>I y0 (U .lss J false false an ad) E fun ae=>Split ae (I y0 (aj V) E fun ag=>I y0 (x2 aM ag 1) E fun ah=>I y0 (x1 dm ah) E fun ai=>I y0 (aj V) E fun ak=>I y0 (x2 aM ak 3) E fun al=>I y0 (x1 bc al) E fun am=>I y0 (x7 bc am an) E fun ao=>I y0 (x2 cj ao 2) E fun ap=>I y0 (x1 J ap) E fun t25=>O y0 fV [ai,t25] E fun aq Y=>I y0 (U .neq af false true aq (.int .i64 0)) Y fun au=>W au Y) (W (.bool false) E)) (W (.bool false) X)):O y0 ff [V,an] Z ac:=aD Tryz.func18 rfl (by kernel_rfl) (by kernel_rfl) h
theorem hQ.enter (h:I y0 (U .eql bI false true V (.pointer none)) Z fun t4=>Split t4 (ac (.int .i64 0) Z) (I y0 (aj V) Z fun E=>I y0 (x2 aM E 3) Z fun W=>I y0 (x1 bc W) Z fun X=>I y0 (u6 #[bc] J #[X]) Z fun t9=>ac t9 Z)):O y0 hQ [V] Z ac:=aD Tryz.func19 rfl (by kernel_rfl) (by kernel_rfl) h
theorem nP.enter (h:I y0 (U .eql bI false true V (.pointer none)) Z fun X=>Split X (ac (.int .i64 2) Z) (O y0 ff [V,an] Z fun Y W=>I y0 (Z4 .not Y) W fun aa=>Split aa (ac (.int .i64 1) W) (aS W fun E=>I y0 (aj V) E fun ab=>I y0 (x2 aM ab 1) E fun ad=>I y0 (x1 dm ad) E fun ae=>I y0 (aj V) E fun af=>I y0 (x2 aM af 3) E fun ag=>I y0 (x1 bc ag) E fun ah=>I y0 (x7 bc ah an) E fun t22=>I y0 (x2 cj t22 2) E fun ai=>I y0 (x1 J ai) E fun ak=>O y0 gS [ae,ak,(.int .i64 0)] E fun t25 al=>ac t25 al))):O y0 nP [V,an] Z ac:=aD Tryz.func20 rfl (by kernel_rfl) (by kernel_rfl) h
end
section
variable {Z:x5} {ac:aT} {V an bb cQ jz lg lh li lj lk ll lm:x4}
theorem gq.enter (h:I y0 (U .eql ab false true V (.slice none 0 0)) Z fun t4=>Split t4 (ac (.slice none 0 0) Z) (aa y0 (u9 ab 0 #[]) Z fun t5 E=>aa y0 (r8 #[ab,ab] ab #[t5,V]) E fun J W=>ac J W)):O y0 gq [V] Z ac:=aD Tryz.func22 rfl (by kernel_rfl) (by kernel_rfl) h
theorem jo.enter (h:aa y0 (Z5 a6 V) Z fun X E=>@aB aT (fun t4 Y=>ac t4 Y) fun W=>I y0 (U .geq J false true an (.int .i64 0)) E fun ab=>Split ab (I y0 (x2 a6 X 6) E fun t9=>I y0 (x1 dX t9) E fun ad=>I y0 (u6 #[dX] J #[ad]) E fun ae=>I y0 (U .lss J false false an ae) E fun af=>Split af (I y0 (x2 a6 X 6) E fun ag=>I y0 (x1 dX ag) E fun ah=>I y0 (x7 dX ah an) E fun ai=>I y0 (x2 gv ai 1) E fun aj=>I y0 (x1 gT aj) E fun ak=>W ak E) (W (.bool false) E)) (W (.bool false) E)):O y0 jo [V,an] Z ac:=aD Tryz.func31 rfl (by kernel_rfl) (by kernel_rfl) h
theorem ka.enter (h:aa y0 (Z5 a6 V) Z fun X E=>@aB aT (fun t4 Y=>ac t4 Y) fun W=>I y0 (U .geq J false true an (.int .i64 0)) E fun ad=>Split ad (I y0 (x2 a6 X 1) E fun t9=>I y0 (x1 ab t9) E fun ae=>I y0 (u6 #[ab] J #[ae]) E fun af=>I y0 (U .lss J false false an af) E fun ag=>W ag E) (W (.bool false) E)):O y0 ka [V,an] Z ac:=aD Tryz.func33 rfl (by kernel_rfl) (by kernel_rfl) h
theorem nQ.enter (h:I y0 (U .eql bI false true V (.pointer none)) Z fun t4=>Split t4 (ac (.int .i64 0) Z) (I y0 (aj V) Z fun E=>I y0 (x2 aM E 1) Z fun J=>I y0 (x1 dm J) Z fun W=>O y0 Au [W] Z fun t9 X=>ac t9 X)):O y0 nQ [V] Z ac:=aD Tryz.func40 rfl (by kernel_rfl) (by kernel_rfl) h
theorem md.enter (h:I y0 (u6 #[ae] J #[V]) Z fun Y=>I y0 (u6 #[ae] J #[an]) Z fun t9=>I y0 (U .neq J false false Y t9) Z fun aa=>Split aa (ac (.bool false) Z) (I y0 (u6 #[ae] J #[V]) Z fun ab=>ba (.bool false) (.int .i64 0) Z fun t4 W X k=>I y0 (U .lss J false false W ab) X fun ad=>Split ad (aS X fun E=>I y0 (x7 ae V W) E fun ag=>I y0 (x1 af ag) E fun ah=>I y0 (x7 ae an W) E fun t22=>I y0 (x1 af t22) E fun ai=>I y0 (U .neq af false false ah ai) E fun aj=>Split aj (ac (.bool false) E) (I y0 (U .add J false true W (.int .i64 1)) E fun t25=>k t4 t25 E)) (ac (.bool true) X))):O y0 md [V,an] Z ac:=aD Tryz.func42 rfl (by kernel_rfl) (by kernel_rfl) h
theorem me.enter (h:aa y0 (Z5 bI V) Z fun W am=>I y0 (x1 bI W) am fun a8=>I y0 (U .eql bI false true a8 (.pointer none)) am fun ba=>Split ba (fy am fun bb=>ac (.slice none 0 0) bb) (I y0 (x1 bI W) am fun be=>O y0 jq [be] am fun bf bg=>aa y0 (u9 ae 1 #[(0,bf)]) bg fun bh bi=>aa y0 (n0 ae true (.tuple #[])) bi fun out bj=>aa y0 (x6 ae out bh) bj fun _ aQ=>I y0 (x1 bI W) aQ fun bk=>O y0 iA [bk] aQ fun t22 bl=>bd (.int .i64 0) bl fun aE ad k=>I y0 (U .lss J false false aE t22) ad fun bm=>Split bm (aa y0 (n0 J true (.tuple #[])) ad fun i bn=>aa y0 (x6 J i aE) bn fun _ bo=>aS bo fun E=>I y0 (x1 ae out) E fun aF=>I y0 (x1 bI W) E fun bp=>I y0 (aj bp) E fun bq=>I y0 (x2 aM bq 1) E fun br=>I y0 (x1 dm br) E fun bt=>I y0 (x1 bI W) E fun bu=>I y0 (aj bu) E fun bw=>I y0 (x2 aM bw 2) E fun bx=>I y0 (x1 ab bx) E fun bz=>I y0 (x1 J i) E fun bA=>I y0 (x7 ab bz bA) E fun bB=>I y0 (x1 J bB) E fun bC=>I y0 (x1 bI W) E fun aw=>I y0 (x1 J i) E fun ax=>O y0 fV [bt,bC] E fun bD ao=>(Ext E ao∨ai y0 (x1 J i) ax ao∧ai y0 (x1 bI W) aw ao∧ai y0 (x1 ae out) aF ao∧True)∧aa y0 (u9 ae 1 #[(0,bD)]) ao fun t39 ap=>(Ext E ap∨ai y0 (x1 J i) ax ap∧ai y0 (x1 bI W) aw ap∧ai y0 (x1 ae out) aF ap∧True)∧aa y0 (r8 #[ae,ae] ae #[aF,t39]) ap fun bE ay=>(Ext E ay∨ai y0 (x1 J i) ax ay∧ai y0 (x1 bI W) aw ay∧True)∧O y0 gP [aw,ax] ay fun bF bG=>O y0 va [bF] bG fun bH bJ=>O y0 mi [bH] bJ fun t45 bK=>O y0 qL [bE,t45] bK fun t46 bL=>aa y0 (x6 ae out t46) bL fun _ aG=>I y0 (x1 bI W) aG fun bM=>I y0 (x1 J i) aG fun bN=>O y0 gP [bM,bN] aG fun bO bP=>O y0 va [bO] bP fun t50 bQ=>sJ y0 t50 bQ (fun bR bS aR=>Over bS fun aH=>I y0 (x1 bI W) aH fun t53=>I y0 (x1 J i) aH fun bT=>O y0 iz [t53,bT,bR] aH fun aT aq=>I y0 (x8 aT 0) aq fun bU=>I y0 (x8 aT 1) aq fun _=>I y0 (x1 bI W) aq fun bV=>I y0 (x1 J i) aq fun bW=>O y0 gR [bV,bW] aq fun bX az=>I y0 (Z4 .not bX) az fun bY=>Split bY (I y0 (x1 ae out) az fun bZ=>aa y0 (u9 ae 1 #[(0,bU)]) az fun b1 b2=>aa y0 (r8 #[ae,ae] ae #[bZ,b1]) b2 fun t66 b3=>aa y0 (x6 ae out t66) b3 fun _ b4=>aR .normal b4) (aR .normal az)) (fun aU=>I y0 (U .add J false true aE (.int .i64 1)) aU fun b5=>k b5 aU) (fun _=>False) []) (I y0 (x1 bI W) ad fun b6=>I y0 (aj b6) ad fun b7=>I y0 (x2 aM b7 3) ad fun t70=>I y0 (x1 bc t70) ad fun aV=>I y0 (u6 #[bc] J #[aV]) ad fun b8=>bd (.int .i64 0) ad fun aA Y b9=>I y0 (U .lss J false false aA b8) Y fun ca=>Split ca (@aB dF (fun aW=>I y0 (U .add J false true aA (.int .i64 1)) aW fun cb=>b9 cb aW) fun aX=>I y0 (x7 bc aV aA) Y fun t76=>I y0 (x1 cj t76) Y fun t77=>aa y0 (n0 J true (.tuple #[])) Y fun j cc=>aa y0 (n0 cj true (.tuple #[])) cc fun f cd=>aa y0 (x6 J j aA) cd fun _ ce=>aa y0 (x6 cj f t77) ce fun _ aI=>I y0 (x1 bI W) aI fun cg=>I y0 (x1 J j) aI fun ch=>O y0 ff [cg,ch] aI fun ci ah=>I y0 (Z4 .not ci) ah fun ck=>Split ck (aX ah) (I y0 (x1 ae out) ah fun cl=>I y0 (x2 cj f 0) ah fun cm=>I y0 (x1 ab cm) ah fun cn=>O y0 qL [cl,cn] ah fun cp cq=>aa y0 (x6 ae out cp) cq fun _ aJ=>I y0 (x2 cj f 1) aJ fun cr=>I y0 (x1 aK cr) aJ fun ct=>O y0 ke [ct] aJ fun cu cw=>qD y0 cu cw (fun _ aY cz aZ=>Over cz fun aL=>I y0 (x1 bI W) aL fun cA=>I y0 (x1 J j) aL fun cB=>O y0 jp [cA,cB,aY] aL fun a1 au=>I y0 (x8 a1 0) au fun cC=>I y0 (x8 a1 1) au fun _=>I y0 (x1 bI W) au fun cD=>I y0 (x1 cj f) au fun cE=>O y0 Aw [cD,cE,aY] au fun cF aN=>Split cF (I y0 (x1 ae out) aN fun cG=>aa y0 (u9 ae 1 #[(0,cC)]) aN fun cH cI=>aa y0 (r8 #[ae,ae] ae #[cG,cH]) cI fun cJ cK=>aa y0 (x6 ae out cJ) cK fun _ cL=>aZ .normal cL) (aZ .normal aN)) (fun cM=>aX cM) (fun _=>False) [])) (I y0 (x1 bI W) Y fun cN=>I y0 (aj cN) Y fun cO=>I y0 (x2 aM cO 4) Y fun cP=>I y0 (x1 dE cP) Y fun a2=>I y0 (u6 #[dE] J #[a2]) Y fun cQ=>bd (.int .i64 0) Y fun aO ak cR=>I y0 (U .lss J false false aO cQ) ak fun cS=>Split cS (I y0 (x7 dE a2 aO) ak fun cT=>I y0 (x1 eo cT) ak fun cU=>aa y0 (n0 eo true (.tuple #[])) ak fun e cV=>aa y0 (x6 eo e cU) cV fun _ cW=>aS cW fun X=>I y0 (x1 ae out) X fun a6=>I y0 (x2 eo e 0) X fun cX=>I y0 (x1 J cX) X fun cY=>I y0 (x2 eo e 1) X fun av=>I y0 (x1 ab av) X fun aP=>I y0 (x2 eo e 2) X fun af=>I y0 (x1 ab af) X fun aC=>aa y0 (u9 ae 2 #[(0,(.int .i64 (-1))),(1,cY)]) X fun cZ ag=>(Ext X ag∨ai y0 (x1 ab af) aC ag∧ai y0 (x2 eo e 2) af ag∧ai y0 (x1 ab av) aP ag∧ai y0 (x2 eo e 1) av ag∧ai y0 (x1 ae out) a6 ag∧True)∧aa y0 (r8 #[ae,ae] ae #[a6,cZ]) ag fun c0 al=>(Ext X al∨ai y0 (x1 ab af) aC al∧ai y0 (x2 eo e 2) af al∧ai y0 (x1 ab av) aP al∧ai y0 (x2 eo e 1) av al∧True)∧O y0 qL [c0,aP] al fun c1 aD=>(Ext X aD∨ai y0 (x1 ab af) aC aD∧ai y0 (x2 eo e 2) af aD∧True)∧O y0 qL [c1,aC] aD fun c2 c3=>aa y0 (x6 ae out c2) c3 fun _ a7=>I y0 (U .add J false true aO (.int .i64 1)) a7 fun c4=>cR c4 a7) (I y0 (x1 ae out) ak fun c5=>fy ak fun c6=>ac c5 c6))))):O y0 me [V] Z ac:=O.enter (P:=y0) mixed (show y0.funcs[me]? =some Tryz.f43 from Tryz.func43) rfl (by kernel_rfl) (by kernel_rfl) (by kernel_rfl) (Eq.mp (by kernel_rfl) h)
theorem nR.enter (h:I y0 (U .eql bI false true V (.pointer none)) Z fun t4=>Split t4 (ac (.int .i64 0) Z) (I y0 (aj V) Z fun E=>I y0 (x2 aM E 1) Z fun J=>I y0 (x1 dm J) Z fun W=>O y0 Ax [W] Z fun t9 X=>ac t9 X)):O y0 nR [V] Z ac:=aD Tryz.func44 rfl (by kernel_rfl) (by kernel_rfl) h
theorem nS.enter (h:I y0 (U .eql bI false true V (.pointer none)) Z fun al=>Split al (ac (.int .i64 2) Z) (I y0 (aj V) Z fun t9=>I y0 (x2 aM t9 1) Z fun am=>I y0 (x1 dm am) Z fun ao=>O y0 Ay [ao,an] Z fun ag Y=>I y0 (U .neq bJ false true ag (.int .i64 0)) Y fun ap=>Split ap (ac ag Y) (aS Y fun E=>I y0 (aj V) E fun ab=>I y0 (x2 aM ab 3) E fun ad=>I y0 (x1 bc ad) E fun ah=>I y0 (aj V) E fun aq=>I y0 (x2 aM aq 1) E fun au=>I y0 (x1 dm au) E fun t25=>O y0 fV [t25,(.int .i64 1)] E fun av J=>(Ext E J∨ai y0 (x1 bc ad) ah J∧ai y0 (x2 aM ab 3) ad J∧ai y0 (aj V) ab J∧True)∧I y0 (j4 bc ah none (some av) none) J fun aw=>I y0 (aj V) J fun ax=>I y0 (x2 aM ax 3) J fun ay=>aa y0 (x6 bc ay aw) J fun _ az=>aS az fun W=>I y0 (aj V) W fun ae=>I y0 (x2 aM ae 4) W fun af=>I y0 (x1 dE af) W fun ak=>I y0 (aj V) W fun aA=>I y0 (x2 aM aA 1) W fun aB=>I y0 (x1 dm aB) W fun aC=>O y0 fV [aC,(.int .i64 2)] W fun t39 X=>(Ext W X∨ai y0 (x1 dE af) ak X∧ai y0 (x2 aM ae 4) af X∧ai y0 (aj V) ae X∧True)∧I y0 (j4 dE ak none (some t39) none) X fun aE=>I y0 (aj V) X fun aF=>I y0 (x2 aM aF 4) X fun aG=>aa y0 (x6 dE aG aE) X fun _ aH=>ac (.int .i64 0) aH))):O y0 nS [V,an] Z ac:=aD Tryz.func47 rfl (by kernel_rfl) (by kernel_rfl) h
end
section
variable {Z:x5} {ac:aT} {V an bb cQ jz lg lh li lj lk ll lm:x4}
theorem kb.enter (h:I y0 (U .eql dl false true V (.pointer none)) Z fun aA=>Split aA (ac (.pointer none) Z) (O y0 oe [(.int .i64 3)] Z fun aB aw=>I y0 (Z3 aM #[(0,V),(1,aB)]) aw fun aC=>aa y0 (Z5 aM aC) aw fun E aE=>aS aE fun ad=>I y0 (aj E) ad fun ao=>I y0 (x2 aM ao 1) ad fun ap=>I y0 (x1 dm ap) ad fun ax=>O y0 og [V] ad fun aF af=>(Ext ad af∨ai y0 (x1 dm ap) ax af∧ai y0 (x2 aM ao 1) ap af∧ai y0 (aj E) ao af∧True)∧O y0 gS [ax,(.int .i64 0),aF] af fun _ aG=>O y0 ju [V] aG fun aH aI=>bd (.int .i64 0) aI fun t22 aq k=>I y0 (U .lss J false false t22 aH) aq fun aJ=>Split aJ (O y0 mj [V,t22] aq fun aK aL=>aS aL fun Y=>I y0 (aj E) Y fun W=>I y0 (x2 aM W 2) Y fun X=>I y0 (x1 ab X) Y fun ag=>aa y0 (u9 ae 2 #[(0,(.int .i64 0)),(1,(.int .i64 0))]) Y fun aN ah=>(Ext Y ah∨ai y0 (x1 ab X) ag ah∧ai y0 (x2 aM W 2) X ah∧ai y0 (aj E) W ah∧True)∧aa y0 (r8 #[ae,ae] ae #[aN,aK]) ah fun aO ak=>(Ext Y ak∨ai y0 (x1 ab X) ag ak∧ai y0 (x2 aM W 2) X ak∧ai y0 (aj E) W ak∧True)∧O y0 iC [E,aO] ak fun aP al=>(Ext Y al∨ai y0 (x1 ab X) ag al∧ai y0 (x2 aM W 2) X al∧ai y0 (aj E) W al∧True)∧aa y0 (u9 ab 1 #[(0,aP)]) al fun aQ am=>(Ext Y am∨ai y0 (x1 ab X) ag am∧ai y0 (x2 aM W 2) X am∧ai y0 (aj E) W am∧True)∧aa y0 (r8 #[ab,ab] ab #[ag,aQ]) am fun t39 au=>I y0 (aj E) au fun aR=>I y0 (x2 aM aR 2) au fun aT=>aa y0 (x6 ab aT t39) au fun _ ay=>I y0 (U .add J false true t22 (.int .i64 1)) ay fun aU=>k aU ay) (O y0 kf [V] aq fun aV aW=>bd (.int .i64 0) aW fun t45 av aX=>I y0 (U .lss J false false t45 aV) av fun t46=>Split t46 (O y0 oh [V,t45] av fun aY aZ=>O y0 oi [V,t45] aZ fun a1 a2=>O y0 ml [E,aY,a1] a2 fun _ az=>I y0 (U .add J false true t45 (.int .i64 1)) az fun a6=>aX a6 az) (ac E av)))):O y0 kb [V] Z ac:=aD Tryz.func48 rfl (by kernel_rfl) (by kernel_rfl) h
theorem eT.enter (h:I y0 (U .eql bI false true V (.pointer none)) Z fun t4=>Split t4 (ac (.pointer none) Z) (I y0 (aj V) Z fun E=>I y0 (x2 aM E 0) Z fun J=>I y0 (x1 dl J) Z fun W=>ac W Z)):O y0 eT [V] Z ac:=aD Tryz.func49 rfl (by kernel_rfl) (by kernel_rfl) h
theorem hh.enter (h:@aB aT (fun Y E=>Split Y (ac (.slice none 0 0) E) (I y0 (aj V) E fun aa=>I y0 (x2 aM aa 3) E fun ad=>I y0 (x1 bc ad) E fun ae=>I y0 (x7 bc ae an) E fun af=>I y0 (x2 cj af 0) E fun ag=>I y0 (x1 ab ag) E fun ah=>O y0 gq [ah] E fun ai ak=>ac ai ak)) fun W=>I y0 (U .lss J false true an (.int .i64 0)) Z fun al=>Split al (W (.bool true) Z) (O y0 hQ [V] Z fun am X=>I y0 (U .geq J false false an am) X fun ao=>W ao X)):O y0 hh [V,an] Z ac:=aD Tryz.func50 rfl (by kernel_rfl) (by kernel_rfl) h
theorem nT.enter (h:I y0 (U .eql bI false true V (.pointer none)) Z fun ad=>Split ad (ac (.slice none 0 0) Z) (I y0 (aj V) Z fun t9=>I y0 (x2 aM t9 4) Z fun ae=>I y0 (x1 dE ae) Z fun X=>I y0 (u6 #[dE] J #[X]) Z fun af=>ba (.slice none 0 0) (.int .i64 0) Z fun out W E k=>I y0 (U .lss J false false W af) E fun ag=>Split ag (I y0 (x7 dE X W) E fun ah=>I y0 (x1 eo ah) E fun ai=>aa y0 (n0 eo true (.tuple #[])) E fun e ak=>aa y0 (x6 eo e ai) ak fun _ Y=>I y0 (x1 eo e) Y fun al=>O y0 vb [al] Y fun am ao=>aa y0 (u9 dE 1 #[(0,am)]) ao fun ap aq=>aa y0 (r8 #[dE,dE] dE #[out,ap]) aq fun au ab=>I y0 (U .add J false true W (.int .i64 1)) ab fun t22=>k au t22 ab) (ac out E))):O y0 nT [V] Z ac:=aD Tryz.func51 rfl (by kernel_rfl) (by kernel_rfl) h
theorem iz.enter (h:I y0 (U .eql bI false true V (.pointer none)) Z fun X=>Split X (ac (.tuple #[(.int .i64 0),(.int .i64 2)]) Z) (O y0 js [V,an,bb] Z fun W E=>I y0 (U .lss J false true W (.int .i64 0)) E fun Y=>Split Y (ac (.tuple #[(.int .i64 0),(.int .i64 1)]) E) (I y0 (aj V) E fun aa=>I y0 (x2 aM aa 1) E fun ab=>I y0 (x1 dm ab) E fun ad=>O y0 fV [ad,W] E fun t22 ae=>ac (.tuple #[t22,(.int .i64 0)]) ae))):O y0 iz [V,an,bb] Z ac:=aD Tryz.func52 rfl (by kernel_rfl) (by kernel_rfl) h
theorem jp.enter (h:I y0 (U .eql bI false true V (.pointer none)) Z fun X=>Split X (ac (.tuple #[(.int .i64 0),(.int .i64 2)]) Z) (O y0 kg [V,an,bb] Z fun W E=>I y0 (U .lss J false true W (.int .i64 0)) E fun Y=>Split Y (ac (.tuple #[(.int .i64 0),(.int .i64 1)]) E) (I y0 (aj V) E fun aa=>I y0 (x2 aM aa 1) E fun ab=>I y0 (x1 dm ab) E fun ad=>O y0 fV [ad,W] E fun t22 ae=>ac (.tuple #[t22,(.int .i64 0)]) ae))):O y0 jp [V,an,bb] Z ac:=aD Tryz.func53 rfl (by kernel_rfl) (by kernel_rfl) h
theorem kc.enter (h:I y0 (U .eql bI false true V (.pointer none)) Z fun ad=>Split ad (ac (.tuple #[(.int .i64 0),(.int .i64 2)]) Z) (@aB aT (fun ae Y=>Split ae (ac (.tuple #[(.int .i64 0),(.int .i64 1)]) Y) (O y0 ml [V,an,bb] Y fun t45 ag=>ac (.tuple #[t45,(.int .i64 0)]) ag)) fun E=>I y0 (u6 #[ab] J #[an]) Z fun ah=>I y0 (U .lss J false true ah (.int .i64 2)) Z fun ai=>Split ai (E (.bool true) Z) (O y0 oj [V,an] Z fun aj W=>I y0 (Z4 .not aj) W fun ak=>Split ak (E (.bool true) W) (I y0 (U .eql bB false true bb (.pointer none)) W fun al=>Split al (E (.bool true) W) (O y0 hS [bb] W fun am ao=>O y0 gQ [V] ao fun ap X=>I y0 (U .neq af false false am ap) X fun aq=>Split aq (E (.bool true) X) (O y0 hT [bb] X fun au av=>O y0 jv [au] av fun aw ax=>O y0 Az [V,an] ax fun ay az=>O y0 kd [aw,ay] az fun t39 aa=>I y0 (Z4 .not t39) aa fun aA=>E aA aa)))))):O y0 kc [V,an,bb] Z ac:=aD Tryz.func54 rfl (by kernel_rfl) (by kernel_rfl) h
theorem nU.enter (h:O y0 k2 [V,(.int .i64 0),an] Z fun E I=>ac E I):O y0 nU [V,an] Z ac:=aD Tryz.func55 rfl (by kernel_rfl) (by kernel_rfl) h
theorem nV.enter (h:O y0 js [V,an,bb] Z fun E I=>O y0 k2 [V,E,cQ] I fun J U=>ac J U):O y0 nV [V,an,bb,cQ] Z ac:=aD Tryz.func56 rfl (by kernel_rfl) (by kernel_rfl) h
theorem nW.enter (h:O y0 kg [V,an,bb] Z fun E I=>O y0 k2 [V,E,cQ] I fun J U=>ac J U):O y0 nW [V,an,bb,cQ] Z ac:=aD Tryz.func57 rfl (by kernel_rfl) (by kernel_rfl) h
theorem nX.enter (h:aa y0 (Z5 eo an) Z fun ah ag=>I y0 (U .eql bI false true V (.pointer none)) ag fun ao=>Split ao (ac (.int .i64 2) ag) (I y0 (x1 eo ah) ag fun ap=>O y0 AA [V,ap] ag fun aq ak=>I y0 (Z4 .not aq) ak fun au=>Split au (ac (.int .i64 1) ak) (aS ak fun X=>I y0 (aj V) X fun Y=>I y0 (x2 aM Y 4) X fun ad=>I y0 (x1 dE ad) X fun al=>I y0 (x1 eo ah) X fun av=>O y0 vb [av] X fun aw ae=>(Ext X ae∨ai y0 (x1 dE ad) al ae∧ai y0 (x2 aM Y 4) ad ae∧ai y0 (aj V) Y ae∧True)∧aa y0 (u9 dE 1 #[(0,aw)]) ae fun ax af=>(Ext X af∨ai y0 (x1 dE ad) al af∧ai y0 (x2 aM Y 4) ad af∧ai y0 (aj V) Y af∧True)∧aa y0 (r8 #[dE,dE] dE #[al,ax]) af fun ay am=>I y0 (aj V) am fun t22=>I y0 (x2 aM t22 4) am fun az=>aa y0 (x6 dE az ay) am fun _ aA=>aS aA fun W=>I y0 (aj V) W fun t25=>I y0 (x2 aM t25 1) W fun aB=>I y0 (x1 dm aB) W fun aC=>I y0 (aj V) W fun aE=>I y0 (x2 aM aE 4) W fun aF=>I y0 (x1 dE aF) W fun aG=>I y0 (u6 #[dE] J #[aG]) W fun aH=>O y0 gS [aC,(.int .i64 2),aH] W fun _ aI=>aS aI fun E=>I y0 (aj V) E fun aJ=>I y0 (x2 aM aJ 1) E fun aK=>I y0 (x1 dm aK) E fun aL=>I y0 (aj V) E fun t39=>I y0 (x2 aM t39 2) E fun aN=>I y0 (x1 ab aN) E fun aO=>I y0 (x2 eo ah 0) E fun aP=>I y0 (x1 J aP) E fun aQ=>I y0 (x7 ab aO aQ) E fun aR=>I y0 (x1 J aR) E fun t45=>O y0 gS [aL,t45,(.int .i64 1)] E fun t46 aT=>ac t46 aT))):O y0 nX [V,an] Z ac:=aD Tryz.func58 rfl (by kernel_rfl) (by kernel_rfl) h
theorem gQ.enter (h:O y0 eT [V] Z fun t4 E=>O y0 k3 [t4] E fun t5 I=>ac t5 I):O y0 gQ [V] Z ac:=aD Tryz.func59 rfl (by kernel_rfl) (by kernel_rfl) h
theorem iA.enter (h:O y0 eT [V] Z fun t4 E=>O y0 ju [t4] E fun t5 I=>ac t5 I):O y0 iA [V] Z ac:=aD Tryz.func60 rfl (by kernel_rfl) (by kernel_rfl) h
theorem jq.enter (h:I y0 (U .eql bI false true V (.pointer none)) Z fun t4=>Split t4 (ac (.int .i64 0) Z) (I y0 (aj V) Z fun E=>I y0 (x2 aM E 1) Z fun J=>I y0 (x1 dm J) Z fun W=>O y0 fV [W,(.int .i64 0)] Z fun t9 X=>ac t9 X)):O y0 jq [V] Z ac:=aD Tryz.func61 rfl (by kernel_rfl) (by kernel_rfl) h
theorem jr.enter (h:aa y0 (Z5 bk V) Z fun U E=>I y0 (x2 bk U 1) E fun t3=>I y0 (x1 J t3) E fun t4=>ac t4 E):O y0 jr [V] Z ac:=aD Tryz.func62 rfl (by kernel_rfl) (by kernel_rfl) h
theorem gR.enter (h:@aB aT (fun t4 Y=>ac t4 Y) fun W=>aS Z fun aa=>O y0 iB [V,an] aa fun ad E=>Split ad (I y0 (aj V) E fun ae=>I y0 (x2 aM ae 1) E fun ag=>I y0 (x1 dm ag) E fun ah=>I y0 (aj V) E fun ai=>I y0 (x2 aM ai 2) E fun ak=>I y0 (x1 ab ak) E fun al=>I y0 (x7 ab al an) E fun am=>I y0 (x1 J am) E fun ao=>O y0 fV [ah,ao] E fun ap X=>I y0 (U .neq af false true ap (.int .i64 0)) X fun aq=>W aq X) (W (.bool false) E)):O y0 gR [V,an] Z ac:=aD Tryz.func63 rfl (by kernel_rfl) (by kernel_rfl) h
theorem nY.enter (h:O y0 hQ [V] Z fun af ag=>ba (.slice none 0 0) (.int .i64 0) ag fun out t9 W k=>I y0 (U .lss J false false t9 af) W fun ah=>Split ah (@aB aT (fun ai X=>I y0 (U .add J false true t9 (.int .i64 1)) X fun ak=>k ai ak X) fun Y=>@aB aT (fun al ad=>Split al (aa y0 (u9 ab 1 #[(0,t9)]) ad fun am ao=>aa y0 (r8 #[ab,ab] ab #[out,am]) ao fun ap aq=>Y ap aq) (Y out ad)) fun ae=>O y0 ff [V,t9] W fun au E=>Split au (I y0 (aj V) E fun av=>I y0 (x2 aM av 3) E fun aw=>I y0 (x1 bc aw) E fun ax=>I y0 (x7 bc ax t9) E fun ay=>I y0 (x2 cj ay 0) E fun t22=>I y0 (x1 ab t22) E fun az=>O y0 Av [az,an] E fun t25 aA=>ae t25 aA) (ae (.bool false) E)) (ac out W)):O y0 nY [V,an] Z ac:=aD Tryz.func64 rfl (by kernel_rfl) (by kernel_rfl) h
theorem fg.enter (h:O y0 hQ [V] Z fun ad ae=>ba (.int .i64 0) (.int .i64 0) ae fun t4 W X k=>I y0 (U .lss J false false W ad) X fun t9=>Split t9 (@aB aT (fun t25 Y=>Split t25 (ac W Y) (I y0 (U .add J false true W (.int .i64 1)) Y fun af=>k t4 af Y)) fun aa=>O y0 ff [V,W] X fun ag E=>Split ag (I y0 (aj V) E fun ah=>I y0 (x2 aM ah 3) E fun ai=>I y0 (x1 bc ai) E fun ak=>I y0 (x7 bc ak W) E fun al=>I y0 (x2 cj al 0) E fun am=>I y0 (x1 ab am) E fun t22=>O y0 kd [t22,an] E fun ao ap=>aa ao ap) (aa (.bool false) E)) (ac (.int .i64 (-1)) X)):O y0 fg [V,an] Z ac:=aD Tryz.func65 rfl (by kernel_rfl) (by kernel_rfl) h
theorem nZ.enter (h:I y0 (U .eql aX false true V (.slice none 0 0)) Z fun t4=>Split t4 (ac (.slice none 0 0) Z) (aa y0 (u9 aX 0 #[]) Z fun t5 E=>aa y0 (r8 #[aX,aX] aX #[t5,V]) E fun J W=>ac J W)):O y0 nZ [V] Z ac:=aD Tryz.func66 rfl (by kernel_rfl) (by kernel_rfl) h
theorem n1.enter (h:I y0 (u6 #[aX] J #[V]) Z fun bc=>I y0 (U .gtr J false true bc (.int .i64 65536)) Z fun be=>Split be (ac (.tuple #[(.pointer none),(.int .i64 0),(.int .i64 5)]) Z) (O y0 kh [V] Z fun bh aJ=>I y0 (Z3 bn #[(0,bh)]) aJ fun bi=>aa y0 (Z5 bn bi) aJ fun E bj=>O y0 ki [E] bj fun aK ak=>I y0 (x8 aK 0) ak fun aL=>I y0 (x8 aK 1) ak fun bk=>I y0 (u6 #[a1] J #[aL]) ak fun t39=>I y0 (U .gtr J false true t39 (.int .i64 64)) ak fun bl=>O y0 fz [E,bl,bk] ak fun _ bm=>O y0 ez [E,(.int .i64 1),(.int .i64 4611686018427387904)] bm fun t45 au=>I y0 (x8 t45 0) au fun t46=>I y0 (x8 t45 1) au fun bo=>I y0 (U .gtr af false true t46 (.int .i64 64)) au fun t50=>O y0 fz [E,t50,bo] au fun _ bp=>O y0 ez [E,(.int .i64 1),(.int .i64 4611686018427387904)] bp fun t55 az=>I y0 (x8 t55 0) az fun bq=>I y0 (x8 t55 1) az fun _=>O y0 ez [E,(.int .i64 0),(.int .i64 4611686018427387904)] az fun aM av=>I y0 (x8 aM 0) av fun aN=>I y0 (x8 aM 1) av fun br=>I y0 (U .gtr af false true aN (.int .i64 256)) av fun bt=>O y0 fz [E,bt,br] av fun _ bu=>O y0 ez [E,(.int .i64 1),(.int .i64 4611686018427387904)] bu fun t70 aw=>I y0 (x8 t70 0) aw fun aO=>I y0 (x8 t70 1) aw fun bw=>I y0 (U .gtr af false true aO (.int .i64 2147483648)) aw fun bx=>O y0 fz [E,bx,bw] aw fun _ bz=>ba (.slice none 0 0) (.int .i64 0) bz fun sizes i aA k=>@aB aT (fun bA aP=>Split bA (O y0 ez [E,(.int .i64 1),bq] aP fun aQ ax=>I y0 (x8 aQ 0) ax fun aR=>I y0 (x8 aQ 1) ax fun bB=>I y0 (U .gtr af false true aR (.int .i64 32)) ax fun bC=>O y0 fz [E,bC,bB] ax fun _ bD=>aa y0 (u9 ae 1 #[(0,aR)]) bD fun bE bF=>aa y0 (r8 #[ae,ae] ae #[sizes,bE]) bF fun bG aU=>I y0 (U .add af false true i (.int .i64 1)) aU fun bH=>k bG bH aU) (ba (.slice none 0 0) (.int .i64 0) aP fun funs aV aC bI=>@aB aT (fun bK aW=>Split bK (O y0 mm [E,sizes] aW fun bL bM=>aa y0 (u9 e7 1 #[(0,bL)]) bM fun bN bP=>aa y0 (r8 #[e7,e7] e7 #[funs,bN]) bP fun bQ aY=>I y0 (U .add af false true aV (.int .i64 1)) aY fun bR=>bI bQ bR aY) (@aB dF (fun W=>I y0 (aj E) W fun bS=>I y0 (x2 bn bS 1) W fun bT=>I y0 (x2 cP bT 0) W fun bU=>I y0 (x1 bJ bU) W fun bV=>I y0 (U .neq bJ false true bV (.int .i64 0)) W fun bW=>Split bW (aS W fun X=>I y0 (aj E) X fun bX=>I y0 (x2 bn bX 1) X fun bY=>I y0 (x2 cP bY 2) X fun bZ=>I y0 (x1 J bZ) X fun b1=>I y0 (aj E) X fun b2=>I y0 (x2 bn b2 1) X fun b3=>I y0 (x2 cP b3 0) X fun b4=>I y0 (x1 bJ b4) X fun b5=>ac (.tuple #[(.pointer none),b1,b5]) X) (I y0 (aj E) W fun b6=>I y0 (x2 bn b6 1) W fun b7=>I y0 (x2 cP b7 1) W fun b8=>I y0 (x1 bJ b8) W fun b9=>I y0 (U .neq bJ false true b9 (.int .i64 0)) W fun ca=>Split ca (aS W fun Y=>I y0 (aj E) Y fun cb=>I y0 (x2 bn cb 1) Y fun cc=>I y0 (x2 cP cc 3) Y fun cd=>I y0 (x1 J cd) Y fun ce=>I y0 (aj E) Y fun cg=>I y0 (x2 bn cg 1) Y fun ch=>I y0 (x2 cP ch 1) Y fun ci=>I y0 (x1 bJ ci) Y fun cj=>ac (.tuple #[(.pointer none),ce,cj]) Y) (O y0 jw [sizes] W fun ck aZ=>I y0 (Z3 bg #[(0,aL),(1,aO),(2,ck)]) aZ fun cl=>aa y0 (Z5 bg cl) aZ fun ag a2=>I y0 (u6 #[e7] J #[funs]) a2 fun cm=>bd (.int .i64 0) a2 fun aE ah cn=>I y0 (U .lss J false false aE cm) ah fun cp=>Split cp (I y0 (x7 e7 funs aE) ah fun cq=>I y0 (x1 bf cq) ah fun cr=>aa y0 (n0 bf true (.tuple #[])) ah fun x ct=>aa y0 (x6 bf x cr) ct fun _ cu=>aS cu fun ad=>I y0 (aj ag) ad fun al=>I y0 (x2 bg al 3) ad fun am=>I y0 (x1 bO am) ad fun aF=>I y0 (x1 bf x) ad fun cw=>O y0 k4 [ag,cw] ad fun cz ao=>(Ext ad ao∨ai y0 (x1 bO am) aF ao∧ai y0 (x2 bg al 3) am ao∧ai y0 (aj ag) al ao∧True)∧aa y0 (u9 bO 1 #[(0,cz)]) ao fun cA ap=>(Ext ad ap∨ai y0 (x1 bO am) aF ap∧ai y0 (x2 bg al 3) am ap∧ai y0 (aj ag) al ap∧True)∧aa y0 (r8 #[bO,bO] bO #[aF,cA]) ap fun cB aG=>I y0 (aj ag) aG fun cC=>I y0 (x2 bg cC 3) aG fun cD=>aa y0 (x6 bO cD cB) aG fun _ a6=>I y0 (U .add J false true aE (.int .i64 1)) a6 fun cE=>cn cE a6) (I y0 (u6 #[aX] J #[V]) ah fun cF=>ac (.tuple #[ag,cF,(.int .i64 0)]) ah)))) fun ay=>O y0 ef [E] aW fun cG aq=>Split cG (I y0 (aj E) aq fun cH=>I y0 (x2 bn cH 0) aq fun cI=>I y0 (x1 lf cI) aq fun cJ=>O y0 iD [cJ] aq fun aH ab=>I y0 (x8 aH 0) ab fun _=>I y0 (x8 aH 1) ab fun a7=>I y0 (x8 aH 2) ab fun aI=>I y0 (U .eql bJ false true aI (.int .i64 0)) ab fun cK=>Split cK (O y0 fh [E,(.int .i64 4),a7] ab fun _ cL=>ay cL) (I y0 (U .eql bJ false true aI (.int .i64 11)) ab fun cM=>Split cM (O y0 fh [E,aI,a7] ab fun _ cN=>ay cN) (ay ab))) (ay aq))) fun a8=>I y0 (U .lss af false false aV aN) aC fun cO=>Split cO (O y0 ef [E] aC fun cQ cR=>a8 cQ cR) (a8 (.bool false) aC))) fun bb=>I y0 (U .lss af false false i t46) aA fun cS=>Split cS (O y0 ef [E] aA fun cT cU=>bb cT cU) (bb (.bool false) aA))):O y0 n1 [V] Z ac:=aD Tryz.func67 rfl (by kernel_rfl) (by kernel_rfl) h
theorem n2.enter (h:I y0 (u6 #[aX] J #[V]) Z fun bj=>I y0 (U .gtr J false true bj (.int .i64 65536)) Z fun t22=>Split t22 (ac (.tuple #[(.pointer none),(.int .i64 0),(.int .i64 5)]) Z) (O y0 ol [V] Z fun t25 ap=>I y0 (x8 t25 0) ap fun bk=>I y0 (x8 t25 1) ap fun az=>I y0 (u6 #[aX] J #[V]) ap fun bl=>I y0 (Z3 aN #[(0,bk),(1,bl),(2,(.int .i64 4))]) ap fun bm=>aa y0 (Z5 aN bm) ap fun E aq=>@aB dF (fun aP=>I y0 (Z3 b3 #[]) aP fun bn=>aa y0 (Z5 b3 bn) aP fun Y bo=>O y0 mn [E] bo fun t45 bq=>aa y0 (n0 bp true (.tuple #[])) bq fun aA br=>aa y0 (x6 bp aA t45) br fun _ au=>I y0 (x2 bp aA 0) au fun bt=>I y0 (x1 a1 bt) au fun bu=>I y0 (aj Y) au fun bw=>I y0 (x2 b3 bw 0) au fun t50=>aa y0 (x6 a1 t50 bu) au fun _ ag=>I y0 (x2 bp aA 0) ag fun bx=>I y0 (x1 a1 bx) ag fun t53=>I y0 (u6 #[a1] J #[t53]) ag fun bz=>I y0 (U .gtr J false true bz (.int .i64 64)) ag fun t55=>I y0 (x2 bp aA 1) ag fun bA=>I y0 (x1 J bA) ag fun bB=>O y0 fW [E,t55,bB] ag fun _ bC=>O y0 en [E,(.int .i64 1),(.int .i64 4611686018427387904)] bC fun aQ aC=>I y0 (x8 aQ 0) aC fun aR=>I y0 (x8 aQ 1) aC fun bD=>I y0 (U .gtr af false true aR (.int .i64 64)) aC fun t66=>O y0 fW [E,t66,bD] aC fun _ bE=>O y0 en [E,(.int .i64 1),(.int .i64 4611686018427387904)] bE fun aU aI=>I y0 (x8 aU 0) aI fun bF=>I y0 (x8 aU 1) aI fun _=>O y0 en [E,(.int .i64 0),(.int .i64 4611686018427387904)] aI fun t76 aE=>I y0 (x8 t76 0) aE fun t77=>I y0 (x8 t76 1) aE fun bG=>I y0 (U .gtr af false true t77 (.int .i64 256)) aE fun bH=>O y0 fW [E,bH,bG] aE fun _ bI=>O y0 en [E,(.int .i64 1),(.int .i64 4611686018427387904)] bI fun aV aF=>I y0 (x8 aV 0) aF fun aW=>I y0 (x8 aV 1) aF fun bJ=>I y0 (U .gtr af false true aW (.int .i64 2147483648)) aF fun bK=>O y0 fW [E,bK,bJ] aF fun _ aJ=>I y0 (aj Y) aJ fun bL=>I y0 (x2 b3 bL 1) aJ fun bM=>aa y0 (x6 af bM aW) aJ fun _ bN=>bd (.int .i64 0) bN fun i ah k=>@aB aT (fun bO aY=>Split bO (O y0 en [E,(.int .i64 1),bF] aY fun aZ aG=>I y0 (x8 aZ 0) aG fun a2=>I y0 (x8 aZ 1) aG fun bP=>I y0 (U .gtr af false true a2 (.int .i64 32)) aG fun bQ=>O y0 fW [E,bQ,bP] aG fun _ aH=>I y0 (aj Y) aH fun bR=>I y0 (x2 b3 bR 2) aH fun bS=>I y0 (x1 ae bS) aH fun bT=>aa y0 (u9 ae 1 #[(0,a2)]) aH fun bU bV=>aa y0 (r8 #[ae,ae] ae #[bT,bU]) bV fun bW aK=>I y0 (aj Y) aK fun bX=>I y0 (x2 b3 bX 2) aK fun bZ=>aa y0 (x6 ae bZ bW) aK fun _ a6=>I y0 (U .add af false true i (.int .i64 1)) a6 fun b1=>k b1 a6) (bd (.int .i64 0) aY fun a7 ak b2=>@aB aT (fun b4 W=>Split b4 (aS W fun ab=>I y0 (aj Y) ab fun av=>I y0 (x2 b3 av 3) ab fun aw=>I y0 (x1 bY aw) ab fun aL=>I y0 (aj Y) ab fun b5=>I y0 (x2 b3 b5 2) ab fun b6=>I y0 (x1 ae b6) ab fun b7=>O y0 mo [E,b7] ab fun b8 ax=>(Ext ab ax∨ai y0 (x1 bY aw) aL ax∧ai y0 (x2 b3 av 3) aw ax∧ai y0 (aj Y) av ax∧True)∧aa y0 (u9 bY 1 #[(0,b8)]) ax fun b9 ay=>(Ext ab ay∨ai y0 (x1 bY aw) aL ay∧ai y0 (x2 b3 av 3) aw ay∧ai y0 (aj Y) av ay∧True)∧aa y0 (r8 #[bY,bY] bY #[aL,b9]) ay fun ca aM=>I y0 (aj Y) aM fun cb=>I y0 (x2 b3 cb 3) aM fun cc=>aa y0 (x6 bY cc ca) aM fun _ a8=>I y0 (U .add af false true a7 (.int .i64 1)) a8 fun cd=>b2 cd a8) (@aB dF (fun al=>@aB dF (fun X=>I y0 (aj E) X fun ce=>I y0 (x2 aN ce 3) X fun cg=>I y0 (x1 J cg) X fun ch=>I y0 (U .neq J false true ch (.int .i64 0)) X fun ci=>Split ci (aS X fun am=>I y0 (aj E) am fun cj=>I y0 (x2 aN cj 4) am fun ck=>I y0 (x1 J ck) am fun cl=>I y0 (aj E) am fun cm=>I y0 (x2 aN cm 3) am fun cn=>I y0 (x1 J cn) am fun cp=>ac (.tuple #[(.pointer none),cl,cp]) am) (I y0 (aj E) X fun cq=>I y0 (x2 aN cq 5) X fun cr=>I y0 (x1 J cr) X fun ct=>I y0 (U .neq J false true ct (.int .i64 0)) X fun cu=>Split cu (aS X fun ao=>I y0 (aj E) ao fun cw=>I y0 (x2 aN cw 6) ao fun cz=>I y0 (x1 J cz) ao fun cB=>I y0 (aj E) ao fun cC=>I y0 (x2 aN cC 5) ao fun cD=>I y0 (x1 J cD) ao fun cE=>ac (.tuple #[(.pointer none),cB,cE]) ao) (I y0 (u6 #[aX] J #[V]) X fun cF=>ac (.tuple #[Y,cF,(.int .i64 0)]) X))) fun ba=>@aB aT (fun cG bb=>Split cG (O y0 fA [E,(.int .i64 11),az] bb fun _ cH=>ba cH) (ba bb)) fun bc=>I y0 (aj E) al fun cI=>I y0 (x2 aN cI 3) al fun cJ=>I y0 (x1 J cJ) al fun cK=>I y0 (U .eql J false true cK (.int .i64 0)) al fun cL=>Split cL (I y0 (U .geq J false true az (.int .i64 0)) al fun cM=>bc cM al) (bc (.bool false) al)) fun be=>@aB aT (fun cN ad=>Split cN (I y0 (aj E) ad fun cO=>I y0 (x2 aN cO 0) ad fun cP=>I y0 (x1 cA cP) ad fun cQ=>I y0 (x7 cA cQ (.int .i64 0)) ad fun cR=>I y0 (x2 bp cR 1) ad fun cS=>I y0 (x1 J cS) ad fun cT=>O y0 fA [E,(.int .i64 4),cT] ad fun _ cU=>be cU) (be ad)) fun bf=>I y0 (aj E) W fun cV=>I y0 (x2 aN cV 3) W fun cW=>I y0 (x1 J cW) W fun cX=>I y0 (U .eql J false true cX (.int .i64 0)) W fun cY=>Split cY (I y0 (aj E) W fun cZ=>I y0 (x2 aN cZ 0) W fun c0=>I y0 (x1 cA c0) W fun c1=>I y0 (u6 #[cA] J #[c1]) W fun c2=>I y0 (U .gtr J false true c2 (.int .i64 0)) W fun c3=>bf c3 W) (bf (.bool false) W))) fun bg=>I y0 (U .lss af false false a7 t77) ak fun c4=>Split c4 (I y0 (aj E) ak fun c5=>I y0 (x2 aN c5 3) ak fun c6=>I y0 (x1 J c6) ak fun c7=>I y0 (U .eql J false true c7 (.int .i64 0)) ak fun c8=>bg c8 ak) (bg (.bool false) ak))) fun bh=>I y0 (U .lss af false false i aR) ah fun c9=>Split c9 (I y0 (aj E) ah fun da=>I y0 (x2 aN da 3) ah fun db=>I y0 (x1 J db) ah fun dc=>I y0 (U .eql J false true dc (.int .i64 0)) ah fun dd=>bh dd ah) (bh (.bool false) ah)) fun bi=>I y0 (U .geq J false true az (.int .i64 0)) aq fun de=>Split de (I y0 (aj E) aq fun df=>I y0 (x2 aN df 1) aq fun t39=>aa y0 (x6 J t39 az) aq fun _ aO=>I y0 (aj E) aO fun dg=>I y0 (x2 aN dg 2) aO fun dh=>aa y0 (x6 J dh (.int .i64 11)) aO fun _ di=>bi di) (bi aq))):O y0 n2 [V] Z ac:=aD Tryz.func68 rfl (by kernel_rfl) (by kernel_rfl) h
theorem n3.enter (h:O y0 om [V] Z fun aL ah=>I y0 (x8 aL 0) ah fun ax=>I y0 (x8 aL 1) ah fun aM=>I y0 (U .neq bJ false true aM (.int .i64 0)) ah fun a1=>Split a1 (ac (.tuple #[(.pointer none),aM]) ah) (I y0 (Z3 cK #[(0,ax)]) ah fun t22=>aa y0 (Z5 cK t22) ah fun E al=>I y0 (aj ax) al fun t25=>I y0 (x2 bg t25 2) al fun a2=>I y0 (x1 ab a2) al fun aN=>I y0 (u6 #[ab] J #[aN]) al fun a6=>bd (.int .i64 0) al fun ay X k=>I y0 (U .lss J false false ay a6) X fun a7=>Split a7 (I y0 (x7 ab aN ay) X fun a8=>I y0 (x1 J a8) X fun aO=>aS X fun ak=>I y0 (aj E) ak fun am=>I y0 (x2 cK am 2) ak fun ao=>I y0 (x1 b5 ao) ak fun az=>aa y0 (U7 ae aO aO) ak fun t39 ap=>(Ext ak ap∨ai y0 (x1 b5 ao) az ap∧ai y0 (x2 cK am 2) ao ap∧ai y0 (aj E) am ap∧True)∧aa y0 (u9 b5 1 #[(0,t39)]) ap fun ba aq=>(Ext ak aq∨ai y0 (x1 b5 ao) az aq∧ai y0 (x2 cK am 2) ao aq∧ai y0 (aj E) am aq∧True)∧aa y0 (r8 #[b5,b5] b5 #[az,ba]) aq fun bb aA=>I y0 (aj E) aA fun bc=>I y0 (x2 cK bc 2) aA fun be=>aa y0 (x6 b5 be bb) aA fun _ aP=>I y0 (U .add J false true ay (.int .i64 1)) aP fun bf=>k bf aP) (I y0 (aj ax) X fun t46=>I y0 (x2 bg t46 3) X fun bh=>I y0 (x1 bO bh) X fun aQ=>I y0 (u6 #[bO] J #[aQ]) X fun bi=>bd (.int .i64 0) X fun t50 au bk=>I y0 (U .lss J false false t50 bi) au fun bl=>Split bl (@aB dF (fun aR=>I y0 (U .add J false true t50 (.int .i64 1)) aR fun bm=>bk bm aR) fun aC=>I y0 (x7 bO aQ t50) au fun bn=>I y0 (x1 bj bn) au fun t53=>aa y0 (n0 bj true (.tuple #[])) au fun x bo=>aa y0 (x6 bj x t53) bo fun _ aE=>I y0 (x2 bj x 1) aE fun t55=>I y0 (x1 b6 t55) aE fun bp=>O y0 mq [bp] aE fun aT W=>I y0 (x8 aT 0) W fun aF=>I y0 (x8 aT 1) W fun _=>I y0 (x2 bj x 0) W fun bq=>I y0 (x1 ab bq) W fun br=>I y0 (u6 #[ab] J #[br]) W fun aU=>I y0 (U .eql J false true aU (.int .i64 0)) W fun t77=>Split t77 (O y0 hj [aF] W fun bt av=>I y0 (x7 ae bt (.int .i64 0)) av fun bu=>I y0 (x1 af bu) av fun bw=>I y0 (aj E) av fun bx=>I y0 (x2 cK bx 1) av fun bz=>aa y0 (x6 af bz bw) av fun _ bA=>aC bA) (I y0 (U .eql J false true aU (.int .i64 1)) W fun bB=>Split bB (aS W fun Y=>I y0 (aj E) Y fun aG=>I y0 (x2 cK aG 2) Y fun aH=>I y0 (x1 b5 aH) Y fun aV=>I y0 (x2 bj x 0) Y fun aI=>I y0 (x1 ab aI) Y fun aW=>I y0 (x7 ab aW (.int .i64 0)) Y fun aX=>I y0 (x1 J aX) Y fun aY=>O y0 hj [aF] Y fun bC ad=>(Ext Y ad∨ai y0 (x1 J aX) aY ad∧ai y0 (x1 ab aI) aW ad∧ai y0 (x2 bj x 0) aI ad∧ai y0 (x1 b5 aH) aV ad∧ai y0 (x2 cK aG 2) aH ad∧ai y0 (aj E) aG ad∧True)∧I y0 (x7 b5 aV aY) ad fun bD=>aa y0 (x6 ae bD bC) ad fun _ bE=>aC bE) (aS W fun ag=>I y0 (aj E) ag fun aJ=>I y0 (x2 cK aJ 3) ag fun t66=>I y0 (x1 ep t66) ag fun aZ=>I y0 (x2 bj x 0) ag fun bF=>I y0 (x1 ab bF) ag fun bG=>I y0 (Z3 fi #[(0,bG),(1,aF)]) ag fun bH=>aa y0 (u9 ep 1 #[(0,bH)]) ag fun bI aw=>(Ext ag aw∨ai y0 (x1 ep t66) aZ aw∧ai y0 (x2 cK aJ 3) t66 aw∧ai y0 (aj E) aJ aw∧True)∧aa y0 (r8 #[ep,ep] ep #[aZ,bI]) aw fun bK aK=>I y0 (aj E) aK fun bL=>I y0 (x2 cK bL 3) aK fun bM=>aa y0 (x6 ep bM bK) aK fun _ bN=>aC bN))) (ac (.tuple #[E,(.int .i64 0)]) au)))):O y0 n3 [V] Z ac:=aD Tryz.func69 rfl (by kernel_rfl) (by kernel_rfl) h
theorem n4.enter (h:aa y0 (Z5 bX V) Z fun ah aV=>aa y0 (n0 a6 true (.tuple #[])) aV fun aF ad=>I y0 (x2 bX ah 0) ad fun aW=>I y0 (x1 af aW) ad fun aX=>I y0 (x2 bX ah 1) ad fun aY=>I y0 (x1 ab aY) ad fun aZ=>I y0 (x2 bX ah 2) ad fun a1=>I y0 (x1 af a1) ad fun a2=>I y0 (Z3 a6 #[(0,aX),(1,aZ),(2,a2)]) ad fun a7=>aa y0 (n0 a6 true (.tuple #[])) ad fun s a8=>aa y0 (x6 a6 s a7) a8 fun _ aq=>I y0 (x2 bX ah 1) aq fun bb=>I y0 (x1 ab bb) aq fun aG=>I y0 (u6 #[ab] J #[aG]) aq fun bc=>bd (.int .i64 0) aq fun au ag k=>I y0 (U .lss J false false au bc) ag fun be=>Split be (I y0 (x7 ab aG au) ag fun bf=>I y0 (x1 J bf) ag fun bg=>ba (.slice none 0 0) (.int .i64 0) ag fun d v am bh=>I y0 (U .lss J false false v bg) am fun bi=>Split bi (aa y0 (u9 ab 1 #[(0,v)]) am fun bj bk=>aa y0 (r8 #[ab,ab] ab #[d,bj]) bk fun bl aH=>I y0 (U .add J false true v (.int .i64 1)) aH fun bm=>bh bl bm aH) (I y0 (x2 a6 s 3) am fun bn=>I y0 (x1 cz bn) am fun bp=>aa y0 (u9 cz 1 #[(0,d)]) am fun bq br=>aa y0 (r8 #[cz,cz] cz #[bp,bq]) br fun bt aI=>I y0 (x2 a6 s 3) aI fun t39=>aa y0 (x6 cz t39 bt) aI fun _ ay=>I y0 (x2 a6 s 4) ay fun bu=>I y0 (x1 fM bu) ay fun bw=>aa y0 (u9 fM 1 #[(0,(.bool false))]) ay fun bx bz=>aa y0 (r8 #[fM,fM] fM #[bw,bx]) bz fun bA aJ=>I y0 (x2 a6 s 4) aJ fun bB=>aa y0 (x6 fM bB bA) aJ fun _ bC=>aS bC fun W=>I y0 (x2 a6 s 5) W fun t45=>I y0 (x1 b5 t45) W fun t46=>I y0 (x2 bX ah 3) W fun az=>I y0 (x1 b5 az) W fun aK=>I y0 (x7 b5 aK au) W fun aL=>I y0 (x1 ae aL) W fun aM=>aa y0 (u9 ae 0 #[]) W fun bD aj=>(Ext W aj∨ai y0 (x1 ae aL) aM aj∧ai y0 (x1 b5 az) aK aj∧ai y0 (x2 bX ah 3) az aj∧ai y0 (x1 b5 t45) t46 aj∧ai y0 (x2 a6 s 5) t45 aj∧True)∧aa y0 (r8 #[ae,ae] ae #[bD,aM]) aj fun t53 av=>(Ext W av∨ai y0 (x1 b5 t45) t46 av∧ai y0 (x2 a6 s 5) t45 av∧True)∧aa y0 (u9 b5 1 #[(0,t53)]) av fun bE aw=>(Ext W aw∨ai y0 (x1 b5 t45) t46 aw∧ai y0 (x2 a6 s 5) t45 aw∧True)∧aa y0 (r8 #[b5,b5] b5 #[t46,bE]) aw fun t55 aN=>I y0 (x2 a6 s 5) aN fun bF=>aa y0 (x6 b5 bF t55) aN fun _ aO=>I y0 (U .add J false true au (.int .i64 1)) aO fun bG=>k bG aO)) (I y0 (x2 bX ah 4) ag fun bH=>I y0 (x1 bo bH) ag fun aP=>I y0 (u6 #[bo] J #[aP]) ag fun bI=>bd (.int .i64 0) ag fun aA al bJ=>I y0 (U .lss J false false aA bI) al fun bK=>Split bK (I y0 (x7 bo aP aA) al fun bL=>I y0 (x1 aE bL) al fun bM=>aa y0 (n0 aE true (.tuple #[])) al fun f bN=>aa y0 (x6 aE f bM) bN fun _ bO=>aS bO fun E=>I y0 (x2 a6 s 6) E fun ak=>I y0 (x1 dX ak) E fun t66=>I y0 (x2 aE f 0) E fun ao=>I y0 (x1 ab ao) E fun aB=>I y0 (x2 aE f 1) E fun ap=>I y0 (x1 ab ap) E fun t70=>I y0 (x2 aE f 2) E fun aC=>I y0 (x1 ae aC) E fun aQ=>aa y0 (u9 ae 0 #[]) E fun bP X=>(Ext E X∨ai y0 (x1 ae aC) aQ X∧ai y0 (x2 aE f 2) aC X∧ai y0 (x1 ab ap) t70 X∧ai y0 (x2 aE f 1) ap X∧ai y0 (x1 ab ao) aB X∧ai y0 (x2 aE f 0) ao X∧ai y0 (x1 dX ak) t66 X∧ai y0 (x2 a6 s 6) ak X∧True)∧aa y0 (r8 #[ae,ae] ae #[bP,aQ]) X fun bQ Y=>(Ext E Y∨ai y0 (x1 ab ap) t70 Y∧ai y0 (x2 aE f 1) ap Y∧ai y0 (x1 ab ao) aB Y∧ai y0 (x2 aE f 0) ao Y∧ai y0 (x1 dX ak) t66 Y∧ai y0 (x2 a6 s 6) ak Y∧True)∧I y0 (Z3 aE #[(0,aB),(1,t70),(2,bQ)]) Y fun bR=>I y0 (Z3 gv #[(0,bR),(1,(.bool true))]) Y fun t76=>aa y0 (u9 dX 1 #[(0,t76)]) Y fun t77 ax=>(Ext E ax∨ai y0 (x1 dX ak) t66 ax∧ai y0 (x2 a6 s 6) ak ax∧True)∧aa y0 (r8 #[dX,dX] dX #[t66,t77]) ax fun bS aR=>I y0 (x2 a6 s 6) aR fun bT=>aa y0 (x6 dX bT bS) aR fun _ aT=>I y0 (U .add J false true aA (.int .i64 1)) aT fun bU=>bJ bU aT) (I y0 (x1 a6 s) al fun bV=>aa y0 (x6 a6 aF bV) al fun _ aU=>I y0 (do loadVar a6 (←asAddr aF)) aU fun r=>ac r aU))):O y0 n4 [V] Z ac:=aD Tryz.func70 rfl (by kernel_rfl) (by kernel_rfl) h
theorem n5.enter (h:aa y0 (n0 bX true (.tuple #[])) Z fun av ad=>I y0 (aj V) ad fun t9=>I y0 (x2 b3 t9 1) ad fun aI=>I y0 (x1 af aI) ad fun aJ=>I y0 (Z3 bX #[(0,aJ)]) ad fun aK=>aa y0 (n0 bX true (.tuple #[])) ad fun n aL=>aa y0 (x6 bX n aK) aL fun _ ag=>I y0 (aj V) ag fun aM=>I y0 (x2 b3 aM 2) ag fun aN=>I y0 (x1 ae aN) ag fun aw=>I y0 (u6 #[ae] J #[aw]) ag fun aO=>bd (.int .i64 0) ag fun ao X k=>I y0 (U .lss J false false ao aO) X fun aP=>Split aP (I y0 (x7 ae aw ao) X fun aQ=>I y0 (x1 af aQ) X fun ap=>I y0 (x2 bX n 1) X fun t22=>I y0 (x1 ab t22) X fun aR=>aa y0 (u9 ab 1 #[(0,ap)]) X fun t25 aT=>aa y0 (r8 #[ab,ab] ab #[aR,t25]) aT fun aU ax=>I y0 (x2 bX n 1) ax fun aV=>aa y0 (x6 ab aV aU) ax fun _ aW=>aS aW fun ah=>I y0 (x2 bX n 3) ah fun ak=>I y0 (x1 b5 ak) ah fun aq=>aa y0 (U7 ae ap ap) ah fun aX al=>(Ext ah al∨ai y0 (x1 b5 ak) aq al∧ai y0 (x2 bX n 3) ak al∧True)∧aa y0 (u9 b5 1 #[(0,aX)]) al fun aY am=>(Ext ah am∨ai y0 (x1 b5 ak) aq am∧ai y0 (x2 bX n 3) ak am∧True)∧aa y0 (r8 #[b5,b5] b5 #[aq,aY]) am fun aZ ay=>I y0 (x2 bX n 3) ay fun a1=>aa y0 (x6 b5 a1 aZ) ay fun _ az=>I y0 (U .add J false true ao (.int .i64 1)) az fun a2=>k a2 az) (O y0 oo [V] X fun aA aC=>I y0 (u6 #[bo] J #[aA]) aC fun a6=>bd (.int .i64 0) aC fun t39 Y a7=>I y0 (U .lss J false false t39 a6) Y fun a8=>Split a8 (@aB dF (fun aF=>I y0 (U .add J false true t39 (.int .i64 1)) aF fun t70=>a7 t70 aF) fun au=>I y0 (x7 bo aA t39) Y fun ba=>I y0 (x1 aE ba) Y fun bb=>aa y0 (n0 aE true (.tuple #[])) Y fun g bc=>aa y0 (x6 aE g bb) bc fun _ E=>I y0 (x2 aE g 0) E fun be=>I y0 (x1 ab be) E fun bf=>I y0 (u6 #[ab] J #[bf]) E fun t45=>I y0 (U .eql J false true t45 (.int .i64 0)) E fun t53=>Split t53 (I y0 (x2 aE g 2) E fun bg=>I y0 (x1 ae bg) E fun t55=>I y0 (x7 ae t55 (.int .i64 0)) E fun bh=>I y0 (x1 af bh) E fun bi=>I y0 (x2 bX n 2) E fun bj=>aa y0 (x6 af bj bi) E fun _ bk=>au bk) (I y0 (U .eql J false true t45 (.int .i64 1)) E fun bl=>Split bl (aS E fun W=>I y0 (x2 bX n 3) W fun bm=>I y0 (x1 b5 bm) W fun bn=>I y0 (x2 aE g 0) W fun bp=>I y0 (x1 ab bp) W fun bq=>I y0 (x7 ab bq (.int .i64 0)) W fun br=>I y0 (x1 J br) W fun t66=>I y0 (x2 aE g 2) W fun bt=>I y0 (x1 ae bt) W fun bu=>I y0 (x7 b5 bn t66) W fun bw=>aa y0 (x6 ae bw bu) W fun _ bx=>au bx) (I y0 (x2 bX n 4) E fun t46=>I y0 (x1 bo t46) E fun bz=>I y0 (x1 aE g) E fun bA=>aa y0 (u9 bo 1 #[(0,bA)]) E fun bB bC=>aa y0 (r8 #[bo,bo] bo #[bz,bB]) bC fun t50 aG=>I y0 (x2 bX n 4) aG fun bD=>aa y0 (x6 bo bD t50) aG fun _ bE=>au bE))) (I y0 (x1 bX n) Y fun bF=>aa y0 (x6 bX av bF) Y fun _ aH=>I y0 (do loadVar bX (←asAddr av)) aH fun r=>ac r aH))):O y0 n5 [V] Z ac:=aD Tryz.func71 rfl (by kernel_rfl) (by kernel_rfl) h
theorem js.enter (h:@aB aT (fun aa E=>Split aa (ac (.int .i64 (-1)) E) (I y0 (aj V) E fun ad=>I y0 (x2 aM ad 2) E fun ae=>I y0 (x1 ab ae) E fun af=>I y0 (x7 ab af an) E fun ag=>I y0 (x1 J ag) E fun ah=>I y0 (U .add J false true ah (.int .i64 2)) E fun ai=>I y0 (U .add J false false ai bb) E fun ak=>ac ak E)) fun X=>O y0 iB [V,an] Z fun t9 W=>I y0 (Z4 .not t9) W fun al=>Split al (X (.bool true) W) (I y0 (U .lss J false true bb (.int .i64 0)) W fun am=>Split am (X (.bool true) W) (I y0 (aj V) W fun ao=>I y0 (x2 aM ao 0) W fun ap=>I y0 (x1 dl ap) W fun aq=>O y0 mf [aq,an] W fun t22 Y=>I y0 (U .geq J false false bb t22) Y fun au=>X au Y))):O y0 js [V,an,bb] Z ac:=aD Tryz.func72 rfl (by kernel_rfl) (by kernel_rfl) h
theorem gS.enter (h:I y0 (U .eql dm false true V (.pointer none)) Z fun ap=>Split ap (ac (.int .i64 2) Z) (O y0 mr [V,an] Z fun aq E=>I y0 (Z4 .not aq) E fun au=>Split au (ac (.int .i64 3) E) (@aB dF (fun ab=>I y0 (aj V) ab fun t77=>I y0 (x2 cX t77 0) ab fun av=>I y0 (x1 dn av) ab fun aw=>I y0 (x7 dn aw an) ab fun ax=>I y0 (x2 du ax 0) ab fun ay=>aa y0 (x6 af ay bb) ab fun _ az=>ac (.int .i64 0) az) fun ae=>I y0 (aj V) E fun aA=>I y0 (x2 cX aA 2) E fun aC=>I y0 (x1 kr aC) E fun aE=>I y0 (u6 #[kr] J #[aE]) E fun al=>I y0 (U .gtr J false true al (.int .i64 0)) E fun aF=>Split aF (I y0 (aj V) E fun t25=>I y0 (x2 cX t25 2) E fun aG=>I y0 (x1 kr aG) E fun aH=>I y0 (U .sub J false true al (.int .i64 1)) E fun aI=>I y0 (x7 kr aH aI) E fun aJ=>I y0 (x1 dY aJ) E fun aK=>aa y0 (n0 dY true (.tuple #[])) E fun m aL=>aa y0 (x6 dY m aK) aL fun _ aM=>@aB aT (fun aN am=>Split aN (aS am fun X=>I y0 (aj V) X fun ag=>I y0 (x2 cX ag 1) X fun ah=>I y0 (x1 gw ah) X fun t53=>I y0 (aj V) X fun aO=>I y0 (x2 cX aO 0) X fun aP=>I y0 (x1 dn aP) X fun aQ=>I y0 (x7 dn aQ an) X fun aR=>I y0 (x1 du aR) X fun aU=>I y0 (Z3 iG #[(0,an),(1,aU)]) X fun aV=>aa y0 (u9 gw 1 #[(0,aV)]) X fun aW ad=>(Ext X ad∨ai y0 (x1 gw ah) t53 ad∧ai y0 (x2 cX ag 1) ah ad∧ai y0 (aj V) ag ad∧True)∧aa y0 (r8 #[gw,gw] gw #[t53,aW]) ad fun aX ak=>I y0 (aj V) ak fun aY=>I y0 (x2 cX aY 1) ak fun t66=>aa y0 (x6 gw t66 aX) ak fun _ aZ=>aS aZ fun Y=>I y0 (aj V) Y fun a1=>I y0 (x2 cX a1 0) Y fun a2=>I y0 (x1 dn a2) Y fun t70=>I y0 (x2 dY m 2) Y fun a6=>I y0 (x1 bG a6) Y fun a7=>I y0 (x7 dn t70 an) Y fun a8=>I y0 (x2 du a8 1) Y fun ba=>aa y0 (x6 bG ba a7) Y fun _ bc=>ae bc) (ae am)) fun ao=>aS aM fun W=>I y0 (aj V) W fun bd=>I y0 (x2 cX bd 0) W fun be=>I y0 (x1 dn be) W fun bf=>I y0 (x7 dn bf an) W fun bg=>I y0 (x2 du bg 1) W fun bh=>I y0 (x1 bG bh) W fun t39=>I y0 (x2 dY m 2) W fun bi=>I y0 (x1 bG bi) W fun bj=>I y0 (U .lss bG false false t39 bj) W fun bk=>Split bk (I y0 (x2 dY m 1) W fun t45=>I y0 (x1 J t45) W fun t46=>I y0 (U .lss J false false an t46) W fun bl=>ao bl W) (ao (.bool false) W)) (ae E)))):O y0 gS [V,an,bb] Z ac:=aD Tryz.func73 rfl (by kernel_rfl) (by kernel_rfl) h
theorem fV.enter (h:O y0 mr [V,an] Z fun J E=>I y0 (Z4 .not J) E fun U=>Split U (ac (.int .i64 0) E) (I y0 (aj V) E fun W=>I y0 (x2 cX W 0) E fun X=>I y0 (x1 dn X) E fun Y=>I y0 (x7 dn Y an) E fun aa=>I y0 (x2 du aa 0) E fun ab=>I y0 (x1 af ab) E fun ad=>ac ad E)):O y0 fV [V,an] Z ac:=aD Tryz.func74 rfl (by kernel_rfl) (by kernel_rfl) h
theorem iB.enter (h:@aB aT (fun t4 X=>ac t4 X) fun E=>I y0 (U .geq J false true an (.int .i64 0)) Z fun Y=>Split Y (O y0 iA [V] Z fun aa W=>I y0 (U .lss J false false an aa) W fun ab=>E ab W) (E (.bool false) Z)):O y0 iB [V,an] Z ac:=aD Tryz.func75 rfl (by kernel_rfl) (by kernel_rfl) h
theorem n7.enter (h:aa y0 (n0 bk true (.tuple #[])) Z fun W X=>@aB aT (fun t9 E=>Split t9 (I y0 (Z3 bk #[]) E fun ae=>aa y0 (x6 bk W ae) E fun _ Y=>I y0 (do loadVar bk (←asAddr W)) Y fun r=>ac (.tuple #[r,(.int .i64 1)]) Y) (I y0 (U .shl bG true false (.int .u64 1) V) E fun af=>I y0 (U .sub bG false true af (.int .u64 1)) E fun ag=>I y0 (Z3 bk #[(0,ag),(1,V)]) E fun ah=>aa y0 (x6 bk W ah) E fun _ ab=>I y0 (do loadVar bk (←asAddr W)) ab fun ai=>ac (.tuple #[ai,(.int .i64 0)]) ab)) fun ad=>I y0 (U .lss J false true V (.int .i64 1)) X fun t5=>Split t5 (ad (.bool true) X) (I y0 (U .gtr J false true V (.int .i64 32)) X fun aj=>ad aj X)):O y0 n7 [V] Z ac:=aD Tryz.func76 rfl (by kernel_rfl) (by kernel_rfl) h
theorem mf.enter (h:O y0 mj [V,an] Z fun U E=>I y0 (u6 #[ae] J #[U]) E fun W=>ac W E):O y0 mf [V,an] Z ac:=aD Tryz.func77 rfl (by kernel_rfl) (by kernel_rfl) h
theorem n8.enter (h:aa y0 (Z5 bk V) Z fun J ae=>aa y0 (n0 bk true (.tuple #[])) ae fun t4 W=>@aB dF (fun X=>I y0 (x1 bk J) X fun af=>aa y0 (x6 bk t4 af) X fun _ Y=>I y0 (do loadVar bk (←asAddr t4)) Y fun r=>ac r Y) fun ab=>I y0 (x1 bk J) W fun t5=>O y0 mg [t5,an] W fun ag ad=>Split ag (aS ad fun E=>I y0 (x2 bk J 0) E fun ah=>I y0 (x1 bG ah) E fun t9=>I y0 (U .shl bG true false (.int .u64 1) an) E fun ai=>I y0 (U .andNot bG false false t9 ai) E fun aj=>I y0 (x2 bk J 0) E fun ak=>aa y0 (x6 bG ak aj) E fun _ al=>ab al) (ab ad)):O y0 n8 [V,an] Z ac:=aD Tryz.func78 rfl (by kernel_rfl) (by kernel_rfl) h
theorem mg.enter (h:aa y0 (Z5 bk V) Z fun X E=>@aB aT (fun t4 Y=>ac t4 Y) fun W=>I y0 (U .geq J false true an (.int .i64 0)) E fun ab=>Split ab (I y0 (x2 bk X 1) E fun t9=>I y0 (x1 J t9) E fun ad=>I y0 (U .lss J false false an ad) E fun ae=>W ae E) (W (.bool false) E)):O y0 mg [V,an] Z ac:=aD Tryz.func79 rfl (by kernel_rfl) (by kernel_rfl) h
theorem jt.enter (h:@aB aT (fun Y E=>Split Y (ac (.tuple #[(.int .i64 0),(.int .i64 3)]) E) (I y0 (U .add af false false V an) E fun aa=>I y0 (T1 #[af,af] af #[aa,bb]) E fun t22=>ac (.tuple #[t22,(.int .i64 0)]) E)) fun W=>O y0 hU [V,bb] Z fun ab J=>I y0 (Z4 .not ab) J fun ad=>Split ad (W (.bool true) J) (O y0 hU [an,bb] J fun ae X=>I y0 (Z4 .not ae) X fun ag=>W ag X)):O y0 jt [V,an,bb] Z ac:=aD Tryz.func80 rfl (by kernel_rfl) (by kernel_rfl) h
theorem oa.enter (h:I y0 (U .add af false false V an) Z fun t9=>I y0 (U .gtr af false false t9 bb) Z fun E=>Split E (ac bb Z) (I y0 (U .add af false false V an) Z fun J=>ac J Z)):O y0 oa [V,an,bb] Z ac:=aD Tryz.func81 rfl (by kernel_rfl) (by kernel_rfl) h
theorem k0.enter (h:O y0 oq [V] Z fun al af=>I y0 (x8 al 0) af fun ap=>I y0 (x8 al 1) af fun am=>aa y0 (n0 aK true (.tuple #[])) af fun s aq=>aa y0 (x6 aK s ap) aq fun _ ag=>I y0 (U .neq bJ false true am (.int .i64 0)) ag fun au=>Split au (ac (.tuple #[(.pointer none),am]) ag) (O y0 hU [bb,an] ag fun t22 ah=>I y0 (Z4 .not t22) ah fun av=>Split av (ac (.tuple #[(.pointer none),(.int .i64 3)]) ah) (aB (α:=x4→x4→x5→Prop) (fun(aw ax:x4) (ay:x5)=>ac (.tuple #[aw,ax]) ay) fun ao=>aS ah fun E=>I y0 (x1 aK s) E fun J=>I y0 (x1 aK s) E fun W=>(aa y0 (u9 ae 1 #[(0,bb)]) E fun az X=>(Ext E X∨ai y0 (x1 aK s) W X∧ai y0 (x1 aK s) J X∧True)∧O y0 iE [W] X fun aA aj=>(Ext E aj∨ai y0 (x1 aK s) J aj∧True)∧O y0 mu [az,aA] aj fun aC Y=>(Ext E Y∨ai y0 (x1 aK s) J Y∧True)∧I y0 (Z3 bq #[(0,J),(1,an),(2,aC)]) Y fun aE=>aa y0 (Z5 bq aE) Y fun aF aG=>ao aF (.int .i64 0) aG)∧(O y0 iE [W] E fun aH ak=>(Ext E ak∨ai y0 (x1 aK s) J ak∧True)∧aa y0 (u9 ae 1 #[(0,bb)]) ak fun aI ab=>(Ext E ab∨ai y0 (x1 aK s) W ab∧ai y0 (x1 aK s) J ab∧True)∧O y0 mu [aI,aH] ab fun aJ ad=>(Ext E ad∨ai y0 (x1 aK s) J ad∧True)∧I y0 (Z3 bq #[(0,J),(1,an),(2,aJ)]) ad fun aL=>aa y0 (Z5 bq aL) ad fun aM aN=>ao aM (.int .i64 0) aN)))):O y0 k0 [V,an,bb] Z ac:=aD Tryz.func89 rfl (by kernel_rfl) (by kernel_rfl) h
theorem k1.enter (h:I y0 (u6 #[ab] J #[V]) Z fun t9=>I y0 (U .eql J false true t9 (.int .i64 0)) Z fun af=>Split af (aa y0 (u9 cz 1 #[(0,(.slice none 0 0))]) Z fun ag ah=>ac ag ah) (I y0 (j4 ab V (some (.int .i64 1)) none none) Z fun ai=>O y0 k1 [ai] Z fun Y aj=>ba (.slice none 0 0) (.int .i64 0) aj fun out v E k=>I y0 (x7 ab V (.int .i64 0)) E fun ak=>I y0 (x1 J ak) E fun al=>I y0 (U .lss J false false v al) E fun am=>Split am (I y0 (u6 #[cz] J #[Y]) E fun ao=>ba out (.int .i64 0) E fun ad X W ap=>I y0 (U .lss J false false X ao) W fun t25=>Split t25 (I y0 (x7 cz Y X) W fun aq=>I y0 (x1 ab aq) W fun au=>aa y0 (u9 ab 1 #[(0,v)]) W fun av aw=>aa y0 (r8 #[ab,ab] ab #[av,au]) aw fun ax ay=>aa y0 (u9 cz 1 #[(0,ax)]) ay fun az aA=>aa y0 (r8 #[cz,cz] cz #[ad,az]) aA fun aB ae=>I y0 (U .add J false true X (.int .i64 1)) ae fun aC=>ap aB aC ae) (I y0 (U .add J false true v (.int .i64 1)) W fun aE=>k ad aE W)) (ac out E))):O y0 k1 [V] Z ac:=aD Tryz.func90 rfl (by kernel_rfl) (by kernel_rfl) h
theorem ob.enter (h:O y0 mv [V,an] Z fun W E=>I y0 (x8 W 0) E fun Y=>I y0 (x8 W 1) E fun X=>I y0 (U .neq bJ false true X (.int .i64 0)) E fun ab=>Split ab (ac X E) (I y0 (aj V) E fun t22=>I y0 (x2 bq t22 1) E fun ad=>I y0 (x1 af ad) E fun ag=>O y0 hU [bb,ag] E fun t25 J=>I y0 (Z4 .not t25) J fun ah=>Split ah (ac (.int .i64 3) J) (I y0 (aj V) J fun ai=>I y0 (x2 bq ai 2) J fun ak=>I y0 (x1 ae ak) J fun al=>I y0 (x7 ae al Y) J fun am=>aa y0 (x6 af am bb) J fun _ ao=>ac (.int .i64 0) ao))):O y0 ob [V,an,bb] Z ac:=aD Tryz.func91 rfl (by kernel_rfl) (by kernel_rfl) h
theorem hR.enter (h:I y0 (u6 #[ab] J #[V]) Z fun X=>ba (.int .i64 0) (.int .i64 0) Z fun t4 W E k=>I y0 (U .lss J false false W X) E fun t9=>Split t9 (I y0 (x7 ab V W) E fun Y=>I y0 (x1 J Y) E fun aa=>I y0 (U .eql J false false an aa) E fun ad=>Split ad (ac W E) (I y0 (U .add J false true W (.int .i64 1)) E fun ae=>k t4 ae E)) (ac (.int .i64 (-1)) E)):O y0 hR [V,an] Z ac:=aD Tryz.func103 rfl (by kernel_rfl) (by kernel_rfl) h
end
end Go.Proofs.YtgbkinibgjmodaaGreatDoor
