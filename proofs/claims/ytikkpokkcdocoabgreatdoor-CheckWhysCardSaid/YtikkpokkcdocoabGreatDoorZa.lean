/- own texts, made small by a tool (wip/ holds them as they were written): no statement of the seat. -/
import Derived.RangeFuncNested
import Derived.RangeFuncLeaves
import Derived.OrdersIn
import Derived.KernelRfl
import Derived.Deep.Upon
import Derived.RangeFuncBound
import Derived.Deep.MidRow
import Derived.Laws.Cover3
import Derived.Laws.Pointers
import Derived.Laws.StructEq
import Derived.Laws.Tables
import Derived.Below
import Derived.Laws.MakeOwn
import Derived.Lib.Overlaps
import Derived.Lib.AppendZerosOnto
import Derived.Lib.SliceRun
import Derived.OpenShut
import Derived.Lib.ConvBytes
import Derived.Laws.BytesArg
import Derived.Laws.Concat
import Derived.MapKept
import Derived.Carry
import Derived.WideKeyArr
import Derived.WideKeyMaps
import Derived.Laws.IdiomRangeMap
import Derived.Shelf.SlSortCmp.NoneTotal
import Derived.Shelf.SlSortCmp.WholeK
import Derived.Ground.SlsfProg
import Derived.WideKeyEntry
import Derived.WalkKit
import Derived.Test.YtikkpokkcdocoabGreatDoorProg
import Derived.Test.YtikkpokkcdocoabGreatDoorChecked
set_option linter.unusedVariables false
set_option linter.unusedSimpArgs false
set_option linter.unnecessarySimpa false
open Array renaming getElem?_eq_some_iff→j9,getElem?_toList→R6
open BitVec renaming ofInt→T5
open Bool renaming not_true→X2,not_false→V8,and_eq_true→V9,or_eq_false_iff→R5
open Decidable renaming not_not→Y3
open Go renaming Value→x1,World→x3,TypeId→p8,IntKind→n9,Builtin→Z6,Program→W9,Oper→T8,Operand→S9,Result→Q0,FuncId→Q4
open Go.Addr renaming add_mid→T4
open Go.Builtin renaming append_→Z5,len_→U1
open Go.Instr renaming loadAt→u5,fieldAt→u6,storeAt→l9,indexAt→c9,extract→Y4,buildSlice→Y5,sliceAt→U5,alloc→Q6
open Go.IntKind renaming i64→W5,u64→T1
open Go.Proofs.Tryz renaming prog→x7
open Go.Result renaming andThen→V6
open Go.Sem renaming run_bind→W7,run_pure→U2
open Go.Sort renaming Holds→R4
open Go.Value renaming int→U3
open Go.World renaming putObj_heap_other→Q5
open Int renaming toNat_natCast→u7,eq_ofNat_of_zero_le→W6
open List renaming getElem?_eq_some_iff→x4,mem_of_getElem?→x5,getElem?_eq_getElem→x6,getElem?_map→x8,getD_eq_getElem?_getD→u4,take_add_one→u9,length_append→r8,length_map→r9,mem_append→p9,replicate→o8,take_length→o9,mem_singleton→j5,length_take→j6,mem_map→c7,eq_nil_of_length_eq_zero→b6,getElem?_set_self→b8,length_cons→b9,length_set→Z0,take_of_length_le→Z2,range→Z4,getElem?_eq_none→Z7,map_append→Z9,getElem?_take_of_lt→Y2,getElem?_set_ne→Y6,append_nil→Y8,ext_getElem?→Y9,getElem?_append_left→X0,getElem?_append_right→X1,getElem?_set→X4,drop_eq_getElem_cons→X5,append_assoc→X6,mem_flatMap→X9,mem_range→W8,mem_or_eq_of_mem_set→V4,mem_cons→V5,length_eq_one_iff→V7,map_set→T0,map_cons→T3,length_range→S0,set_append_right→S2,getElem_mem→S3,mem_of_mem_take→S4,foldl_cons→S8
open Nat renaming le_refl→o4,le_trans→X3,zero_le→X8,zero_add→W0,mul_le_mul_right→V1,mul_one→U7,add_mul→U8,sub_self→U9,beq→S5,add_assoc→Q1,lt_of_lt_of_le→Q7,eq_zero_or_pos→Q8
open Option renaming toList_some→j4,isNone_some→Y0,map_some→Y1,getD_some→V2,map→U4
open Option.some renaming injEq→Y7
open Prod.mk renaming injEq→T6
set_option maxHeartbeats 16000000
open Option renaming some→σ,none→ν
abbrev Λ:=List Int
namespace Go
theorem F{α:Sort _}{a:α}:a=a:=rfl
theorem Ω{p:Prop}(h:p:=by omega):p:=h
theorem Ψ{p:Prop}(h:p:=by kernel_rfl):p:=h
theorem Φ{p:Prop}(h:p:=by decide):p:=h
theorem Ξ{p:Prop}(h:p:=by simp):p:=h
theorem Θ{p:Prop}(h:p:=by simp;omega):p:=h
abbrev Γ(n:Nat):Value:=.pointer (some ⟨n,0,none⟩)
abbrev Δ:Int→Value:=Value.int .i64
end Go
variable{a y:Int}{N c h j n:Nat}{J w:x3}{S:Nat->Prop}{aN f s1 sv v z:x1}{args cs vs xs:List x1}{K:x1->Prop}{al l:Λ}{D:List Nat}{k:n9}{e t:p8}{cx cy:Bool}
namespace Go.Vc
open Go Go.RowKit
def fF:Obj->Bool
 | .loop _=>false
 | .deferred _=>false
 | .mapIter ..=>false
 |_=>true
def book:Obj->Bool
 | .loop _=>true
 | .deferred _=>true
 |_=>false
theorem zI{o:Obj}(h:book o=true):fF o=false:=by cases o<;>first|rfl|cases h
def ta:Obj->Bool
 | .mapIter ..=>true
 |_=>false
theorem GY{o:Obj}(h:ta o=true):fF o=false:=by cases o<;>first|rfl|cases h
structure Ext(w J:x3):Prop where
 size:w.heap.size<=J.heap.size
 a6:∀(r:Nat)(o:Obj),w.heap[r]?=σ o->fF o=true->J.heap[r]?=σ o
theorem Ext.refl(w:x3):Ext w w:=⟨o4 _,λ_ _ h _=>h⟩
theorem Ext.trans{a b c:x3}(h:Ext a b)(k:Ext b c):Ext a c:=
 ⟨X3 h.size k.size,λr o e V=>k.a6 r o (h.a6 r o e V) V⟩
structure ai(S:Nat->Prop)(w J:x3):Prop where
 size:w.heap.size<=J.heap.size
 a6:∀(r:Nat)(o:Obj),w.heap[r]?=σ o->fF o=true->¬S r->J.heap[r]?=σ o
theorem Ext.ac(S:Nat->Prop)(h:Ext w J):ai S w J:=⟨h.size,λr o a V _=>h.a6 r o a V⟩
theorem ai.ext(h:ai S w J)(e:∀r,r<w.heap.size->¬S r):Ext w J:=
 ⟨h.size,λr o a V=>h.a6 r o a V (e r (j9.1 a).1)⟩
theorem ai.refl(S:Nat->Prop)(w:x3):ai S w w:=⟨o4 _,λ_ _ h _ _=>h⟩
theorem ai.trans{a b c:x3}(h:ai S a b)(k:ai S b c):ai S a c:=
 ⟨X3 h.size k.size,λr o f V e=>k.a6 r o (h.a6 r o f V e) V e⟩
theorem ai.mono{T:Nat->Prop}{a b:x3}(h:ai S a b)(f:∀r,r<a.heap.size->S r->T r):ai T a b:=
 ⟨h.size,λr o e V p=>h.a6 r o e V λq=>p (f r (j9.1 e).1 q)⟩
theorem Ext.then{a b c:x3}(h:Ext a b)(k:ai S b c)(f:∀r,r<a.heap.size->¬S r):Ext a c:=
 ⟨X3 h.size k.size,λr o e V=>k.a6 r o (h.a6 r o e V) V (f r (j9.1 e).1)⟩
def kW(w J:x3):Prop:=J.tape=w.tape/\w.drawn<=J.drawn
theorem kW.lD(h:J.tape=w.tape:=by rfl)(k:J.drawn=w.drawn:=by rfl):kW w J:=⟨h,Nat.le_of_eq k.symm⟩
theorem kW.trans{a b c:x3}(k:kW b c)(h:kW a b):kW a c:=⟨k.1.trans h.1,X3 h.2 k.2⟩
structure cL(w J:x3):Prop where
 os:J.os=w.os
 tape:kW w J
 output:J.output=w.output
 size:w.heap.size<=J.heap.size
 a6:∀(r:Nat)(o:Obj),w.heap[r]?=σ o->fF o=false->J.heap[r]?=σ o
structure cG(n:Nat)(w J:x3):Prop where
 os:J.os=w.os
 tape:kW w J
 output:J.output=w.output
 size:w.heap.size<=J.heap.size
 a6:∀(r:Nat)(o:Obj),w.heap[r]?=σ o->book o=true->J.heap[r]?=σ o
 old:∀(r:Nat)(o:Obj),r<n->w.heap[r]?=σ o->fF o=false->J.heap[r]?=σ o
theorem cL.b(h:cL w J):cG n w J:=⟨h.os,h.tape,h.output,h.size,λr o a V=>h.a6 r o a (zI V),λr o _ a V=>h.a6 r o a V⟩
theorem cG.refl(n:Nat)(w:x3):cG n w w:=⟨F,.lD,F,o4 _,λ_ _ h _=>h,λ_ _ _ h _=>h⟩
theorem cG.trans{a b c:x3}(h:cG n a b)(k:cG n b c):cG n a c:=
 ⟨k.os.trans h.os,k.tape.trans h.tape,k.output.trans h.output,X3 h.size k.size,λr o e V=>k.a6 r o (h.a6 r o e V) V,λr o f e V=>k.old r o f (h.old r o f e V) V⟩
theorem cG.cv(h:cG n w J)(e:w.heap.size<=n):cL w J:=
 ⟨h.os,h.tape,h.output,h.size,λr o a V=>h.old r o (Q7 (j9.1 a).1 e) a V⟩
structure fG(n:Nat)(w J:x3):Prop where
 os:J.os=w.os
 tape:kW w J
 output:J.output=w.output
 size:w.heap.size<=J.heap.size
 old:∀(r:Nat)(o:Obj),r<n->w.heap[r]?=σ o->fF o=false->J.heap[r]?=σ o
theorem cG.o(h:cG n w J):fG n w J:=⟨h.os,h.tape,h.output,h.size,h.old⟩
theorem cL.o(h:cL w J):fG n w J:=⟨h.os,h.tape,h.output,h.size,λr o _ a V=>h.a6 r o a V⟩
theorem fG.mono{m:Nat}(h:fG n w J)(hm:m<=n):fG m w J:=⟨h.os,h.tape,h.output,h.size,λr o a=>h.old r o (Q7 a hm)⟩
theorem cG.zJ{m:Nat}{a b c:x3}(h:cG n a b)(k:fG m b c)(hm:a.heap.size<=m):cG n a c:=
 ⟨k.os.trans h.os,k.tape.trans h.tape,k.output.trans h.output,X3 h.size k.size,
  λr o e V=>k.old r o (Q7 (j9.1 e).1 hm) (h.a6 r o e V) (zI V),
  λr o f e V=>k.old r o (Q7 (j9.1 e).1 hm) (h.old r o f e V) V⟩
def e5(w J:x3):Prop:=∀(r:Nat)(o:Obj),w.heap[r]?=σ o->ta o=true->J.heap[r]?=σ o
theorem e5.refl(w:x3):e5 w w:=λ_ _ h _=>h
theorem e5.trans{a b c:x3}(h:e5 a b)(k:e5 b c):e5 a c:=λr o e V=>k r o (h r o e V) V
theorem cL.lE(h:cL w J):e5 w J:=λr o a V=>h.a6 r o a (GY V)
abbrev fH:=Bool×Nat
theorem cL.refl(w:x3):cL w w:=⟨F,.lD,F,o4 _,λ_ _ h _=>h⟩
theorem cL.trans{a b c:x3}(h:cL a b)(k:cL b c):cL a c:=
 ⟨k.os.trans h.os,k.tape.trans h.tape,k.output.trans h.output,X3 h.size k.size,λr o e V=>k.a6 r o (h.a6 r o e V) V⟩
theorem tb(w:x3)(n:Nat):Ext w {w with drawn:=n}:=⟨o4 _,λ_ _ h _=>h⟩
theorem q9(w:x3)(n:Nat)(h:w.drawn<=n):cL w {w with drawn:=n}:=⟨F,⟨F,h⟩,F,o4 _,λ_ _ h _=>h⟩
theorem ra(w:x3)(o:Obj):Ext w {w with heap:=w.heap.push o}:=
 ⟨Ξ,λr o' h _=>by
  have:=(j9.1 h).1;simp only[Array.getElem?_push];rw[if_neg Ω];exact h⟩
theorem rb(w:x3)(o:Obj):cL w {w with heap:=w.heap.push o}:=
 ⟨F,.lD,F,Ξ,λr o' h _=>by
  have:=(j9.1 h).1;simp only[Array.getElem?_push];rw[if_neg Ω];exact h⟩
inductive eB where
 |v (x:x1)
 |b (c:Bool)
 |u
def eB.val:eB->x1
 | .v x=>x
 | .b c=>.bool c
 | .u=>undef
def eB.ofConst:x1->eB
 | .bool c=>.b c
 |x=>.v x
theorem eB.GZ(x:x1):(eB.ofConst x).val=x:=by cases x<;>rfl
abbrev Env:=List (Nat×eB)
def look:Env->Nat->Option eB
 |[],_=>ν
 |(s,x)::r,t=>bif S5 s t then σ x else look r t
def eK(e:Env):S9->Option eB
 | .tmp t=>look e t
 | .const x=>σ (eB.ofConst x)
 | .global g=>σ (.v (Γ g))
 | .func f=>σ (.v (.func (.func f) #[] #[]))
def cU(e:Env)(x:S9):x1:=
 match eK e x with
 |some y=>y.val
 |none=>undef
def known(e:Env):List S9->Bool
 |[]=>true
 |x::r=>(eK e x).isSome&&known e r
def R4(N:Nat)(e:Env)(a:Act):Prop:=
 a.tmps.size=N/\∀t x,look e t=σ x->a.tmps.getD t undef=x.val
theorem R4.eK{e:Env}{a:Act}(h:R4 N e a){x:S9}{y:eB}(U:Vc.eK e x=σ y):a.eval x=y.val:=by
 cases x with
 |tmp t=>exact h.2 t y U
 |const v=>simp[Vc.eK]at U;subst U;simp[Act.eval,eB.GZ]
 |global g=>simp[Vc.eK]at U;subst U;rfl
 |func f=>simp[Vc.eK]at U;subst U;rfl
theorem R4.eval{e:Env}{a:Act}(h:R4 N e a){x:S9}(U:(Vc.eK e x).isSome=true):a.eval x=cU e x:=by
 obtain⟨y,f⟩:=Option.isSome_iff_exists.1 U;rw[h.eK f];simp[cU,f]
theorem vT{e:Env}:∀{l:List S9},known e l=true->∀x∈l,(eK e x).isSome=true
 |[],_,_,U=>by cases U
 |y::r,h,x,U=>by
  simp only[known,V9]at h;cases U with
  |head=>exact h.1
  |tail _ U=>exact vT h.2 x U
def ea(e:Env)(d:Option Tmp)(x:eB):Env:=
 match d with
 |some t=>(t,x)::e
 |none=>e
def kX(N:Nat)(d:Option Tmp):Bool:=
 match d with
 |some t=>Nat.blt t N
 |none=>true
theorem R4.put{e:Env}{a:Act}(h:R4 N e a){d:Option Tmp}(q:kX N d=true){x:eB}(ae:x.val=v):
  R4 N (ea e d x) (a.put d v):=by
 cases d with
 |none=>exact h
 |some t=>
  have r:t<N:=by simpa[kX,Nat.blt_eq]using q
  refine⟨by simp[Act.put,h.1],λs y V=>?_⟩;simp only[ea,look]at V;cases f:S5 t s with
  |true=>
   have p:=Nat.eq_of_beq_eq_true f;subst p;simp only[f,cond_true,Y7]at V;subst V;simp[Act.put,h.1,r,ae]
  |false=>
   have p:=Nat.ne_of_beq_eq_false f;simp only[f,cond_false]at V;have:=h.2 s y V;simp only[Act.put,Array.getD_eq_getD_getElem?]at this ⊢;rw[Array.getElem?_setIfInBounds_ne p];exact this
def eC(r:Option Nat):Fence:={Fence.wide with round:=r}
theorem vU(r:Option Nat)(n:Nat):(eC r).depth.isSome=true->1<=n:=λh=>by simp[eC,Fence.wide]at h
theorem zK{r:Option Nat}{P:W9}{f:Q4}{args:Array x1}{R:Ending->x3->Prop}(h:Calls P f args w R):CallsIn (eC r) n P f args w R:=by
 have:=(callsIn_wide (n:=n)).2 h;exact this
section
variable(P:W9)
def aF{α:Type}(s:Sem α)(w:x3)(K:α->x3->Prop):Prop:=∃v J,s.run P w= .ok v J/\cL w J/\K v J
def tc{α:Type}(free:fH)(s:Sem α)(w:x3)(K:α->x3->Prop):Prop:=∃v J,s.run P w= .ok v J/\(free.1=false->cG free.2 w J)/\K v J
def Split(x:x1)(A B:Prop):Prop:=∃c,x= .bool c/\(c=true->A)/\(c=false->B)
def bb:Bool->S9
 |true=>.const (.bool true)
 |false=>.tmp 0
def pV:S9->Bool
 | .const _=>true
 |_=>false
theorem G0(op:BinOp)(t:p8)(x y:S9)(a b:x1):eqGuard op t x y a b=eqGuard op t (bb (pV x)) (bb (pV y)) a b:=by
 cases x<;>cases y<;>rfl
def aO(op:BinOp)(t:p8)(cx cy:Bool)(a b:x1):Sem x1:=do eqGuard op t (bb cx) (bb cy) a b;binOp op t a b
def td(s:Sem Next):Sem x1:=do
 match <-s with
 | .value v=>pure v
 |_=>stuck "no value"
def bP(x:x1):Sem x1:=td (execOp (λ_=>x) {dst:=ν,op:=.nilCheck (.tmp 0),type:=0,pos:= "",after:=#[],guard:=ν})
def bY(a:S9->x1):List S9->List x1
 |[]=>[]
 |x::r=>a x::bY a r
theorem te(a:S9->x1):∀l,bY a l=l.map a
 |[]=>rfl
 |x::r=>by simp[bY,te a r]
theorem vV(a:S9->x1)(l:Array S9):(bY a l.toList).toArray=l.map a:=by
 apply Array.toList_inj.1;simp[te]
def partsOf(a:S9->x1):List (Nat×S9)->List (Nat×x1)
 |[]=>[]
 |x::r=>(x.1,a x.2)::partsOf a r
theorem zL(a:S9->x1):∀l,partsOf a l=l.map λ(i,x)=>(i,a x)
 |[]=>rfl
 |x::r=>by simp[partsOf,zL a r]
theorem G1(a:S9->x1)(l:Array (Nat×S9)):(partsOf a l.toList).toArray=l.map λ(i,x)=>(i,a x):=by
 apply Array.toList_inj.1;simp[zL]
def opsOf:Op->List S9
 | .alloc _| .ready _| .waits _=>[]
 | .move x| .assign x| .box _ x| .load _ x| .nilCheck x| .unOp _ _ x| .convert _ _ x| .sliceToArrayPointer _ x| .makeInterface _ x
 | .makeChan _ x| .fieldAddr _ x _| .field _ x _| .range _ x| .next x _| .entry x| .typeAssert x _ _ _| .extract x _| .panic x| .recv _ x _=>[x]
 | .pick c a b=>[c,a,b]
 | .build _ e| .buildSlice _ _ e=>e.toList.map (·.2)
 | .store _ a v| .binOp _ _ a v _| .makeSlice _ a v| .indexAddr _ a v| .index _ a v| .lookup _ a v _| .mapEntry _ a v| .send a v=>[a,v]
 | .makeFunc _ first p=>first.toList++p.toList
 | .makeMap _ r=>match r with
  |some x=>[x]
  |none=>[]
 | .slice _ x l h m=>x::((match l with
  |some y=>[y]
  |none=>[])++((match h with
  |some y=>[y]
  |none=>[])++(match m with
  |some y=>[y]
  |none=>[])))
 | .mapUpdate _ m k v| .entryStore _ m k v| .insert _ m k v=>[m,k,v]
 | .call c=>match c.callee with
  | .value f=>f::c.args.toList
  | .invoke r _=>r::c.args.toList
  | .builtin _=>c.args.toList
 | .go _| .defer _| .select ..=>[]
theorem G2{op:Op}(h1:∀c,op≠ .go c)(a:∀c,op≠ .defer c)(e:∀cs b,op≠ .select cs b):∀x∈op.operands,x∈opsOf op:=by
 intro x U;cases op<;>simp only[Op.operands,opsOf]at U ⊢<;>try (first|(simp at U;done)|(simp at U ⊢;exact U))
 case go c=>exact absurd F (h1 c)
 case defer c=>exact absurd F (a c)
 case select cs b=>exact absurd F (e cs b)
 case makeMap t r=>cases r<;>simp at U ⊢<;>exact U
 case slice t y l h m=>cases l<;>cases h<;>cases m<;>simpa[or_assoc]using U
 case call c=>cases f:c.callee<;>simpa[Call.operands,f]using U
def re(e:S9->x1):Op->Option (Sem x1)
 | .pick c a b=>σ (do pure (if <-asBool (e c)then e a else e b))
 | .alloc p=>σ (Q6 p true (.tuple #[]))
 | .box p x=>σ (Instr.box p (e x))
 | .build t parts=>σ (Instr.build t (partsOf e parts.toList).toArray)
 | .buildSlice t len parts=>σ (Y5 t len (partsOf e parts.toList).toArray)
 | .load t a=>σ (u5 t (e a))
 | .nilCheck x=>σ (bP (e x))
 | .binOp op jx x y _=>σ (aO op jx (pV x) (pV y) (e x) (e y))
 | .unOp op _ x=>σ (Op.unary op (e x))
 | .convert src dst x=>σ (convert src dst (e x))
 | .makeInterface jx x=>σ (Instr.makeInterface jx (e x))
 | .makeFunc fn first q=>σ (Instr.makeFunc fn (bY e first.toList).toArray (bY e q.toList).toArray)
 | .makeMap t r=>σ (Instr.makeMap t (r.map e))
 | .makeSlice t l c=>σ (Instr.makeSlice t (e l) (e c))
 | .slice t x lo hi mx=>σ (U5 t (e x) (lo.map e) (hi.map e) (mx.map e))
 | .fieldAddr s x f=>σ (u6 s (e x) f)
 | .field jx x f=>σ (Instr.field jx (e x) f)
 | .indexAddr t x h=>σ (c9 t (e x) (e h))
 | .index jx x h=>σ (Instr.index jx (e x) (e h))
 | .lookup jx x h ok=>σ (Instr.lookup jx (e x) (e h) ok)
 | .mapEntry t m k=>σ (Instr.mapEntry t (e m) (e k))
 | .range jx x=>σ (Instr.range jx (e x))
 | .entry w=>σ (Instr.entry (e w))
 | .typeAssert x jx z ok=>σ (Instr.typeAssert (e x) jx z ok)
 | .extract t h=>σ (Y4 (e t) h)
 |_=>ν
def vW(e:S9->x1):Op->Option (Sem Unit)
 | .store t a x=>σ (l9 t (e a) (e x))
 | .mapUpdate t m k x=>σ (Instr.mapUpdate t (e m) (e k) (e x))
 | .insert t m k x=>σ (Instr.mapUpdate t (e m) (e k) (e x))
 | .entryStore t m s x=>σ (Instr.entryStore t (e m) (e s) (e x))
 |_=>ν
def pW(b:Z6)(ats:Array p8)(a:p8)(args:Array x1):Option (Sem x1):=
 match b with
 | .append=>σ (Z5 ats a args)
 | .cap=>σ (Z6.cap_ ats a args)
 | .clear=>σ (Z6.clear_ ats a args)
 | .copy=>σ (Z6.copy_ ats a args)
 | .delete=>σ (Z6.delete_ ats a args)
 | .len=>σ (U1 ats a args)
 | .max=>σ (Z6.max_ ats a args)
 | .min=>σ (Z6.min_ ats a args)
 |_=>ν
theorem G3{s:Sem Next}(h:(td s).run P w= .ok v J):s.run P w= .ok (.value v) J:=by
 unfold td at h;rw[W7]at h;cases V:s.run P w with
 |halt x aa=>rw[V]at h;simp[V6]at h
 |ok x aa=>
  rw[V]at h;cases x<;>simp_all [V6,stuck,U2]
theorem G4(x:x1)(b:Bool)(t:p8):Instr.next x b 0=Instr.next x b t:=rfl
theorem vX{f:S9->x1}{o:T8}{s:Sem x1}(h:re f o.op=σ s)(a:s.run P w= .ok v J):
  (execOp f o).run P w= .ok (.value v) J:=by
 cases e:o.op with
 |nilCheck x=>
  rw[e]at h;cases h;have:=G3 P a;unfold execOp at this ⊢;simpa[e]using this
 |pick c x y=>
  rw[e]at h;cases h;unfold execOp;simp only[e,W7,U2]at a ⊢;cases p:(asBool (f c)).run P w with
  |halt x aa=>rw[p]at a;simp[V6]at a
  |ok x aa=>rw[p]at a;simp only[V6,Q0.ok.injEq]at a ⊢;simp[a]
 |binOp op jx x y q=>
  rw[e]at h;cases h;unfold execOp;simp only[e];unfold aO at a;rw[<-G0]at a;simp only[W7,U2]at a ⊢;rw[a];rfl
 |_=>
  rw[e]at h
  first
   |(cases h;done)
   |(cases h;simp only[vV,G1]at a;unfold execOp;simp only[e,W7,a,V6,U2])
   |(cases h;unfold execOp;simp only[e,W7,a,V6,U2])
theorem G5{a:S9->x1}{o:T8}{s:Sem Unit}(h:vW a o.op=σ s){v:Unit}(f:s.run P w= .ok v J):
  (execOp a o).run P w= .ok .skip J:=by
 cases e:o.op with
 |_=>
  rw[e]at h
  first
   |(cases h;done)
   |(cases h;unfold execOp;simp only[e,W7,f,V6,U2])
def Enters(f:Q4):Prop:=∀args w,(callFunc f args).run P w= .ok (.enter f args) w
inductive an(f:Q4)(args:List x1)(w:x3)(K:x1->x3->Prop):Prop
 |code (h1:Enters P f) (h2:Calls P f args.toArray w λe J=>∃v,e= .returned v/\cL w J/\K v J)
 |ext (v:x1) (J:x3) (h1:(callFunc f args.toArray).run P w= .ok (.value v) J) (h2:cL w J) (h3:K v J)
inductive gL(f:Q4)(args:List x1)(w:x3)(K:x1->x3->Prop):Prop
 |code (h1:Enters P f) (h2:Calls P f args.toArray w λe J=>∃v,e= .returned v/\K v J)
 |ext (v:x1) (J:x3) (h1:(callFunc f args.toArray).run P w= .ok (.value v) J) (h3:K v J)
theorem gL.calls{f:Q4}{K:x1->x3->Prop}(h:gL P f args w K)(a:Enters P f):Calls P f args.toArray w λe J=>∃v,e= .returned v/\K v J:=by
 cases h with
 |code _ h=>exact h
 |ext v J h1=>rw[a]at h1;cases h1
def ja(l:Nat)(args:List x1)(w:x3)(K:x1->x3->Prop):Prop:=
 YieldAt Fence.wide 0 P l args.toArray w λe J=>∃v,e= .returned v/\K v J
theorem ja.mono{P:W9}{l:Nat}{K a:x1->x3->Prop}(h:ja P l args w K)(e:∀v J,K v J->a v J):ja P l args w a:=by
 obtain⟨fn,tmps,f,body,p,q⟩:=h;exact⟨fn,tmps,f,body,p,RoundIn.mono q λ_ J ⟨v,h1,r⟩=>⟨v,h1,e v J r⟩⟩
def tf(free:Bool)(f:x1)(args:List x1)(w:x3)(K:x1->x3->Prop):Prop:=
 match f with
 | .func (.func g) first cap=>bif free then gL P g (first.toList++args++cap.toList) w K else an P g (first.toList++args++cap.toList) w K
 | .func (.yield l) first _=>bif free then free=true/\ja P l (first.toList++args) w K else ja P l (first.toList++args) w λv J=>cL w J/\K v J
 |_=>False
def ad(s:Sem x1)(w:x3)(K:x1->Prop):Prop:=∃v,(∀J,Ext w J->s.run P J= .ok v J)/\K v
def G6:List (Nat×Nat):=[(9,22),(22,22)]
def G7(s d:Nat):Bool:=G6.any λp=>S5 p.1 s&&S5 p.2 d
def kq(o:T8):Bool:=
 match o.op with
 | .convert s d _=>!G7 s d
 | .move _| .assign _| .pick .. | .load .. | .nilCheck _| .binOp .. | .unOp .. | .makeInterface .. | .makeFunc .. | .slice .. | .fieldAddr .. | .field ..
 | .indexAddr .. | .index .. | .lookup .. | .extract .. | .build .. | .typeAssert ..=>true
 | .call c=>
  match c.callee with
  | .builtin .len| .builtin .cap| .builtin .min| .builtin .max=>true
  |_=>false
 |_=>false
def cD(s:Sem x1)(v:x1)(J:x3):Prop:=∀a,Ext J a->s.run P a= .ok v a
def mU(o:T8)(e:Env)(w:x3)(K:Env->(x3->Prop)->Prop):Prop:=
 bif known e (opsOf o.op)then
  match o.op with
  | .move x| .assign x=>
   match eK e x with
   |some y=>K (ea e o.dst y) (λ_=>True)
   |none=>False
  | .pick c a b=>
   match eK e c with
   |some (.b true)=>(match eK e a with|some y=>K (ea e o.dst y) (λ_=>True)|none=>False)
   |some (.b false)=>(match eK e b with|some y=>K (ea e o.dst y) (λ_=>True)|none=>False)
   |some (.v x)=>Split x (K (ea e o.dst (.v (cU e a))) (λ_=>True)) (K (ea e o.dst (.v (cU e b))) (λ_=>True))
   |some .u=>False
   |none=>False
  | .call c=>
   match c.callee with
   | .builtin b=>
    match pW b c.argTypes o.type (bY (cU e) c.args.toList).toArray with
    |some s=>ad P s w λv=>K (ea e o.dst (.v v)) (cD P s v)
    |none=>False
   |_=>False
  |op=>
   match re (cU e) op with
   |some s=>ad P s w λv=>K (ea e o.dst (.v v)) (cD P s v)
   |none=>False
 else False
def vY(free:fH)(o:T8)(e:Env)(w:x3)(K:Env->x3->Prop):Prop:=
 bif known e (opsOf o.op)then
  match o.op with
  | .call c=>
   match c.callee with
   | .builtin b=>
    match pW b c.argTypes o.type (bY (cU e) c.args.toList).toArray with
    |some s=>aF P s w λv J=>K (ea e o.dst (.v v)) J
    |none=>False
   | .value (.func f)=>
    bif free.1 then gL P f (bY (cU e) c.args.toList) w λv J=>K (ea e o.dst (.v v)) J
    else an P f (bY (cU e) c.args.toList) w λv J=>K (ea e o.dst (.v v)) J
   | .value x=>tf P free.1 (cU e x) (bY (cU e) c.args.toList) w λv J=>K (ea e o.dst (.v v)) J
   | .invoke _ _=>False
  | .next x str=>tc P free (Instr.next (cU e x) str 0) w λv J=>K (ea e o.dst (.v v)) J
  |op=>
   match re (cU e) op with
   |some s=>aF P s w λv J=>K (ea e o.dst (.v v)) J
   |none=>
    match vW (cU e) op with
    |some s=>aF P s w λ_ J=>K (ea e o.dst (.v undef)) J
    |none=>False
 else False
def pX(free:fH)(o:T8)(e:Env)(w:x3)(K:Env->x3->Prop):Prop:=
 bif kq o then mU P o e w (λa _=>K a w)else vY P free o e w K
theorem Enters.of{f:Q4}{fn:Func}{c:Code}(af:P.funcs[f]?=σ fn)(a:fn.body=σ c)(e:(fn.name == "runtime.NumGoroutine")=false):Enters P f:=by
 intro args w;have h:fn.name≠ "runtime.NumGoroutine":=by simpa using e
 unfold callFunc;simp[W7,program,Sem.run,V6,af,h,a,U2]
variable{P}
variable{N:Nat}{r:Option Nat}{o:T8}{e:Env}{a:Act}{w:x3}
theorem lF(f:R4 N e a)(hk:known e (opsOf o.op)=true)(V:∀cs b,o.op≠ .select cs b)(h:∀c,o.op≠ .go c:=by simp_all)(p:∀c,o.op≠ .defer c:=by simp_all):
  execOp a.eval o=execOp (cU e) o:=
 execOp_congr o V λx U=>f.eval (vT hk x (G2 h p V x U))
theorem rf{next:Act->x3->Prop}{Q:Exit->Act->x3->Prop}(p:R4 N e a)(hk:known e (opsOf o.op)=true)(V:∀cs b,o.op≠ .select cs b)(f:∀c,o.op≠ .defer c){v:x1}{J:x3}(q:(execOp (cU e) o).run P w= .ok (.value v) J)(h:next (a.put o.dst v) J)(s:∀c,o.op≠ .go c:=by simp_all):o.wpIn (eC r) 0 P a w next Q:=by
 refine⟨λ_ _=>trivial,?_⟩;rw[T8.semAt_eq _ _ _ f,lF p hk V s f,q,T8.uponIn_value];exact h
theorem G8{next:Act->x3->Prop}{Q:Exit->Act->x3->Prop}(p:R4 N e a)(hk:known e (opsOf o.op)=true)(V:∀cs b,o.op≠ .select cs b)(f:∀c,o.op≠ .defer c){J:x3}(q:(execOp (cU e) o).run P w= .ok .skip J)(h:next (a.put o.dst undef) J)(s:∀c,o.op≠ .go c:=by simp_all):o.wpIn (eC r) 0 P a w next Q:=by
 refine⟨λ_ _=>trivial,?_⟩;rw[T8.semAt_eq _ _ _ f,lF p hk V s f,q,T8.uponIn_skip];exact h
def fj(N:Nat)(free:fH)(K:Env->x3->Prop)(o:T8)(a:Act)(w:x3)(a':Act)(J:x3):Prop:=
 ∃e v,K e J/\R4 N e a'/\a'=a.put o.dst v/\(free.1=false->cG free.2 w J)
theorem fj.of{free:fH}{K:Env->x3->Prop}{x:eB}(f:K (ea e o.dst x) J)(h:R4 N e a)(p:kX N o.dst=true)(U:x.val=v)(q:free.1=false->cG free.2 w J):fj N free K o a w (a.put o.dst v) J:=⟨_,v,f,h.put p U,F,q⟩
theorem zM{free:fH}{K:Env->x3->Prop}{Q:Exit->Act->x3->Prop}{f:Q4}{args:Array x1}(q:R4 N e a)(s:kX N o.dst=true)(h:Calls P f args w λp J=>∃v,p= .returned v/\(free.1=false->cG free.2 w J)/\K (ea e o.dst (.v v)) J):
  o.uponIn (eC r) 0 P a (fj N free K o a w) Q (.ok (.enter f args) w):=by
 rw[T8.uponIn_enter];refine⟨vU _ _,CallsIn.mono (zK h) ?_⟩;rintro p J ⟨v,rfl,x,y⟩;exact fj.of y q s F x
theorem mV{x:S9}{y:eB}(h:eK e x=σ y):cU e x=y.val:=by simp[cU,h]
theorem zN{l:List S9}{x:S9}(hk:known e l=true)(U:x∈l):∃y,eK e x=σ y:=Option.isSome_iff_exists.1 (vT hk x U)
theorem zO{K:Env->(x3->Prop)->Prop}(h:mU P o e w K)(A:R4 N e a)(L:kX N o.dst=true):
  ∃v,∃st:x3->Prop,(∀J,Ext w J->(execOp a.eval o).run P J= .ok (.value v) J)/\(∃B,K B st/\R4 N B (a.put o.dst v))/\(∀c,o.op≠ .defer c)/\
   (∀J,st J->∀p,Ext J p->(execOp a.eval o).run P p= .ok (.value v) p):=by
 unfold mU at h;cases hk:known e (opsOf o.op)with
 |false=>rw[hk]at h;exact h.elim
 |true=>
  rw[hk]at h;simp only[cond_true]at h;have put:∀{x:eB}{v:x1}{st:x3->Prop},K (ea e o.dst x) st->x.val=v->∃B,K B st/\R4 N B (a.put o.dst v):=λh1 C=>⟨_,h1,A.put L C⟩;cases f:o.op with
  |move x=>
   rw[f]at h;simp only at h;cases U:eK e x with
   |none=>rw[U]at h;exact h.elim
   |some y=>
    rw[U]at h;have all:∀J:x3,(execOp a.eval o).run P J= .ok (.value y.val) J:=λJ=>by
     rw[lF A hk (by simp[f])];unfold execOp;simp only[f,U2,mV U]
    exact⟨y.val,_,λJ _=>all J,put h rfl,Ξ,λ_ _ p _=>all p⟩
  |assign x=>
   rw[f]at h;simp only at h;cases U:eK e x with
   |none=>rw[U]at h;exact h.elim
   |some y=>
    rw[U]at h;have all:∀J:x3,(execOp a.eval o).run P J= .ok (.value y.val) J:=λJ=>by
     rw[lF A hk (by simp[f])];unfold execOp;simp only[f,U2,mV U]
    exact⟨y.val,_,λJ _=>all J,put h rfl,Ξ,λ_ _ p _=>all p⟩
  |pick c x y=>
   rw[f]at h;simp only at h;have F:=hk;rw[f]at F;obtain⟨Q,U⟩:=zN F (x:=x) (by simp[opsOf]);obtain⟨R,I⟩:=zN F (x:=y) (by simp[opsOf]);have E:∀(t:Bool)(J:x3),cU e c= .bool t->(execOp a.eval o).run P J= .ok (.value (if t=true then cU e x else cU e y)) J:=by
    intro t J G;rw[lF A hk (by simp[f])];unfold execOp;simp[f,G,asBool,U2]
   cases q:eK e c with
   |none=>rw[q]at h;exact h.elim
   |some M=>
    rw[q]at h;cases M with
    |b t=>
     cases t with
     |true=>
      simp only[U]at h;exact⟨_,_,λJ _=>E true J (mV q),put h (by simp[mV U]),Ξ,λ_ _ J _=>E true J (mV q)⟩
     |false=>
      simp only[I]at h;exact⟨_,_,λJ _=>E false J (mV q),put h (by simp[mV I]),Ξ,λ_ _ J _=>E false J (mV q)⟩
    |v z=>
     obtain⟨t,O,G,af⟩:=h;have r:=λJ=>E t J (by rw[mV q];exact O);cases t with
     |true=>exact⟨_,_,λJ _=>r J,put (G rfl) rfl,Ξ,λ_ _ J _=>r J⟩
     |false=>exact⟨_,_,λJ _=>r J,put (af rfl) rfl,Ξ,λ_ _ J _=>r J⟩
    |u=>exact h.elim
  |call c=>
   rw[f]at h;simp only at h;cases q:c.callee with
   |builtin b=>
    rw[q]at h;simp only at h;rw[vV]at h;cases V:pW b c.argTypes o.type (c.args.map (cU e))with
    |none=>rw[V]at h;exact h.elim
    |some s=>
     rw[V]at h;obtain⟨v,r,H⟩:=h;have all:∀J:x3,s.run P J= .ok v J->(execOp a.eval o).run P J= .ok (.value v) J:=λJ r=>by
      rw[lF A hk (by simp[f])];unfold execOp;cases b<;>simp only[pW]at V<;>first|(cases V;done)|(cases V;simp[f,q,resolve,invoke,builtin,r,V6])
     exact⟨v,_,λJ hw=>all J (r J hw),put H rfl,Ξ,λJ h1 p C=>all p (h1 p C)⟩
   |value x=>rw[q]at h;exact h.elim
   |invoke x m=>rw[q]at h;exact h.elim
  |_=>
   rw[f]at h
   first
    |(simp only[re]at h;done)
    |(obtain⟨v,r,H⟩:=h
      refine⟨v,_,λJ hw=>?_,put H rfl,Ξ,λJ h1 p C=>?_⟩
      .rw[lF A hk (by simp[f])];exact vX P (by rw[f];rfl) (r J hw)
      .rw[lF A hk (by simp[f])];exact vX P (by rw[f];rfl) (h1 p C))
theorem G9{free:fH}{K:Env->x3->Prop}{Q:Exit->Act->x3->Prop}(h:vY P free o e w K)(q:R4 N e a)(E:kX N o.dst=true):
  o.wpIn (eC r) 0 P a w (fj N free K o a w) Q:=by
 unfold vY at h;cases hk:known e (opsOf o.op)with
 |false=>rw[hk]at h;exact h.elim
 |true=>
  rw[hk]at h;simp only[cond_true]at h;cases p:o.op with
  |call c=>
   rw[p]at h;simp only at h;cases F:c.callee with
   |builtin b=>
    rw[F]at h;simp only at h;rw[vV]at h;cases V:pW b c.argTypes o.type (c.args.map (cU e))with
    |none=>rw[V]at h;exact h.elim
    |some s=>
     rw[V]at h;obtain⟨v,J,z,B,C⟩:=h;refine rf q hk (by simp[p]) (by simp[p]) (v:=v) ?_ (fj.of C q E rfl λ_=>B.b);unfold execOp;cases b<;>simp only[pW]at V<;>first|(cases V;done)|(cases V;simp[p,F,resolve,invoke,builtin,z,V6])
   |value x=>
    rw[F]at h;have step:∀(d:Deferred)(y:x1),cU e x=y->Deferred.ofValue y (c.args.map (cU e))=pure d->
      (invoke d.target d.args).run P w=(execOp (cU e) o).run P w:=by
     intro d y A S;unfold execOp;simp only[p,F,resolve,A,S,W7,U2,V6]
    have H:∀(g:Q4)(first cap:Array x1),cU e x= .func (.func g) first cap->
      (execOp (cU e) o).run P w=(callFunc g (first.toList++bY (cU e) c.args.toList++cap.toList).toArray).run P w:=by
     intro g first cap A
     rw[<-step {target:=.fn (.func g) cap,args:=first++c.args.map (cU e)} _ A rfl];simp only[invoke];have I:first++c.args.map (cU e)++cap=(first.toList++bY (cU e) c.args.toList++cap.toList).toArray:=by apply Array.toList_inj.1;simp[te]
     rw[I]
    have enter:∀(g:Q4)(first cap:Array x1),cU e x= .func (.func g) first cap->Enters P g->
      (execOp (cU e) o).run P w= .ok (.enter g (first.toList++bY (cU e) c.args.toList++cap.toList).toArray) w:=by
     intro g first cap A G
     rw[H g first cap A,G]
    have go:∀(g:Q4)(first cap:Array x1),cU e x= .func (.func g) first cap->
      (bif free.1 then gL P g (first.toList++bY (cU e) c.args.toList++cap.toList) w λv J=>K (ea e o.dst (.v v)) J
       else an P g (first.toList++bY (cU e) c.args.toList++cap.toList) w λv J=>K (ea e o.dst (.v v)) J)->
      o.wpIn (eC r) 0 P a w (fj N free K o a w) Q:=by
     intro g first cap A h
     obtain⟨fr,T⟩:=free;cases fr with
     |true=>
      rcases h with⟨G,L⟩|⟨v,J,z,C⟩
      .refine⟨λ_ _=>trivial,?_⟩;rw[T8.semAt_eq _ _ _ (by simp[p]),lF q hk (by simp[p])];rw[enter g first cap A G];exact zM q E (L.mono λR J ⟨v,h1,M⟩=>⟨v,h1,(λh=>by cases h),M⟩)
      .rw[<-H g first cap A]at z;exact rf q hk (by simp[p]) (by simp[p]) z (fj.of C q E rfl λh=>by cases h)
     |false=>
      rcases h with⟨G,L⟩|⟨v,J,z,B,C⟩
      .refine⟨λ_ _=>trivial,?_⟩;rw[T8.semAt_eq _ _ _ (by simp[p]),lF q hk (by simp[p])];rw[enter g first cap A G];exact zM q E (L.mono λR J ⟨v,h1,B,M⟩=>⟨v,h1,λ_=>B.b,M⟩)
      .rw[<-H g first cap A]at z;exact rf q hk (by simp[p]) (by simp[p]) z (fj.of C q E rfl λ_=>B.b)
    have O:tf P free.1 (cU e x) (bY (cU e) c.args.toList) w (λv J=>K (ea e o.dst (.v v)) J)->
      o.wpIn (eC r) 0 P a w (fj N free K o a w) Q:=by
     intro h;unfold tf at h;split at h
     .rename_i g first cap A
      exact go g first cap A h
     .rename_i l first cap A
      obtain⟨fn,tmps,U,body,W,X⟩:ja P l (first.toList++bY (cU e) c.args.toList) w λv J=>(free.1=false->cG free.2 w J)/\K (ea e o.dst (.v v)) J:=by
       obtain⟨fr,T⟩:=free;cases fr with
       |true=>exact ja.mono h.2 λv J hk=>⟨(λh=>by cases h),hk⟩
       |false=>exact ja.mono h λv J hk=>⟨λ_=>hk.1.b,hk.2⟩
      refine⟨λ_ _=>trivial,?_⟩;rw[T8.semAt_eq _ _ _ (by simp[p]),lF q hk (by simp[p])];have:(execOp (cU e) o).run P w= .ok (.round l fn tmps U body) w:=by
       rw[<-step {target:=.fn (.yield l) cap,args:=first++c.args.map (cU e)} _ A rfl,<-W];have I:(first.toList++bY (cU e) c.args.toList).toArray=first++c.args.map (cU e):=by apply Array.toList_inj.1;simp[te]
       rw[I];rfl
      rw[this,T8.uponIn_round];refine⟨vU _ _,?_⟩;have Y:=X;refine RoundIn.mono Y ?_;rintro R J ⟨v,rfl,B,C⟩;exact fj.of C q E rfl B
     .exact h.elim
    cases x with
    |func f=>exact go f #[] #[] rfl (by simpa using h)
    |tmp t=>exact O h
    |const v=>exact O h
    |global g=>exact O h
   |invoke x m=>rw[F]at h;exact h.elim
  |next x str=>
   rw[p]at h;obtain⟨v,J,z,B,C⟩:=h;refine rf q hk (by simp[p]) (by simp[p]) (v:=v) ?_ (fj.of C q E rfl B);rw[G4 _ _ o.type]at z;unfold execOp;simp only[p,W7,z,V6,U2]
  |_=>
   rw[p]at h
   first
    |(simp only[re,vW]at h;done)
    |(obtain⟨v,J,z,B,C⟩:=h
      exact rf q hk (by simp[p]) (by simp[p]) (vX P (by rw[p];rfl) z) (fj.of C q E rfl λ_=>B.b))
    |(obtain⟨v,J,z,B,C⟩:=h
      exact G8 q hk (by simp[p]) (by simp[p]) (G5 P (by rw[p];rfl) z) (fj.of C q E rfl λ_=>B.b))
theorem tg{free:fH}{K:Env->x3->Prop}{Q:Exit->Act->x3->Prop}(h:pX P free o e w K)(p:R4 N e a)(q:kX N o.dst=true):
  o.wpIn (eC r) 0 P a w (fj N free K o a w) Q:=by
 unfold pX at h;cases s:kq o with
 |false=>rw[s]at h;exact G9 h p q
 |true=>
  rw[s]at h;have h:mU P o e w (λf _=>K f w):=h;obtain⟨v,st,x,⟨f,y,z⟩,A,_⟩:=zO h p q;refine⟨λ_ _=>trivial,?_⟩;rw[T8.semAt_eq _ _ _ A,x w (Ext.refl _),T8.uponIn_value];exact⟨f,v,y,z,F,λ_=>cG.refl _ _⟩
end
section
variable{P:W9}
def Still{α:Type}(P:W9)(s:Sem α):Prop:=∀w v aa,s.run P w= .ok v aa->aa=w/\∀J,s.run P J= .ok v J
theorem Still.pure{α:Type}(a:α):Still P (Pure.pure a:Sem α):=λw v aa h=>by
 rw[U2]at h;cases h;exact⟨F,λJ=>by rw[U2]⟩
theorem Still.bind{α β:Type}{s:Sem α}{f:α->Sem β}(V:Still P s)(af:∀a,Still P (f a)):Still P (s >>= f):=λw v aa h=>by
 rw[W7]at h;cases e:s.run P w with
 |halt x ab=>rw[e]at h;simp[V6]at h
 |ok a ab=>
  rw[e]at h;obtain⟨rfl,p⟩:=V w a ab e;obtain⟨rfl,q⟩:=af a _ v aa h;exact⟨F,λJ=>by rw[W7,p J];exact q J⟩
theorem Still.never{α:Type}{s:Sem α}(h:∀w v aa,s.run P w≠ .ok v aa):Still P s:=λw v aa a7=>absurd a7 (h w v aa)
theorem Still.stuck{α:Type}(m:String):Still P (stuck m:Sem α):=.never λw v aa h=>by simp[Go.stuck]at h
theorem Still.unsupported{α:Type}(m):Still P (unsupported m:Sem α):=.never λw v aa h=>by simp[Go.unsupported]at h
theorem Still.program:Still P program:=λw v aa h=>by cases h;exact⟨F,λ_=>rfl⟩
theorem Still.underlying(t:p8):Still P (underlying t):=Still.bind .program λp=>by
 cases p.underlying t with
 |some d=>exact Still.pure d
 |none=>exact Still.stuck _
theorem Still.typeInfo(t:p8):Still P (typeInfo t):=Still.bind .program λp=>by
 cases p.info? t with
 |some d=>exact Still.pure d
 |none=>exact Still.stuck _
theorem Still.sizeOf(t:p8):Still P (sizeOf t):=Still.bind (.typeInfo t) λ_=>Still.pure _
theorem Still.boundsPanic{α:Type}(k:n9)(x y:Int)(c:BoundsCode):Still P (boundsPanic k x y c:Sem α):=.never λw v aa h=>by
 have e:∀(s:Sem Bool)(w:x3)(v:α)(aa:x3),(s >>= λb=>(runtimePanic (.bounds (W5.wrap x) y b c):Sem α)).run P w≠ .ok v aa:=by
  intro s w v aa h;rw[W7]at h;cases f:s.run P w with
  |halt x ab=>rw[f]at h;simp[V6]at h
  |ok a ab=>rw[f]at h;simp[V6,Go.runtimePanic,Go.goPanic]at h
 unfold Go.boundsPanic at h;dsimp only at h;split at h
 .exact e _ _ _ _ h
 .exact e _ _ _ _ h
theorem Still.asIntOf(v:x1):Still P (asIntOf v):=by
 unfold Go.asIntOf;split
 .exact Still.pure _
 .exact Still.unsupported _
 .exact Still.stuck _
theorem Still.sureAddr(v:x1):Still P (Instr.sureAddr v):=by
 unfold Instr.sureAddr;split
 .exact Still.pure _
 .exact Still.stuck _
theorem Still.extract(v:x1)(i:Nat):Still P (Y4 v i):=by
 unfold Y4;split
 .split
  .exact Still.pure _
  .exact Still.stuck _
 .exact Still.stuck _
theorem Still.indexAt(t:p8)(x i:x1):Still P (c9 t x i):=by
 have tail:∀(t:p8)(k:n9)(i:Int)(base:Option Addr)(len:Nat)(e:p8),Still P (do
   let f:=len<=1&&(match <-Go.underlying t with| .array ..=>true|_=>false)
   match base with
   |some a=>
    if 0<=i/\i<len then Pure.pure (x1.pointer (σ (a.add (i.toNat*(<-Go.sizeOf e)))))
    else if f then Go.unsupported (.noEntry "op/indexAddr.an index out of range at an array of length 0 or 1 (ledger 616)")
    else Go.boundsPanic k i len .index
   |none=>Go.boundsPanic k i 0 .index):=by
  intro t k i base len e;refine .bind (.underlying t) λd=>?_;cases base with
  |none=>exact Still.boundsPanic _ _ _ _
  |some a=>
   dsimp only;split
   .exact .bind (.sizeOf e) λ_=>.pure _
   .split<;>split<;>first|exact Still.unsupported _|exact Still.boundsPanic _ _ _ _
 unfold c9;refine .bind (.asIntOf i) λh=>?_;refine .bind (.underlying t) λd=>?_;split
 .refine .bind (.sureAddr _) λb=>?_;refine .bind (.pure _) λy=>?_;exact tail _ _ _ _ _ _
 .refine .bind (.pure _) λy=>?_;exact tail _ _ _ _ _ _
 .refine .bind (.stuck _) λy=>?_;exact tail _ _ _ _ _ _
end
section
variable(P:W9)
def th(free:fH)(ops:Array T8)(o:T8)(e:Env)(w:x3)(K:Env->x3->Prop):Prop:=
 match o.guard with
 |none=>pX P free o e w K
 |some (j,b)=>
  match(ops[j]?).bind (·.dst)with
  |none=>False
  |some s=>
   match look e s with
   |some (.b c)=>bif xor c b then K (ea e o.dst .u) w else pX P free o e w K
   |some (.v x)=>
    Split x (bif b then pX P free o ((s,.b true)::e) w K else K (ea ((s,.b true)::e) o.dst .u) w)
     (bif b then K (ea ((s,.b false)::e) o.dst .u) w else pX P free o ((s,.b false)::e) w K)
   |some .u=>K (ea e o.dst .u) w
   |none=>False
def pY(free:fH)(ops:Array T8):List T8->Env->x3->(Env->x3->Prop)->Prop
 |[],e,w,K=>K e w
 |o::l,e,w,K=>th P free ops o e w λa J=>pY free ops l a J K
def vZ(ops:Array T8)(o:T8)(e:Env)(w:x3)(K:Env->(x3->Prop)->Prop):Prop:=
 match o.guard with
 |none=>mU P o e w K
 |some (j,b)=>
  match(ops[j]?).bind (·.dst)with
  |none=>False
  |some s=>
   match look e s with
   |some (.b c)=>bif xor c b then K (ea e o.dst .u) (λ_=>True)else mU P o e w K
   |some (.v x)=>
    Split x (bif b then mU P o ((s,.b true)::e) w K else K (ea ((s,.b true)::e) o.dst .u) (λ_=>True))
     (bif b then K (ea ((s,.b false)::e) o.dst .u) (λ_=>True)else mU P o ((s,.b false)::e) w K)
   |some .u=>K (ea e o.dst .u) (λ_=>True)
   |none=>False
def mW(o:T8):Bool:=
 match o.op with
 | .move _| .assign _| .extract .. | .indexAddr ..=>true
 |_=>false
def nJ(ops:Array T8):List Nat->Option Nat
 |[]=>ν
 |i::r=>match ops[i]? with
  |some o=>bif kq o then σ i else nJ ops r
  |none=>nJ ops r
def v7(p:Nat->Prop):List Nat->Prop
 |[]=>True
 |[i]=>p i
 |i::r=>p i/\v7 p r
def me(a:Array Nat)(j k:Nat):Bool:=!(S5 k j)&&(!((a.getD j 0).testBit k)&& !((a.getD k 0).testBit j))
def ti(same:Bool)(q:Nat)(w:x3)(st:x3->Prop)(a:List (x3×List (Nat×(x3->Prop)))):List (x3×List (Nat×(x3->Prop))):=
 match same,a with
 |true,g::r=>(g.1,(q,st)::g.2)::r
 |_,a=>(w,[(q,st)])::a
def rg(a:Array Nat)(j:Nat):List (Nat×(x3->Prop))->Bool
 |[]=>false
 |x::r=>me a j x.1||rg a j r
def pZ(a:Array Nat)(j:Nat)(J:x3):List (Nat×(x3->Prop))->Prop
 |[]=>True
 |x::r=>bif me a j x.1 then x.2 J/\pZ a j J r else pZ a j J r
def oK(a:Array Nat)(j:Nat)(J:x3)(C:Prop):List (x3×List (Nat×(x3->Prop)))->Prop
 |[]=>C
 |g::r=>bif rg a j g.2 then(Ext g.1 J\/pZ a j J g.2)/\oK a j J C r else oK a j J C r
def nK(free:fH)(ops:Array T8)(f:Array Nat):Nat->Array Bool->Bool->List (x3×List (Nat×(x3->Prop)))->Env->x3->(Env->x3->Prop)->Prop
 |0,a,_,_,e,w,K=>match Region.ready .any ops a with|[]=>K e w|_=>False
 |fuel+1,a,same,h,e,w,K=>
  match Region.ready .any ops a with
  |[]=>K e w
  |i::r=>
   match nJ ops (i::r)with
   |some q=>
    bif Region.free .any ops a q then
     match ops[q]? with
     |some o=>vZ P ops o e w λp st=>
       bif mW o then nK free ops f fuel (a.setIfInBounds q true) same h p w K
       else nK free ops f fuel (a.setIfInBounds q true) true (ti same q w st h) p w K
     |none=>False
    else False
   |none=>
    v7 (λj=>match ops[j]? with
     |some o=>th P free ops o e w λp J=>oK f j J (nK free ops f fuel (a.setIfInBounds j true) false h p J K) h
     |none=>False) (i::r)
def v8(free:fH)(ops:Array T8)(e:Env)(w:x3)(K:Env->x3->Prop):Prop:=
 bif Region.noSelect ops then nK P free ops (Region.before ops) ops.size (Array.replicate ops.size false) false [] e w K else False
end
section
variable{P:W9}{N:Nat}{r:Option Nat}{free:fH}{ops:Array T8}
theorem Ha{e:Env}{a:Act}(p:R4 N e a){s:Nat}{c:Bool}(q:(ops[j]?).bind (·.dst)=σ s){x:eB}(V:look e s=σ x)(U:x.val= .bool c):
  yielded ops a.tmps j=σ c:=by
 have h:=p.2 s x V;rw[U]at h;have r:a.tmps[s]?=σ (.bool c):=by
  rw[Array.getD_eq_getD_getElem?]at h;cases f:a.tmps[s]? with
  |none=>rw[f]at h;simp[undef]at h
  |some y=>rw[f]at h;simpa using h
 simp[yielded,q,r]
theorem tj{e:Env}{a:Act}(f:R4 N e a){o:T8}{s:Nat}{b c:Bool}(h:o.guard=σ (j,b))(p:(ops[j]?).bind (·.dst)=σ s){x:eB}(V:look e s=σ x)(U:x.val= .bool c):Region.wanted o (yielded ops a.tmps)= !(xor c b):=by
 simp only[Region.wanted,h,Ha f p V U];cases c<;>cases b<;>rfl
theorem zP{e:Env}{a:Act}(p:R4 N e a){o:T8}{s:Nat}{b:Bool}(q:o.guard=σ (j,b))(r:(ops[j]?).bind (·.dst)=σ s)(V:look e s=σ .u):Region.wanted o (yielded ops a.tmps)=false:=by
 have h:=p.2 s .u V;have w:yielded ops a.tmps j=ν:=by
  rw[Array.getD_eq_getD_getElem?]at h;unfold yielded;rw[r];cases f:a.tmps[s]? with
  |none=>simp[f]
  |some y=>
   rw[f]at h;simp only[V2,eB.val]at h;subst h;simp[f,undef]
 simp[Region.wanted,q,w]
theorem R4.lit{e:Env}{a:Act}(h:R4 N e a){s:Nat}{x:eB}{c:Bool}(V:look e s=σ x)(U:x.val= .bool c):R4 N ((s,.b c)::e) a:=by
 refine⟨h.1,λt y f=>?_⟩;simp only[look]at f;cases p:S5 s t with
 |true=>
  have:s=t:=Nat.eq_of_beq_eq_true p;subst this;simp only[p,cond_true,Y7]at f;subst f;rw[h.2 s x V,U];rfl
 |false=>simp only[p,cond_false]at f;exact h.2 t y f
theorem zQ{o:T8}{e:Env}{a:Act}{K:Env->x3->Prop}{Q:Exit->Act->x3->Prop}(h:th P free ops o e w K)(f:R4 N e a)(p:kX N o.dst=true):
  (Region.wanted o (yielded ops a.tmps)=true/\o.wpIn (eC r) 0 P a w (fj N free K o a w) Q)\/
  (Region.wanted o (yielded ops a.tmps)=false/\fj N free K o a w (a.put o.dst undef) w):=by
 unfold th at h;cases q:o.guard with
 |none=>rw[q]at h;exact .inl ⟨by simp[Region.wanted,q],tg h f p⟩
 |some C=>
  obtain⟨j,b⟩:=C;rw[q]at h;simp only at h;cases z:(ops[j]?).bind (·.dst)with
  |none=>rw[z]at h;exact h.elim
  |some s=>
   rw[z]at h;simp only at h;cases V:look e s with
   |none=>rw[V]at h;exact h.elim
   |some x=>
    rw[V]at h;cases x with
    |b c=>
     simp only at h;have hw:=tj f q z V F;cases U:xor c b with
     |true=>
      rw[U]at h hw;exact .inr ⟨hw,fj.of h f p F λ_=>cG.refl _ _⟩
     |false=>
      rw[U]at h hw;exact .inl ⟨hw,tg h f p⟩
    |v y=>
     simp only at h;obtain⟨c,rfl,A,af⟩:=h;have hw:=tj f q z V F;have B:=f.lit V F;cases c with
     |true=>
      have A:=A F;cases b with
      |true=>exact .inl ⟨hw,tg A B p⟩
      |false=>exact .inr ⟨hw,fj.of A B p F λ_=>cG.refl _ _⟩
     |false=>
      have af:=af F;cases b with
      |true=>exact .inr ⟨hw,fj.of af B p F λ_=>cG.refl _ _⟩
      |false=>exact .inl ⟨hw,tg af B p⟩
    |u=>exact .inr ⟨zP f q z V,fj.of h f p F λ_=>cG.refl _ _⟩
def gM(D:List Nat)(a a':Act):Prop:=a'.defers=a.defers/\∀t,t∉D->a'.tmps.getD t undef=a.tmps.getD t undef
theorem gM.refl(D:List Nat)(a:Act):gM D a a:=⟨F,λ_ _=>rfl⟩
theorem gM.trans{a b c:Act}(h:gM D a b)(k:gM D b c):gM D a c:=⟨k.1.trans h.1,λt e=>(k.2 t e).trans (h.2 t e)⟩
theorem gM.put(a:Act){d:Option Tmp}(v:x1)(e:∀t,d=σ t->t∈D):gM D a (a.put d v):=by
 cases d with
 |none=>exact gM.refl _ _
 |some s=>
  refine⟨F,λt f=>?_⟩;have p:s≠t:=λh=>f (h▸e s F);simp only[Act.put,Array.getD_eq_getD_getElem?];rw[Array.getElem?_setIfInBounds_ne p]
def nL(N:Nat)(free:fH)(K:Env->x3->Prop)(D:List Nat)(a:Act)(w:x3)(a':Act)(J:x3):Prop:=
 ∃e,K e J/\R4 N e a'/\gM D a a'/\(free.1=false->cG free.2 w J)
theorem nL.step{K:Env->x3->Prop}{a e a':Act}{aa:x3}(h:nL N free K D e aa a' J)(hk:gM D a e)(f:free.1=false->cG free.2 w aa):
  nL N free K D a w a' J:=by
 obtain⟨p,h1,q,r,s⟩:=h;exact⟨p,h1,q,hk.trans r,λaf=>(f af).trans (s af)⟩
def oL(N:Nat)(l:List T8):Bool:=l.all λo=>kX N o.dst
theorem Hb{K:Env->x3->Prop}{Q:Exit->Act->x3->Prop}(A:∀o∈ops.toList,∀t,o.dst=σ t->t∈D)(x:oL N ops.toList=true):
  ∀(l:List T8)(k:Nat)(e:Env)(a:Act)(w:x3),(∀j,l[j]?=ops[k+j]?)->pY P free ops l e w K->R4 N e a->
   (∀a' J,nL N free K D a w a' J->Q .normal a' J)->wpOpsIn (eC r) 0 P ops Q (List.range' k l.length) a w:=by
 intro l;induction l with
 |nil=>
  intro k e a w _ h f p;exact p a w ⟨e,h,f,gM.refl _ _,λ_=>cG.refl _ _⟩
 |cons o l B=>
  intro k e a w y h f p;have q:=y 0;simp only[List.getElem?_cons_zero,Nat.add_zero]at q;have z:o∈ops.toList:=by
   have:=q.symm;rw[<-R6]at this;exact x5 this
  have C:kX N o.dst=true:=by
   simp only[oL,List.all_eq_true]at x;exact x o z
  have E:∀j,l[j]?=ops[k+1+j]?:=λj=>by
   have:=y (j+1);rw[List.getElem?_cons_succ]at this;rw[this];congr 1;omega
  have next:∀s aa,fj N free (λF J=>pY P free ops l F J K) o a w s aa->wpOpsIn (eC r) 0 P ops Q (List.range' (k+1) l.length) s aa:=by
   rintro s aa ⟨G,v,H,I,rfl,L⟩;refine B (k+1) G _ aa E H I λa' J M=>p a' J (M.step (gM.put a v λt O=>A o z t O) L)
  simp only[pY]at h;show wpOpsIn (eC r) 0 P ops Q (k::List.range' (k+1) l.length) a w;unfold wpOpsIn;rw[<-q];simp only;rcases zQ h f C with⟨hw,U⟩|⟨hw,U⟩
  .rw[if_pos hw];exact T8.wpIn_mono next U
  .rw[hw];exact⟨λ_ _=>trivial,next _ _ U⟩
theorem Hc{K:Env->x3->Prop}{Q:Exit->Act->x3->Prop}{id:Nat}{e:Env}{a:Act}(f:∀o∈ops.toList,∀t,o.dst=σ t->t∈D)(p:oL N ops.toList=true)(h:pY P free ops ops.toList e w K)(q:R4 N e a)(s:∀a' J,nL N free K D a w a' J->Q .normal a' J):
  (Code.region id ops false).wpIn (eC r) 0 P Q a w:=by
 refine wpIn_region ?_;have:=Hb (r:=r) f p ops.toList 0 e a w (λj=>Ξ) h q s;rw[List.range_eq_range'];simpa using this
end
section
variable{P:W9}{N:Nat}{r:Option Nat}{free:fH}{ops:Array T8}{Q:Exit->Act->x3->Prop}
theorem Hd(e:Option Nat)(o:T8)(V:∀cs b,o.op≠ .select cs b)(a:Act)(d:Option Tmp)(v:x1)(h:∀t,d=σ t->t∉o.looksAt ops):
  o.semAt e (a.put d v).eval=o.semAt e a.eval:=by
 have he:=execOp_put o V a d v h;unfold T8.semAt;split
 .rename_i l c f;have:resolve (a.put d v).eval c o.type=resolve a.eval c o.type:=resolve_congr c o.type λx U=>Act.eval_put λt p q=>h t p (by
   subst q;refine List.mem_append_left _ (List.mem_filterMap.2 ⟨.tmp t,?_,F⟩);rw[f];simpa[Op.operands]using U)
  rw[this]
 .exact he
def nM(o:T8)(w0:x3)(st:x3->Prop)(J:x3):Prop:=mW o=true\/Ext w0 J\/∃aa,st aa/\Ext aa J
theorem nM.ext{o:T8}{w0:x3}{st:x3->Prop}(h:nM o w0 st w)(k:Ext w J):nM o w0 st J:=by
 rcases h with h|h|⟨aa,h1,a⟩
 .exact .inl h
 .exact .inr (.inl (h.trans k))
 .exact .inr (.inr ⟨aa,h1,a.trans k⟩)
theorem He{o:T8}(hm:mW o=true){a:S9->x1}(h:(execOp a o).run P w= .ok (.value v) w):(execOp a o).run P J= .ok (.value v) J:=by
 unfold mW at hm;split at hm
 .rename_i x U;unfold execOp at h ⊢;simp only[U,U2,Q0.ok.injEq,and_true]at h ⊢;exact h
 .rename_i x U;unfold execOp at h ⊢;simp only[U,U2,Q0.ok.injEq,and_true]at h ⊢;exact h
 .rename_i x i U;unfold execOp at h ⊢;simp only[U]at h ⊢;exact((Still.bind (Still.extract _ _) λ_=>Still.pure _) _ _ _ h).2 _
 .rename_i t x i U;unfold execOp at h ⊢;simp only[U]at h ⊢;exact((Still.bind (Still.indexAt _ _ _) λ_=>Still.pure _) _ _ _ h).2 _
 .cases hm
def jy(P:W9)(ops:Array T8)(o:T8)(v:x1)(a:Act)(w0:x3->Prop):Prop:=
 (Region.wanted o (yielded ops a.tmps)=true/\(∀c,o.op≠ .defer c)/\∀J,w0 J->(execOp a.eval o).run P J= .ok (.value v) J)\/
 (Region.wanted o (yielded ops a.tmps)=false/\v=undef)
theorem jy.put{o e:T8}{a:Act}{w0:x3->Prop}(f:jy P ops o v a w0)(V:∀cs b,o.op≠ .select cs b)(h:∀t,e.dst=σ t->t∉o.looksAt ops)(u:x1):
  jy P ops o v (a.put e.dst u) w0:=by
 unfold jy at*;rw[execOp_put o V a e.dst u h,wanted_put o a e.dst u h];exact f
theorem jy.go{i:Nat}{e:T8}{a:Act}{w0:x3->Prop}(hi:ops[i]?=σ e)(f:jy P ops e v a w0)(hw:w0 w){K:Act->x3->Prop}(h:K (a.put e.dst v) w):
  wpOpIn (eC r) 0 P ops Q i K a w:=by
 unfold wpOpIn;simp only[hi];rcases f with⟨h1,p,q⟩|⟨h1,rfl⟩
 .rw[if_pos h1];refine⟨λ_ _=>trivial,?_⟩;rw[T8.semAt_eq _ _ _ p,q w hw,T8.uponIn_value];exact h
 .rw[h1];exact⟨λ_ _=>trivial,h⟩
theorem Hf{p s:T8}(B:ops[j]?=σ s)(C:p.apart ops s=true)(E:∀cs b,p.op≠ .select cs b)(F:∀cs b,s.op≠ .select cs b)(z:∀c a w,¬Q (.panic c) a w){K:Act->x3->Prop}{a:Act}{w:x3}{w0:x3->Prop}(q:jy P ops p v a w0)(h:wpOpIn (eC r) 0 P ops Q j K (a.put p.dst v) w):
  wpOpIn (eC r) 0 P ops Q j (λa' J=>jy P ops p v a' w0/\K (a'.put p.dst v) J) a w:=by
 obtain⟨h1,y,G⟩:=T8.apart_spec C;have a6:∀(a:Act),jy P ops p v a w0->∀u,jy P ops p v (a.put s.dst u) w0:=λa q u=>q.put E G u;have H:∀d,jy P ops p v {a with defers:=d::a.defers} w0:=λd=>q;unfold wpOpIn at*;simp only[B]at*;rw[wanted_put s a p.dst v h1]at h;split
 .rename_i hw;simp only[hw,if_true]at h;obtain⟨_,h⟩:=h;refine⟨λ_ _=>trivial,?_⟩;rw[Hd _ s F a p.dst v h1]at h;generalize (s.semAt (eC r).round a.eval).run P w=I at*;cases I with
  |ok n J=>
   cases n<;>simp only[T8.uponIn]at h ⊢
   case value u=>exact⟨a6 a q u,by rw[<-Act.put_comm a v u y];exact h⟩
   case skip=>exact⟨a6 a q _,by rw[<-Act.put_comm a v undef y];exact h⟩
   case defer d=>
    refine⟨a6 _ (H d) _,?_⟩;rw[<-Act.put_comm _ v undef y,<-Act.put_defers];exact h
   case enter f args=>
    refine⟨h.1,CallsIn.mono h.2 λe A he=>?_⟩;cases e with
    |returned u=>exact⟨a6 a q u,by rw[<-Act.put_comm a v u y];exact he⟩
    |panicked c=>exact absurd he (z _ _ _)
    |outgrown=>exact he
   case row row args=>exact⟨h.1,RowsIn.mono h.2 λu A he=>⟨a6 a q u,by rw[<-Act.put_comm a v u y];exact he⟩⟩
   case round l f tmps L body=>
    refine⟨h.1,RoundIn.mono h.2 λe A he=>?_⟩;cases e with
    |returned u=>exact⟨a6 a q u,by rw[<-Act.put_comm a v u y];exact he⟩
    |panicked c=>exact absurd he (z _ _ _)
    |outgrown=>exact he
  |halt x J=>
   cases x<;>simp only[T8.uponIn]at h ⊢
   case panic u=>exact absurd h (z _ _ _)
 .rename_i hw;simp only[hw]at h;exact⟨λ_ _=>trivial,a6 a q _,by rw[<-Act.put_comm a v undef y];exact h.2⟩
def mX(ops:Array T8)(a:Array Nat):Bool:=
 (Z4 ops.size).all λj=>(Z4 ops.size).all λk=>!((a.getD j 0).testBit k)||
  (match ops[j]? with
   |some o=>o.after.any λe=>Region.binds .any e&&Nat.blt e.on j&&(S5 e.on k||(a.getD e.on 0).testBit k)
   |none=>false)
def Down(ops:Array T8)(a:Array Bool):Prop:=
 ∀(x:Nat)(o:T8),ops[x]?=σ o->a.getD x false=true->∀e∈o.after,Region.binds .any e=true->a.getD e.on false=true
theorem zR{a:Array Nat}(f:mX ops a=true){k:Nat}(q:j<ops.size)(hk:k<ops.size)(h:(a.getD j 0).testBit k=true):
  ∃o,ops[j]?=σ o/\∃e∈o.after,Region.binds .any e=true/\e.on<j/\(e.on=k\/(a.getD e.on 0).testBit k=true):=by
 simp only[mX,List.all_eq_true,W8]at f;have:=f j q k hk;rw[h]at this;simp only[X2,Bool.false_or]at this;cases p:ops[j]? with
 |none=>rw[p]at this;cases this
 |some o=>
  rw[p]at this;obtain⟨e,he,U⟩:=Array.any_eq_true'.1 this;simp only[V9,Nat.blt_eq,Bool.or_eq_true]at U;exact⟨o,F,e,he,U.1.1,U.1.2,U.2.imp (λh=>Nat.eq_of_beq_eq_true h) id⟩
theorem Hg{f:Array Nat}{a:Array Bool}(q:mX ops f=true)(r:Down ops a):∀(j k:Nat),j<ops.size->k<ops.size->a.getD j false=true->
  (f.getD j 0).testBit k=true->a.getD k false=true:=by
 intro j;induction j using Nat.strongRecOn with
 |_ j s=>
  intro k w hk x h;obtain⟨o,y,e,he,z,A,h⟩:=zR q w hk h;have p:=r j o y x e he z;rcases h with rfl|h
  .exact p
  .exact s e.on A k Ω hk p h
theorem zS{f:Array Nat}{a:Array Bool}(p:mX ops f=true)(w:Down ops a){k:Nat}(hk:k<ops.size)(x:j∈Region.ready .any ops a)(h:(f.getD j 0).testBit k=true):a.getD k false=true:=by
 obtain⟨_,o,q,y⟩:=mem_ready.1 x;have z:=(j9.1 q).1;obtain⟨o',r,e,he,A,B,h⟩:=zR p z hk h;rw[q]at r;cases r;have s:=y e he A;rcases h with rfl|h
 .exact s
 .exact Hg p w e.on k Ω hk s h
theorem Down.set{a:Array Bool}(r:Down ops a){i:Nat}(s:i∈Region.ready .any ops a):Down ops (a.setIfInBounds i true):=by
 intro x o U f e he h;by_cases p:x=i
 .subst p;obtain⟨_,o',q,w⟩:=mem_ready.1 s;rw[U]at q;cases q;exact getD_set_true (w e he h)
 .rw[getD_set_ne false (Ne.symm p)]at f;exact getD_set_true (r x o U f e he h)
theorem wa{a:Array Bool}{k:Nat}(h:a.getD k true=false):a.getD k false=false:=by
 rcases Nat.lt_or_ge k a.size with a7|a7
 .simpa[a7]using h
 .simp[Array.getElem?_eq_none a7]at h
def nN(ops:Array T8)(i:Nat):Bool:=match ops[i]? with
 |some o=>kq o
 |none=>false
def nO(a:Array Nat)(e:List (x3×List (Nat×(x3->Prop))))(j:Nat)(J:x3):Prop:=∀g∈e,∀x∈g.2,me a j x.1=true->Ext g.1 J\/x.2 J
theorem wb{a:Array Nat}{j:Nat}{J:x3}:∀{l:List (Nat×(x3->Prop))},pZ a j J l->∀x∈l,me a j x.1=true->x.2 J
 |[],_,_,h,_=>by cases h
 |y::l,h,x,U,hu=>by
  unfold pZ at h;cases e:me a j y.1 with
  |true=>
   rw[e]at h;cases U with
   |head=>exact h.1
   |tail _ U=>exact wb h.2 x U hu
  |false=>
   rw[e]at h;cases U with
   |head=>rw[e]at hu;cases hu
   |tail _ U=>exact wb (show pZ a j J l from h) x U hu
theorem zT{a:Array Nat}{j:Nat}:∀{l:List (Nat×(x3->Prop))},rg a j l=false->∀x∈l,me a j x.1=false
 |[],_,_,h=>by cases h
 |y::l,h,x,U=>by
  simp only[rg,R5]at h;cases U with
  |head=>exact h.1
  |tail _ U=>exact zT h.2 x U
theorem wc{f:Array Nat}{j:Nat}{J:x3}{C:Prop}:∀{s:List (x3×List (Nat×(x3->Prop)))},oK f j J C s->C/\nO f s j J
 |[],h=>⟨h,λg w=>by cases w⟩
 |g::r,h=>by
  unfold oK at h;cases hu:rg f j g.2 with
  |true=>
   rw[hu]at h;obtain⟨h1,p⟩:=wc h.2;refine⟨h1,λq a x U e=>?_⟩;cases a with
   |head=>exact h.1.imp id λh=>wb h x U e
   |tail _ a=>exact p q a x U e
  |false=>
   rw[hu]at h;obtain⟨h1,p⟩:=wc (show oK f j J C r from h);refine⟨h1,λq a x U e=>?_⟩;cases a with
   |head=>rw[zT hu x U]at e;cases e
   |tail _ a=>exact p q a x U e
def we(ops:Array T8)(a:Array Nat)(e:List (x3×List (Nat×(x3->Prop))))(j:Nat)(w J:x3):Prop:=(nN ops j=true->Ext w J)/\(nN ops j=false->nO a e j J)
def jU(r:Option Nat)(P:W9)(ops:Array T8)(f:Array Nat)(Q:Exit->Act->x3->Prop):Nat->Array Bool->List (x3×List (Nat×(x3->Prop)))->Act->x3->Prop
 |0,e,_,a,w=>Region.ready .any ops e=[]/\Q .normal a w
 |fuel+1,e,h,a,w=>(Region.ready .any ops e=[]->Q .normal a w)/\
  ∀i∈Region.ready .any ops e,wpOpIn (eC r) 0 P ops Q i (λa' J=>we ops f h i w J/\jU r P ops f Q fuel (e.setIfInBounds i true) h a' J) a w
theorem jU.any{f:Array Nat}:∀(fuel:Nat)(e:Array Bool)(p:List (x3×List (Nat×(x3->Prop))))(a:Act)(w:x3),jU r P ops f Q fuel e p a w->wpAnyIn (eC r) 0 P .any ops Q fuel e a w
 |0,_,_,_,_,h=>h
 |fuel+1,_,_,_,_,h=>⟨h.1,λi hi=>wpOpIn_mono (λa' J a7=>jU.any fuel _ _ a' J a7.2) (h.2 i hi)⟩
theorem Hh{a:Array Nat}{e:Array Bool}(f:mX ops a=true)(p:Down ops e){i:Nat}{s:T8}(hi:ops[i]?=σ s)(q:i∈Region.ready .any ops e)(r:j∈Region.ready .any ops e)(w:j≠i):me a j i=true:=by
 have x:=(j9.1 hi).1;obtain⟨y,C,z,_⟩:=mem_ready.1 r;have A:=(j9.1 z).1;have B:=(mem_ready.1 q).1;simp only[me,V9,Bool.not_eq_true'];refine⟨?_,?_,?_⟩
 .cases h:S5 i j with
  |true=>exact absurd (Nat.eq_of_beq_eq_true h).symm w
  |false=>rfl
 .cases h:(a.getD j 0).testBit i with
  |true=>have:=zS f p x r h;rw[wa B]at this;cases this
  |false=>rfl
 .cases h:(a.getD i 0).testBit j with
  |true=>have:=zS f p A q h;rw[wa y]at this;cases this
  |false=>rfl
theorem jU.take{q:Array Nat}(V:mX ops q=true)(W:Region.noSelect ops=true)(X:∀c a w,¬Q (.panic c) a w){i:Nat}{p:T8}(hi:ops[i]?=σ p)(Y:kq p=true){w0:x3}{B C:List (x3×List (Nat×(x3->Prop)))}(K:∀j J,nO q C j J->nO q B j J){st:x3->Prop}(Z:mW p=false->∀j J,me q j i=true->nO q C j J->Ext w0 J\/st J):
  ∀(fuel:Nat)(f:Array Bool)(a:Act)(w:x3),Down ops f->
   (∀j z,ops[j]?=σ z->j≠i->f.getD j true=false->(∀e∈z.after,Region.binds .any e=true->e.on≠i)->p.apart ops z=true)->
   i∈Region.ready .any ops f->jy P ops p v a (nM p w0 st)->nM p w0 st w->
   jU r P ops q Q fuel (f.setIfInBounds i true) C (a.put p.dst v) w->jU r P ops q Q (fuel+1) f B a w:=by
 have L:=Region.noSelect_spec W;have aa:nN ops i=true:=by simp[nN,hi,Y]
 have jb:∀(fuel:Nat)(f:Array Bool)(a:Act)(w:x3),jU r P ops q Q fuel f C a w->jU r P ops q Q fuel f B a w:=by
  intro fuel;induction fuel with
  |zero=>intro f a w h;exact h
  |succ fuel F=>intro f a w h;exact⟨h.1,λj x=>wpOpIn_mono (λa' J a7=>⟨⟨a7.1.1,λG=>K _ _ (a7.1.2 G)⟩,F _ a' J a7.2⟩) (h.2 j x)⟩
 have M:∀w,we ops q B i w w:=λw=>⟨λ_=>Ext.refl _,λh=>by rw[aa]at h;cases h⟩;intro fuel;induction fuel with
 |zero=>
  intro f a w _ _ y E hw H;refine⟨λh=>(by rw[h]at y;cases y),λj x=>?_⟩;by_cases s:j=i
  .subst s;exact E.go hi hw ⟨M w,jb _ _ _ _ H⟩
  .have:=ready_mono x s;rw[H.1]at this;cases this
 |succ fuel F=>
  intro f a w N O y E hw H;refine⟨λh=>(by rw[h]at y;cases y),λj x=>?_⟩;by_cases s:j=i
  .subst s;exact E.go hi hw ⟨M w,jb _ _ _ _ H⟩
  .have h1:=H.2 j (ready_mono x s);have hu:=Hh V N hi y x s;obtain⟨R,z,I,ab⟩:=mem_ready.1 x;have ac:∀e∈z.after,Region.binds .any e=true->e.on≠i:=λe he ad ae=>by
    have h1:=ab e he ad;rw[ae,wa (mem_ready.1 y).1]at h1;cases h1
   have af:=Hf I (O j z I s R ac) (λcs b=>L i p cs b hi) (λcs b=>L j z cs b I) X E h1;have ag:∀k ok,ops[k]?=σ ok->k≠i->(f.setIfInBounds j true).getD k true=false->
     (∀e∈ok.after,Region.binds .any e=true->e.on≠i)->p.apart ops ok=true:=λk ok hk ah S ai=>by
    refine O k ok hk ah ?_ ai;by_cases T:j=k
    .subst T;exact R
    .rw[getD_set_ne true T]at S;exact S
   refine wpOpIn_mono (λa' J A=>⟨⟨A.2.1.1,λG=>K _ _ (A.2.1.2 G)⟩,F (f.setIfInBounds j true) a' J (N.set x) ag (ready_mono y (Ne.symm s)) A.1 ?_ ?_⟩) af
   .cases hm:mW p with
    |true=>exact .inl hm
    |false=>
     cases U:nN ops j with
     |true=>exact hw.ext (A.2.1.1 U)
     |false=>exact .inr ((Z hm j J hu (A.2.1.2 U)).imp id λh=>⟨J,h,Ext.refl _⟩)
   .rw[Array.setIfInBounds_comm _ _ s];exact A.2.2
theorem zU{p:Nat->Prop}:∀{l:List Nat},v7 p l->∀i∈l,p i
 |[],_,_,h=>by cases h
 |[i],h,j,a=>by cases a with
  |head=>exact h
  |tail _ h=>cases h
 |i::k::l,h,j,a=>by
  obtain⟨h1,e⟩:=h;cases a with
  |head=>exact h1
  |tail _ a=>exact zU e j a
theorem wg:∀{l:List Nat}{q:Nat},nJ ops l=σ q->q∈l/\∃o,ops[q]?=σ o/\kq o=true
 |[],q,h=>by cases h
 |i::l,q,h=>by
  simp only[nJ]at h;cases a:ops[i]? with
  |none=>rw[a]at h;obtain⟨h1,e⟩:=wg h;exact⟨.tail _ h1,e⟩
  |some o=>
   rw[a]at h;simp only at h;cases f:kq o with
   |true=>rw[f]at h;simp only[cond_true,Y7]at h;subst h;exact⟨.head _,o,a,f⟩
   |false=>rw[f]at h;obtain⟨h1,e⟩:=wg h;exact⟨.tail _ h1,e⟩
theorem Hi{o:T8}{e:Env}{a:Act}{K:Env->(x3->Prop)->Prop}(h:vZ P ops o e w K)(f:R4 N e a)(C:kX N o.dst=true):
  ∃v st,jy P ops o v a (nM o w st)/\∃p,K p st/\R4 N p (a.put o.dst v):=by
 unfold vZ at h;have z:∀{e:Env},R4 N e a->mU P o e w K->Region.wanted o (yielded ops a.tmps)=true->∃v st,jy P ops o v a (nM o w st)/\∃p,K p st/\R4 N p (a.put o.dst v):=λf h hw=>by
  obtain⟨v,st,h1,E,F,G⟩:=zO h f C;exact⟨v,st,.inl ⟨hw,F,λJ U=>U.elim (λhm=>He hm (h1 w (Ext.refl w))) λh=>h.elim (h1 J) λ⟨aa,H,I⟩=>G aa H J I⟩,E⟩
 have skip:∀{e:Env},R4 N e a->K (ea e o.dst .u) (λ_=>True)->Region.wanted o (yielded ops a.tmps)=false->∃v st,jy P ops o v a (nM o w st)/\∃p,K p st/\R4 N p (a.put o.dst v):=λf h hw=>
  ⟨undef,_,.inr ⟨hw,rfl⟩,_,h,f.put C rfl⟩
 cases q:o.guard with
 |none=>rw[q]at h;exact z f h (by simp[Region.wanted,q])
 |some L=>
  obtain⟨j,b⟩:=L;rw[q]at h;simp only at h;cases r:(ops[j]?).bind (·.dst)with
  |none=>rw[r]at h;exact h.elim
  |some s=>
   rw[r]at h;simp only at h;cases V:look e s with
   |none=>rw[V]at h;exact h.elim
   |some x=>
    rw[V]at h;cases x with
    |b c=>
     simp only at h;have hw:=tj f q r V rfl;cases U:xor c b with
     |true=>rw[U]at h hw;exact skip f h hw
     |false=>rw[U]at h hw;exact z f h hw
    |v y=>
     simp only at h;obtain⟨c,rfl,A,af⟩:=h;have hw:=tj f q r V rfl;have B:=f.lit V rfl;cases c with
     |true=>
      have A:=A rfl;cases b with
      |true=>exact z B A hw
      |false=>exact skip B A hw
     |false=>
      have af:=af rfl;cases b with
      |true=>exact skip B af hw
      |false=>exact z B af hw
    |u=>exact skip f h (zP f q r V)
theorem wh:∀{l:List Nat},nJ ops l=ν->∀j∈l,nN ops j=false
 |[],_,_,h=>by cases h
 |i::l,h,j,a=>by
  simp only[nJ]at h;cases e:ops[i]? with
  |none=>
   rw[e]at h;cases a with
   |head=>simp[nN,e]
   |tail _ a=>exact wh h j a
  |some o=>
   rw[e]at h;simp only at h;cases f:kq o with
   |true=>rw[f]at h;cases h
   |false=>
    rw[f]at h;cases a with
    |head=>simp[nN,e,f]
    |tail _ a=>exact wh h j a
theorem Hj{p:Array Nat}{same:Bool}{q:Nat}{st:x3->Prop}{e:List (x3×List (Nat×(x3->Prop)))}(V:same=true->∃a r,e=(w,a)::r):
  (∀j J,nO p (ti same q w st e) j J->nO p e j J)/\(∀j J,me p j q=true->nO p (ti same q w st e) j J->Ext w J\/st J)/\∃a r,ti same q w st e=(w,a)::r:=by
 cases same with
 |true=>
  obtain⟨a,r,rfl⟩:=V F;refine⟨λj J h g f x U hu=>?_,λj J hu h=>h (w,(q,st)::a) (.head _) (q,st) (.head _) hu,_,_,F⟩;cases f with
  |head=>exact h (w,(q,st)::a) (.head _) x (.tail _ U) hu
  |tail _ f=>exact h g (.tail _ f) x U hu
 |false=>
  refine⟨λj J h g f x U hu=>h g (.tail _ f) x U hu,λj J hu h=>h (w,[(q,st)]) (.head _) (q,st) (.head _) hu,_,_,F⟩
theorem Hk{K:Env->x3->Prop}{A:Array Nat}(W:mX ops A=true)(X:Region.noSelect ops=true)(Y:∀c a w,¬Q (.panic c) a w)(O:∀o∈ops.toList,∀t,o.dst=σ t->t∈D)(Z:oL N ops.toList=true):
  ∀(fuel:Nat)(p:Array Bool)(same:Bool)(s:List (x3×List (Nat×(x3->Prop))))(e:Env)(a:Act)(w:x3),Down ops p->(same=true->∃ag r,s=(w,ag)::r)->
   nK P free ops A fuel p same s e w K->R4 N e a->
   (∀a' J,nL N free K D a w a' J->Q .normal a' J)->jU r P ops A Q fuel p s a w:=by
 have G:∀{j:Nat}{o:T8},ops[j]?=σ o->o∈ops.toList:=λh=>by
  rw[<-R6]at h;exact x5 h
 have ok:∀{j:Nat}{o:T8},ops[j]?=σ o->kX N o.dst=true:=λh=>by
  simp only[oL,List.all_eq_true]at Z;exact Z _ (G h)
 intro fuel;induction fuel with
 |zero=>
  intro p same s e a w B R h E C;unfold nK at h;cases y:Region.ready .any ops p with
  |nil=>rw[y]at h;exact⟨y,C a w ⟨e,h,E,gM.refl _ _,λ_=>cG.refl _ _⟩⟩
  |cons i l=>rw[y]at h;exact h.elim
 |succ fuel S=>
  intro p same s e a w B R h E C;unfold nK at h;cases y:Region.ready .any ops p with
  |nil=>
   rw[y]at h;refine⟨λ_=>C a w ⟨e,h,E,gM.refl _ _,λ_=>cG.refl _ _⟩,λi hi=>?_⟩;rw[y]at hi;cases hi
  |cons i l=>
   rw[y]at h;simp only at h;cases H:nJ ops (i::l)with
   |some q=>
    rw[H]at h;simp only at h;obtain⟨ah,o,f,ab⟩:=wg H;cases I:Region.free .any ops p q with
    |false=>rw[I]at h;exact h.elim
    |true=>
     rw[I,f]at h;simp only[cond_true]at h;obtain⟨v,st,ac,L,z,ad⟩:=Hi h E (ok f);have M:q∈Region.ready .any ops p:=by rw[y];exact ah
     cases hm:mW o with
     |true=>
      rw[hm]at z;refine jU.take W X Y f ab (λ_ _ h=>h) (λh=>by rw[hm]at h;cases h) fuel p a w B (Region.free_spec f I) M ac (.inr (.inl (Ext.refl _))) ?_;exact S _ same s L _ w (B.set M) R z ad λa' J x=>C a' J (x.step (gM.put a v λt F=>O o (G f) t F) λ_=>cG.refl _ _)
     |false=>
      rw[hm]at z;obtain⟨h1,ai,aj⟩:=Hj R;refine jU.take W X Y f ab h1 (λ_=>ai) fuel p a w B (Region.free_spec f I) M ac (.inr (.inl (Ext.refl _))) ?_;exact S _ true _ L _ w (B.set M) (λ_=>aj) z ad λa' J x=>C a' J (x.step (gM.put a v λt F=>O o (G f) t F) λ_=>cG.refl _ _)
   |none=>
    rw[H]at h;simp only at h;refine⟨(λae=>by rw[y]at ae;cases ae),λj af=>?_⟩;have T:=af;rw[y]at T;have ak:=wh H j T;have x:=zU h j T;cases f:ops[j]? with
    |none=>rw[f]at x;exact x.elim
    |some o=>
     rw[f]at x;simp only at x;unfold wpOpIn;simp only[f];have next:∀V aa,fj N free (λL J=>oK A j J (nK P free ops A fuel (p.setIfInBounds j true) false s L J K) s) o a w V aa->
       we ops A s j w aa/\jU r P ops A Q fuel (p.setIfInBounds j true) s V aa:=by
      rintro V aa ⟨al,v,z,am,rfl,an⟩;obtain⟨z,ao⟩:=wc z;exact⟨⟨λh=>(by rw[ak]at h;cases h),λ_=>ao⟩,
       S _ false s al _ aa (B.set af) (λh=>by cases h) z am λa' J x=>C a' J (x.step (gM.put a v λt F=>O o (G f) t F) an)⟩
     rcases zQ x E (ok f)with⟨hw,U⟩|⟨hw,U⟩
     .rw[if_pos hw];exact T8.wpIn_mono next U
     .rw[hw];exact⟨λ_ _=>trivial,next _ _ U⟩
theorem Hl(hm:P.follows .mixedOrders=true){K:Env->x3->Prop}{id:Nat}{e:Env}{a:Act}(q:mX ops (Region.before ops)=true)(s:∀c a w,¬Q (.panic c) a w)(y:∀o∈ops.toList,∀t,o.dst=σ t->t∈D)(z:oL N ops.toList=true)(h:∀J,Ext w J->Ext J w->cL w J->v8 P free ops e J K)(A:R4 N e a)(B:∀a' J,nL N free K D a w a' J->Q .normal a' J):
  (Code.region id ops true).wpIn (eC r) 0 P Q a w:=by
 refine wpIn_region_any hm ?_;have h:=h {w with drawn:=w.drawn+1} (tb w _) ⟨o4 _,λ_ _ h _=>h⟩ (q9 w _ (Nat.le_succ _));unfold v8 at h;cases f:Region.noSelect ops with
 |false=>rw[f]at h;exact h.elim
 |true=>
  rw[f]at h;refine jU.any _ _ _ _ _ (Hk q f s y z ops.size _ false [] e a _ ?_ (λh=>by cases h) h A λa' J C=>B a' J (C.step (gM.refl _ _) λ_=>(q9 w _ (Nat.le_succ _)).b));intro x o _ p;rcases Nat.lt_or_ge x ops.size with a7|a7
  .simp[a7]at p
  .simp[a7]at p
end
def kr(t:Nat):List Nat->Bool
 |[]=>false
 |s::r=>bif S5 s t then true else kr t r
theorem wi{t:Nat}:∀{l:List Nat},kr t l=true↔t∈l
 |[]=>by simp[kr]
 |s::r=>by
  simp only[kr];cases h:S5 s t with
  |true=>simp[Nat.eq_of_beq_eq_true h]
  |false=>
   have:=Nat.ne_of_beq_eq_false h;simp[wi,Ne.symm this]
def oM:List T8->List Nat
 |[]=>[]
 |o::l=>match o.dst with
  |some d=>d::oM l
  |none=>oM l
def tmpsOf:List S9->List Nat
 |[]=>[]
 | .tmp t::l=>t::tmpsOf l
 |_::l=>tmpsOf l
def Hm(ops:Array T8)(o:T8):List Nat:=
 match o.guard with
 |some (j,_)=>match(ops[j]?).bind (·.dst)with
  |some s=>[s]
  |none=>[]
 |none=>[]
def tk(D:List Nat):List Nat->List Nat
 |[]=>[]
 |t::r=>bif kr t D then tk D r else t::tk D r
def wj(D:List Nat):List Nat->List Nat
 |[]=>[]
 |t::r=>bif kr t D then t::wj D r else wj D r
def zV(ops:Array T8):List T8->List Nat->List Nat
 |[],_=>[]
 |o::l,D=>tk D (tmpsOf (opsOf o.op)++Hm ops o)++zV ops l (match o.dst with
  |some d=>d::D
  |none=>D)
def dA:Code->List Nat
 | .region _ ops _=>oM ops.toList
 | .seq a b=>dA a++dA b
 | .cond _ a b=>dA a++dA b
 | .block _ c=>dA c
 | .loop c=>dA c
 | .scope c=>dA c
 |_=>[]
def kY(id:Nat):Code->Nat
 | .seq a b=>kY id a+kY id b
 | .cond _ a b=>kY id a+kY id b
 | .block _ c=>kY id c
 | .loop c=>kY id c
 | .scope c=>kY id c
 | .exit i=>bif S5 i id then 1 else 0
 | .rangeFunc _ _ _ b=>kY id b
 |_=>0
def Hn(ops:Array T8):Bool:=
 let a:=Region.before ops;let e:=λ(i:Nat)=>match ops[i]? with|some o=>!(kq o)|none=>false
 (Z4 ops.size).any λj=>e j&&((Z4 j).any λi=>e i&&(!((a.getD j 0).testBit i)&& !((a.getD i 0).testBit j)))
def mf:Code->Nat
 | .region _ ops e=>bif (e&&Hn ops)||ops.any (·.guard.isSome)then 2 else 1
 | .seq a b=>bif S5 (mf a) 0 then 0 else mf b
 | .cond _ a b=>mf a+mf b
 | .block id c=>mf c+kY id c
 | .loop _=>0
 | .scope c=>mf c
 | .exit _=>0
 | .goto _=>0
 | .ret=>0
 | .refuse _=>0
 |_=>1
def mY:Code->List Nat
 | .region _ ops _=>oM ops.toList
 | .seq a b=>mY a++mY b
 | .cond _ a b=>bif S5 (mf a) 0 then mY b else bif S5 (mf b) 0 then mY a else wj (mY a) (mY b)
 | .block id c=>bif S5 (kY id c) 0 then mY c else[]
 | .scope c=>mY c
 |_=>[]
def reads:Code->List Nat
 | .region _ ops _=>zV ops ops.toList []
 | .seq a b=>reads a++tk (mY a) (reads b)
 | .cond c a b=>tmpsOf [c]++(reads a++reads b)
 | .block _ c=>reads c
 | .loop c=>reads c
 | .scope c=>reads c
 | .rangeFunc f _ a b=>tmpsOf [f]++(reads a++reads b)
 |_=>[]
def lG:Code->Bool
 | .seq a b=>lG a||lG b
 | .cond _ a b=>lG a||lG b
 | .block _ c=>lG c
 | .loop c=>lG c
 | .scope c=>lG c
 | .rangeFunc ..=>true
 |_=>false
def wf(N:Nat):Code->Bool
 | .region _ ops e=>oL N ops.toList&&(!e||mX ops (Region.before ops))
 | .seq a b=>wf N a&&wf N b
 | .cond _ a b=>wf N a&&wf N b
 | .block _ c=>wf N c
 | .loop c=>wf N c
 | .scope c=>wf N c
 | .rangeFunc _ f a b=>(f.toList.all λt=>Nat.blt t N)&&(wf N a&&wf N b)
 |_=>true
def oN:Nat->Type->Type
 |0,β=>β
 |n+1,β=>x1->oN n β
def app{β:Type}:(n:Nat)->oN n β->List x1->β
 |0,f,_=>f
 |n+1,f,[]=>app n (f undef) []
 |n+1,f,v::r=>app n (f v) r
def lam{β:Type}:(n:Nat)->(List x1->β)->oN n β
 |0,f=>f []
 |n+1,f=>λv=>lam n λr=>f (v::r)
def tm:(n:Nat)->oN n Prop->Prop
 |0,p=>p
 |n+1,p=>∀v,tm n (p v)
theorem tn{β:Type}:∀(n:Nat)(f:List x1->β)(vs:List x1),vs.length=n->app n (lam n f) vs=f vs
 |0,f,[],_=>rfl
 |n+1,f,v::r,h=>by
  simp only[app,lam];exact tn n _ r (by simpa using h)
theorem tp:∀(n:Nat)(p:oN n Prop)(vs:List x1),tm n p->app n p vs
 |0,_,_,h=>h
 |n+1,_,[],h=>tp n _ [] (h undef)
 |n+1,_,v::r,h=>tp n _ r (h v)
def Ho(n:Nat)(vs:List x1)(w:x3)(B:List x1->x3->(List x1->x3->Prop)->Prop):Prop:=
 ∃(I:oN n (x3->Prop))(a:oN n (x3->Nat)),app n I vs w/\
  tm n (lam n λus=>∀J,app n I us J->B us J λe f=>app n I e f/\app n a e f<app n a us J)
def Hp(w:x3)(B:x3->(x3->Prop)->Prop):Prop:=
 ∃(I:x3->Prop)(a:x3->Nat),I w/\∀J,I J->B J λe=>I e/\a e<a J
def cq(a:x1)(w:x3)(B:x1->x3->(x1->x3->Prop)->Prop):Prop:=
 ∃(I:x1->x3->Prop)(e:x1->x3->Nat),I a w/\∀a J,I a J->B a J λa' f=>I a' f/\e a' f<e a J
def bV(a b:x1)(w:x3)(B:x1->x1->x3->(x1->x1->x3->Prop)->Prop):Prop:=
 ∃(I:x1->x1->x3->Prop)(e:x1->x1->x3->Nat),I a b w/\∀a b J,I a b J->B a b J λa' f h=>I a' f h/\e a' f h<e a b J
def mg(a b c:x1)(w:x3)(B:x1->x1->x1->x3->(x1->x1->x1->x3->Prop)->Prop):Prop:=
 ∃(I:x1->x1->x1->x3->Prop)(e:x1->x1->x1->x3->Nat),I a b c w/\
  ∀a b c J,I a b c J->B a b c J λa' f h p=>I a' f h p/\e a' f h p<e a b c J
def tq(a b c d:x1)(w:x3)(B:x1->x1->x1->x1->x3->(x1->x1->x1->x1->x3->Prop)->Prop):Prop:=
 ∃(I:x1->x1->x1->x1->x3->Prop)(e:x1->x1->x1->x1->x3->Nat),I a b c d w/\
  ∀a b c d J,I a b c d J->B a b c d J λa' f h p q=>I a' f h p q/\e a' f h p q<e a b c d J
def rh(a b c d e:x1)(w:x3)(B:x1->x1->x1->x1->x1->x3->(x1->x1->x1->x1->x1->x3->Prop)->Prop):Prop:=
 ∃(I:x1->x1->x1->x1->x1->x3->Prop)(f:x1->x1->x1->x1->x1->x3->Nat),I a b c d e w/\∀a b c d e J,I a b c d e J->B a b c d e J λa' h p q r s=>I a' h p q r s/\f a' h p q r s<f a b c d e J
def Hq(a b c d e f:x1)(w:x3)(B:x1->x1->x1->x1->x1->x1->x3->(x1->x1->x1->x1->x1->x1->x3->Prop)->Prop):Prop:=
 ∃(I:x1->x1->x1->x1->x1->x1->x3->Prop)(h:x1->x1->x1->x1->x1->x1->x3->Nat),I a b c d e f w/\∀a b c d e f J,I a b c d e f J->B a b c d e f J λa' p q r s x y=>I a' p q r s x y/\h a' p q r s x y<h a b c d e f J
def cw{α:Type}(aB:α)(B:α->Prop):Prop:=B aB
def wk(n:Nat)(w:x3)(K:x3->Prop):Prop:=∀J,Ext w J->Ext J w/\fG n w J->K J
def Over(n:Nat)(w:x3)(K:x3->Prop):Prop:=∀J,Ext w J->Ext J w/\fG n w J->e5 w J->K J
def ey(w:x3)(K:x3->Prop):Prop:=∀J,Ext w J->Ext J w->cL w J->K J
def lH(e:Env):List Nat->Option (List x1)
 |[]=>σ []
 |t::r=>match look e t with
  |some x=>match lH e r with
   |some vs=>σ (x.val::vs)
   |none=>ν
  |none=>ν
def ks:List Nat->List x1->Env->Env
 |t::r,v::vs,e=>(t,.v v)::ks r vs e
 |_,_,e=>e
def nP(D:List Nat):Env->Env
 |[]=>[]
 |(t,x)::r=>bif kr t D then nP D r else(t,x)::nP D r
def ri(N:Nat)(D R:List Nat):List Nat:=(Z4 N).filter λt=>kr t D&&kr t R
def rj(N:Nat)(D R:List Nat)(e:Env):List Nat:=(Z4 N).filter λt=>kr t D&&((look e t).isSome&&kr t R)
def kt:Code->Bool
 | .seq a b=>kt a||kt b
 | .cond _ a b=>kt a||kt b
 | .block _ c=>kt c
 | .loop c=>kt c
 | .scope c=>kt c
 | .rangeFunc _ _ a b=>kt a||kt b
 | .ret=>true
 |_=>false
def Hr(i:Nat)(l:List Nat):List Nat:=bif kr i l then l else i::l
def tr:List Nat->List Nat->List Nat
 |[],l=>l
 |i::r,l=>Hr i (tr r l)
def wm(i:Nat):List Nat->List Nat
 |[]=>[]
 |j::r=>bif S5 i j then wm i r else j::wm i r
def kZ:Code->List Nat
 | .seq a b=>tr (kZ a) (kZ b)
 | .cond _ a b=>tr (kZ a) (kZ b)
 | .block id c=>wm id (kZ c)
 | .loop c=>kZ c
 | .scope c=>kZ c
 | .rangeFunc _ _ a b=>tr (kZ a) (kZ b)
 | .exit i=>[i]
 |_=>[]
def oO:List (Nat×(x3->Prop))->Nat->x3->Prop
 |[],_,_=>False
 |(j,k)::r,i,w=>(i=j/\k w)\/oO r i w
def wn(K:Nat->x3->Prop):List Nat->List (Nat×(x3->Prop))
 |[]=>[]
 |i::r=>(i,λw=>K i w)::wn K r
theorem zW{K:Nat->x3->Prop}:∀{l:List Nat}{i:Nat}{w:x3},oO (wn K l) i w->K i w
 |[],_,_,h=>h.elim
 |j::r,i,w,h=>by
  rcases h with⟨rfl,h⟩|h
  .exact h
  .exact zW h
section
variable(P:W9)
def p0{a:Type}(G:Bool)(g:Q4)(cap:List x1)(q:a)(r:a->Prop)(s:a->List x1->a->x3->Prop)(h:x3->Prop):Prop:=
 Enters P g/\∀(l:Nat)(aB e:a->x3->Prop)(w:x3),
  (∀k aa ab,Ext aa ab->cG w.heap.size aa ab->aB k aa->aB k ab)->(∀k aa ab,Ext aa ab->cG w.heap.size aa ab->e k aa->e k ab)->
  (∀k p vs J,h J->s k vs p J->aB k J->ja P l vs J λv f=>(v= .bool true/\h f/\aB p f/\(G=true->cL J f))\/(v= .bool false/\e k f))->
  h w->aB q w->gL P g (.func (.yield l) #[] #[]::cap) w λ_ J=>(∃k,r k/\aB k J)\/∃k,e k J
def wo(G:Bool)(g:Q4)(cap:List x1)(n:Nat)(h:Nat->List x1->x3->Prop)(f:x3->Prop):Prop:=
 Enters P g/\∀(l:Nat)(aB a:Nat->x3->Prop)(w:x3),
  (∀k aa ab,Ext aa ab->cG w.heap.size aa ab->aB k aa->aB k ab)->(∀k aa ab,Ext aa ab->cG w.heap.size aa ab->a k aa->a k ab)->
  (∀k vs J,k<n->f J->h k vs J->aB k J->ja P l vs J λv e=>(v= .bool true/\f e/\aB (k+1) e/\(G=true->cL J e))\/(v= .bool false/\a k e))->
  f w->aB 0 w->gL P g (.func (.yield l) #[] #[]::cap) w λ_ J=>aB n J\/∃k,k<n/\a k J
def rk{e:Type}(o G:Bool)(g:Q4)(cap:List x1)(q:e)(s:e->Prop)(x:e->List x1->e->x3->Prop)(h:(Nat->Prop)->x3->Prop):Prop:=
 Enters P g/\∀(l:Nat)(aB f:(Nat->Prop)->e->x3->Prop)(w:x3),
  (∀D k aa ab,ai (λr=>o=true/\w.heap.size<=r/\¬D r) aa ab->fG w.heap.size aa ab->aB D k aa->aB D k ab)->
  (∀D k aa ab,ai (λr=>o=true/\w.heap.size<=r/\¬D r) aa ab->fG w.heap.size aa ab->f D k aa->f D k ab)->
  (∀D k p vs J,(∀r,D r->w.heap.size<=r/\r<J.heap.size)->w.heap.size<=J.heap.size->h D J->x k vs p J->aB D k J->ja P l vs J λv a=>
   (v= .bool true/\(∃D',(∀r,D' r->D r\/J.heap.size<=r/\r<a.heap.size)/\(∀r,D r->D' r)/\h D' a/\aB D' p a)/\(G=true\/o=true->cL J a)/\J.heap.size<=a.heap.size/\(o=true->ai (λr=>r<w.heap.size\/D r) J a))\/(o=false/\v= .bool false/\f D k a))->
  (h (λ_=>False) w)->aB (λ_=>False) q w->gL P g (.func (.yield l) #[] #[]::cap) w λ_ J=>(∃D k,s k/\aB D k J)\/∃D k,f D k J
abbrev p1(g:Q4)(cap:List x1)(n:Nat)(a:Nat->List x1->x3->Prop)(e:x3->Prop):Prop:=wo P false g cap n a e
def Hs(z:x1)(q:Nat)(w:x3)(B:List x1->x3->(Exit->x3->Prop)->Prop)(A C:x3->Prop)(E:List (Nat×(x3->Prop))):Prop:=
 ∃(f:Type)(o G:Bool)(g:Q4)(cap:Array x1)(x:f)(y:f->Prop)(s:f->List x1->f->x3->Prop)(e:(Nat->Prop)->x3->Prop)(I:(Nat->Prop)->f->x3->Prop)(h:(Nat->Prop)->f->Exit->x3->Prop),
  z= .func (.func g) #[] cap/\rk P o G g cap.toList x y s e/\(∀k vs p w,s k vs p w->vs.length=q)/\
  (∀m w J,Ext w J->e m w->e m J)/\(∀m k aa ab,ai (λr=>o=true/\w.heap.size<=r/\¬m r) aa ab->fG w.heap.size aa ab->I m k aa->I m k ab)/\(∀m k ex aa ab,ai (λr=>o=true/\w.heap.size<=r/\¬m r) aa ab->fG w.heap.size aa ab->h m k ex aa->h m k ex ab)/\
  e (λ_=>False) w/\I (λ_=>False) x w/\
  tm q (lam q λvs=>∀m k p J,(∀r,m r->w.heap.size<=r/\r<J.heap.size)->w.heap.size<=J.heap.size->e m J->s k vs p J->I m k J->B vs J λex a=>match ex with
   | .normal=>bif o then(∃cm,(∀r,cm r->m r\/J.heap.size<=r/\r<a.heap.size)/\(∀r,m r->cm r)/\e cm a/\I cm p a)/\e5 J a/\ai (λr=>r<w.heap.size\/m r) J a else e m a/\I m p a/\(G=true->e5 J a)
   |ex=>bif o then False else h m k ex a)/\
  (∀m k J,y k->I m k J->A J)/\(∀m k J,h m k .ret J->C J)/\(∀m k i J,h m k (.exit i) J->oO E i J)
def k0(z:x1)(w:x3)(B:x1->x3->(Exit->x3->Prop)->Prop)(A C:x3->Prop)(E:List (Nat×(x3->Prop))):Prop:=
 ∃(h:Type)(o G:Bool)(g:Q4)(cap:Array x1)(x:h)(y:h->Prop)(s:h->List x1->h->x3->Prop)(f:(Nat->Prop)->x3->Prop)(I:(Nat->Prop)->h->x3->Prop)(p:(Nat->Prop)->h->Exit->x3->Prop),
  z= .func (.func g) #[] cap/\rk P o G g cap.toList x y s f/\(∀k vs q w,s k vs q w->vs.length=1)/\
  (∀m w J,Ext w J->f m w->f m J)/\(∀m k aa ab,ai (λr=>o=true/\w.heap.size<=r/\¬m r) aa ab->fG w.heap.size aa ab->I m k aa->I m k ab)/\(∀m k ex aa ab,ai (λr=>o=true/\w.heap.size<=r/\¬m r) aa ab->fG w.heap.size aa ab->p m k ex aa->p m k ex ab)/\
  f (λ_=>False) w/\I (λ_=>False) x w/\
  (∀a,∀m k q J,(∀r,m r->w.heap.size<=r/\r<J.heap.size)->w.heap.size<=J.heap.size->f m J->s k [a] q J->I m k J->B a J λex e=>match ex with
   | .normal=>bif o then(∃cm,(∀r,cm r->m r\/J.heap.size<=r/\r<e.heap.size)/\(∀r,m r->cm r)/\f cm e/\I cm q e)/\e5 J e/\ai (λr=>r<w.heap.size\/m r) J e else f m e/\I m q e/\(G=true->e5 J e)
   |ex=>bif o then False else p m k ex e)/\
  (∀m k J,y k->I m k J->A J)/\(∀m k J,p m k .ret J->C J)/\(∀m k i J,p m k (.exit i) J->oO E i J)
def p2(z:x1)(w:x3)(B:x1->x1->x3->(Exit->x3->Prop)->Prop)(A C:x3->Prop)(E:List (Nat×(x3->Prop))):Prop:=
 ∃(h:Type)(o G:Bool)(g:Q4)(cap:Array x1)(x:h)(y:h->Prop)(s:h->List x1->h->x3->Prop)(f:(Nat->Prop)->x3->Prop)(I:(Nat->Prop)->h->x3->Prop)(p:(Nat->Prop)->h->Exit->x3->Prop),
  z= .func (.func g) #[] cap/\rk P o G g cap.toList x y s f/\(∀k vs q w,s k vs q w->vs.length=2)/\
  (∀m w J,Ext w J->f m w->f m J)/\(∀m k aa ab,ai (λr=>o=true/\w.heap.size<=r/\¬m r) aa ab->fG w.heap.size aa ab->I m k aa->I m k ab)/\(∀m k ex aa ab,ai (λr=>o=true/\w.heap.size<=r/\¬m r) aa ab->fG w.heap.size aa ab->p m k ex aa->p m k ex ab)/\
  f (λ_=>False) w/\I (λ_=>False) x w/\
  (∀a b,∀m k q J,(∀r,m r->w.heap.size<=r/\r<J.heap.size)->w.heap.size<=J.heap.size->f m J->s k [a,b] q J->I m k J->B a b J λex e=>match ex with
   | .normal=>bif o then(∃cm,(∀r,cm r->m r\/J.heap.size<=r/\r<e.heap.size)/\(∀r,m r->cm r)/\f cm e/\I cm q e)/\e5 J e/\ai (λr=>r<w.heap.size\/m r) J e else f m e/\I m q e/\(G=true->e5 J e)
   |ex=>bif o then False else p m k ex e)/\
  (∀m k J,y k->I m k J->A J)/\(∀m k J,p m k .ret J->C J)/\(∀m k i J,p m k (.exit i) J->oO E i J)
theorem wo.s{P:W9}{G:Bool}{g:Q4}{cap:List x1}{f:Nat->List x1->x3->Prop}{a:x3->Prop}(h:wo P G g cap n f a):
  p0 P G g cap 0 (λk=>k=n) (λk vs p w=>k<n/\p=k+1/\f k vs w) a:=by
 refine⟨h.1,λl aB q w r x y ha z=>?_⟩;have:=h.2 l aB (λk w=>q k w) w r x (λk vs J hk hA B C=>y k (k+1) vs J hA ⟨hk,rfl,B⟩ C) ha z;cases this with
 |code h1 E=>exact .code h1 (E.mono λ_ _ ⟨v,F,e⟩=>⟨v,F,e.elim (λh=>.inl ⟨n,rfl,h⟩) (λ⟨k,_,h⟩=>.inr ⟨k,h⟩)⟩)
 |ext v J h1 e=>exact .ext v J h1 (e.elim (λh=>.inl ⟨n,rfl,h⟩) (λ⟨k,_,h⟩=>.inr ⟨k,h⟩))
theorem p0.x{P:W9}{s:Type}{G:Bool}{g:Q4}{cap:List x1}{E:s}{F:s->Prop}{H:s->List x1->s->x3->Prop}{y:x3->Prop}(h:p0 P G g cap E F H y):rk P false G g cap E F H λ_=>y:=by
 refine⟨h.1,λl aB I w K L M hy N=>?_⟩;have:=h.2 l (λk J=>w.heap.size<=J.heap.size/\∃D,(∀r,D r->w.heap.size<=r/\r<J.heap.size)/\aB D k J) (λk J=>∃D,I D k J) w
  (λk aa ab U A ⟨V,D,a,f⟩=>⟨X3 V U.size,D,λr z=>⟨(a r z).1,Q7 (a r z).2 U.size⟩,K D k aa ab (U.ac _) A.o f⟩) (λk aa ab U A ⟨D,f⟩=>⟨D,L D k aa ab (U.ac _) A.o f⟩)
  (λk O vs J hQ R ⟨V,D,a,f⟩=>ja.mono (M D k O vs J a V hQ R f) λv W S=>S.imp (λ⟨h1,⟨D',d1,_,p,B⟩,q,e,_⟩=>⟨h1,p,⟨X3 V e,D',λr z=>(d1 r z).elim (λh=>⟨(a r h).1,Q7 (a r h).2 e⟩) λh=>⟨X3 V h.1,h.2⟩,B⟩,λT=>q (.inl T)⟩) λ⟨_,h1,p⟩=>⟨h1,D,p⟩) hy ⟨o4 _,_,λ_ h=>h.elim,N⟩
 cases this with
 |code h1 p=>exact .code h1 (p.mono λ_ _ ⟨v,B,q⟩=>⟨v,B,q.imp (λ⟨k,e,_,D,_,C⟩=>⟨D,k,e,C⟩) (λ⟨k,D,h⟩=>⟨D,k,h⟩)⟩)
 |ext v J h1 q=>exact .ext v J h1 (q.imp (λ⟨k,e,_,D,_,C⟩=>⟨D,k,e,C⟩) (λ⟨k,D,h⟩=>⟨D,k,h⟩))
theorem k0.old{P:W9}{C:x1}{B:x1->x3->(Exit->x3->Prop)->Prop}{E F:x3->Prop}{H:List (Nat×(x3->Prop))}(h:∃(f:Type)(G:Bool)(g:Q4)(cap:Array x1)(s:f)(y:f->Prop)(r:f->List x1->f->x3->Prop)(e:x3->Prop)(I:f->x3->Prop)(p:f->Exit->x3->Prop),
  C= .func (.func g) #[] cap/\p0 P G g cap.toList s y r e/\(∀k vs q w,r k vs q w->vs.length=1)/\
  (∀w J,Ext w J->e w->e J)/\(∀k w J,Ext w J->I k w->I k J)/\(∀k ex w J,Ext w J->p k ex w->p k ex J)/\
  e w/\I s w/\
  (∀a,∀k q J,e J->r k [a] q J->I k J->B a J λex z=>match ex with
   | .normal=>e z/\I q z/\(G=true->e5 J z)
   |ex=>p k ex z)/\
  (∀k J,y k->I k J->E J)/\(∀k J,p k .ret J->F J)/\(∀k i J,p k (.exit i) J->oO H i J)):k0 P C w B E F H:=by
 obtain⟨f,G,g,cap,s,y,r,e,I,p,h1,K,L,M,N,O,Q,R,S,T,U,V⟩:=h;exact⟨f,false,G,g,cap,s,y,r,λ_=>e,λ_=>I,λ_=>p,h1,K.x,L,λ_=>M,λ_ k aa ab A _=>N k aa ab (A.ext λ_ _ h=>nomatch h.1),λ_ k ex aa ab A _=>O k ex aa ab (A.ext λ_ _ h=>nomatch h.1),Q,R,
  λa _ k q J _ _ he W X=>S a k q J he W X,λ_=>T,λ_=>U,λ_=>V⟩
theorem p2.old{P:W9}{C:x1}{B:x1->x1->x3->(Exit->x3->Prop)->Prop}{E F:x3->Prop}{H:List (Nat×(x3->Prop))}(h:∃(f:Type)(G:Bool)(g:Q4)(cap:Array x1)(s:f)(y:f->Prop)(r:f->List x1->f->x3->Prop)(e:x3->Prop)(I:f->x3->Prop)(p:f->Exit->x3->Prop),
  C= .func (.func g) #[] cap/\p0 P G g cap.toList s y r e/\(∀k vs q w,r k vs q w->vs.length=2)/\
  (∀w J,Ext w J->e w->e J)/\(∀k w J,Ext w J->I k w->I k J)/\(∀k ex w J,Ext w J->p k ex w->p k ex J)/\
  e w/\I s w/\
  (∀a b,∀k q J,e J->r k [a,b] q J->I k J->B a b J λex z=>match ex with
   | .normal=>e z/\I q z/\(G=true->e5 J z)
   |ex=>p k ex z)/\
  (∀k J,y k->I k J->E J)/\(∀k J,p k .ret J->F J)/\(∀k i J,p k (.exit i) J->oO H i J)):p2 P C w B E F H:=by
 obtain⟨f,G,g,cap,s,y,r,e,I,p,h1,K,L,M,N,O,Q,R,S,T,U,V⟩:=h;exact⟨f,false,G,g,cap,s,y,r,λ_=>e,λ_=>I,λ_=>p,h1,K.x,L,λ_=>M,λ_ k aa ab A _=>N k aa ab (A.ext λ_ _ h=>nomatch h.1),λ_ k ex aa ab A _=>O k ex aa ab (A.ext λ_ _ h=>nomatch h.1),Q,R,
  λa b _ k q J _ _ he W X=>S a b k q J he W X,λ_=>T,λ_=>U,λ_=>V⟩
def eD(N:Nat)(free:fH):Code->List Nat->Env->x3->(Exit->Env->x3->Prop)->Prop
 | .skip,_,e,w,K=>K .normal e w
 | .label _,_,e,w,K=>K .normal e w
 | .ret,_,e,w,K=>K .ret e w
 | .exit i,_,e,w,K=>K (.exit i) e w
 | .region _ ops q,_,e,w,K=>
  bif q then ey w λJ=>v8 P free ops e J (K .normal)
  else pY P free ops ops.toList e w (K .normal)
 | .seq x y,rd,e,w,K=>
  bif Nat.ble 2 (mf x)then
   cw (lam (ri N (dA x) (reads y++rd)).length λvs=>λJ=>eD N free y rd (ks (ri N (dA x) (reads y++rd)) vs (nP (dA x) e)) J K)
    λaB=>eD N free x (reads y++rd) e w λex a J=>match ex with
     | .normal=>match lH a (ri N (dA x) (reads y++rd))with
      |some vs=>app (ri N (dA x) (reads y++rd)).length aB vs J
      |none=>False
     |ex=>K ex a J
  else eD N free x (reads y++rd) e w λex a J=>match ex with
   | .normal=>eD N free y rd a J K
   |ex=>K ex a J
 | .cond c x y,rd,e,w,K=>
  match eK e c with
  |some (.b true)=>eD N free x rd e w K
  |some (.b false)=>eD N free y rd e w K
  |some (.v v)=>Split v (eD N free x rd e w K) (eD N free y rd e w K)
  |some .u=>False
  |none=>False
 | .block id c,rd,e,w,K=>eD N free c rd e w λex a J=>match ex with
  | .exit i=>bif S5 i id then K .normal a J else K (.exit i) a J
  |ex=>K ex a J
 | .loop c,rd,e,w,K=>
  match lH e (rj N (dA c) (reads c++rd) e)with
  |some vs=>
   Ho (rj N (dA c) (reads c++rd) e).length vs w λus J k=>
    eD N free c (reads c++rd) (ks (rj N (dA c) (reads c++rd) e) us (nP (dA c) e)) J λex a h=>match ex with
     | .normal=>match lH a (rj N (dA c) (reads c++rd) e)with
      |some r=>k r h
      |none=>False
     |ex=>K ex a h
  |none=>False
 | .scope c,rd,e,w,K=>eD N free c rd e w K
 | .rangeFunc f p s body,_,e,w,K=>
  bif free.1 then False else
  match eK e f with
  |some z=>
   Hs P z.val p.size w
    (λvs J k=>eD N free s (reads body) (ks p.toList.reverse vs.reverse e) J λex a h=>match ex with
     | .normal=>Over w.heap.size h λA=>eD N free body [] a A λex _ B=>k ex B
     |_=>False)
    (λJ=>K .normal e J) (bif kt body then λJ=>K .ret e J else λ_=>False) (wn (λi J=>K (.exit i) e J) (kZ body))
  |none=>False
 | .goto _,_,_,_,_=>False
 | .refuse _,_,_,_,_=>False
end
theorem ts{w0:x3}(h:cG n w0 w){l:Nat}(p:w0.heap.size<=l)(o:Obj):cG n w0 (w.putObj l o):=
 ⟨h.os,h.tape,h.output,by simpa using h.size,λr x a V=>by
  have e:=(j9.1 a).1;rw[Q5 Ω];exact h.a6 r x a V,λr x f a V=>by
  have e:=(j9.1 a).1;rw[Q5 Ω];exact h.old r x f a V⟩
theorem Ht{w0:x3}(h:e5 w0 w){l:Nat}{a:Obj}(f:w.heap[l]?=σ a)(p:ta a=false)(o:Obj):e5 w0 (w.putObj l o):=λr x q V=>by
 have h1:=h r x q V;by_cases e:r=l
 .subst e;rw[f]at h1;cases h1;rw[p]at V;cases V
 .rw[Q5 e];exact h1
theorem rl{l:Nat}{e:Obj}(h:w.heap[l]?=σ e)(p:fF e=false)(o:Obj):Ext w (w.putObj l o):=
 ⟨Ξ,λr x a V=>by
  by_cases f:r=l
  .subst f;rw[h]at a;cases a;rw[p]at V;cases V
  .rw[Q5 f];exact a⟩
theorem zX{l:Nat}{o:Obj}(f:fF o=false):Ext (w.putObj l o) w:=
 ⟨Ξ,λr x a V=>by
  by_cases e:r=l
  .subst e;rcases Nat.lt_or_ge r w.heap.size with h|h
   .rw[x3.putObj_heap_same h]at a;cases a;rw[f]at V;cases V
   .rw[Array.getElem?_eq_none (by simpa using h)]at a;cases a
  .rw[Q5 e]at a;exact a⟩
theorem p3(w:x3)(o:Obj):Ext w (w.alloc o):=ra w o
theorem p4(w:x3)(o:Obj):cL w (w.alloc o):=rb w o
def lI(D:Nat):Deferred:={target:=.collected D,args:=#[]}
def mZ(w:x3)(e:List Deferred):Prop:=∃a:List Nat,e=a.map lI/\a.Nodup/\∀D∈a,w.heap[D]?=σ (.deferred (σ []))
theorem mZ.cv{a:List Deferred}(h:mZ w a)(e:cG n w J):mZ J a:=by
 obtain⟨f,h1,p,q⟩:=h;exact⟨f,h1,p,λD r=>e.a6 D _ (q D r) F⟩
section
variable{P:W9}{N:Nat}
def Hu(w:x3)(e f:List Deferred):Prop:=∃a:List Nat,f=a.map lI++e/\∀D∈a,w.heap.size<=D
def gN(n:Nat)(w:x3)(e:List Deferred)(J:x3)(a:List Deferred):Prop:=cG n w J/\mZ J a/\Hu w e a
theorem gN.refl{a:List Deferred}(h:mZ w a):gN n w a w a:=⟨cG.refl _ _,h,[],F,λ_ h=>by cases h⟩
theorem gN.trans{aa:x3}{a e f:List Deferred}(h:gN n w a aa e)(k:gN n aa e J f):gN n w a J f:=by
 obtain⟨p,B,q,a3,a4⟩:=h;obtain⟨r,s,x,y,z⟩:=k;refine⟨p.trans r,s,x++q,by simp[y,a3],λD A=>?_⟩;rcases p9.1 A with h|h
 .exact X3 p.size (z D h)
 .exact a4 D h
theorem gN.same{a:List Deferred}(h:mZ w a)(e:cG n w J):gN n w a J a:=⟨e,h.cv e,[],F,λ_ h=>by cases h⟩
def mh:Exit->Bool
 | .panic _=>false
 | .outgrown=>false
 | .goto _=>false
 |_=>true
def nQ(N:Nat)(free:fH)(f:Bool)(K:Exit->Env->x3->Prop)(D:List Nat)(a:Act)(w:x3)(ex:Exit)(a':Act)(J:x3):Prop:=
 mh ex=true/\∃e,K ex e J/\R4 N e a'/\(∀t,t∉D->a'.tmps.getD t undef=a.tmps.getD t undef)/\(f=true->a'.defers=a.defers)/\
  (free.1=false->gN free.2 w a.defers J a'.defers)
theorem nQ.step{free:fH}{f p:Bool}{K:Exit->Env->x3->Prop}{D':List Nat}{a e a':Act}{aa:x3}{ex:Exit}(h:nQ N free p K D' e aa ex a' J)(r:∀t,t∈D'->t∈D)(hk:∀t,t∉D->e.tmps.getD t undef=a.tmps.getD t undef)(s:f=true->p=true)(af:f=true->e.defers=a.defers)(x:free.1=false->gN free.2 w a.defers aa e.defers):nQ N free f K D a w ex a' J:=by
 obtain⟨y,z,h1,A,B,C,E⟩:=h;exact⟨y,z,h1,A,λt q=>(B t λh=>q (r t h)).trans (hk t q),λh=>(C (s h)).trans (af h),λh=>(x h).trans (E h)⟩
theorem tt{D:List Nat}{t:Nat}{x:eB}:∀{e:Env},look (nP D e) t=σ x->look e t=σ x/\t∉D
 |[],h=>by cases h
 |(s,y)::r,h=>by
  simp only[nP]at h;cases hm:kr s D with
  |true=>
   rw[hm]at h;simp only[cond_true]at h;obtain⟨h1,f⟩:=tt h;refine⟨?_,f⟩;simp only[look];cases a:S5 s t with
   |true=>exact absurd (wi.1 hm) (by rw[Nat.eq_of_beq_eq_true a];exact f)
   |false=>exact h1
  |false=>
   rw[hm]at h;simp only[cond_false,look]at h ⊢;cases a:S5 s t with
   |true=>
    rw[a]at h;refine⟨h,λp=>?_⟩;rw[<-Nat.eq_of_beq_eq_true a]at p;rw[wi.2 p]at hm;cases hm
   |false=>
    rw[a]at h;exact tt h
theorem wp{a:Act}{e:Env}:∀{S:List Nat}{vs:List x1},R4 N e a->(∀p∈S.zip vs,a.tmps.getD p.1 undef=p.2)->R4 N (ks S vs e) a
 |[],_,h,_=>by simpa[ks]using h
 |t::r,[],h,_=>by simpa[ks]using h
 |t::r,v::vs,h,q=>by
  have w:=wp (S:=r) (vs:=vs) h λp y=>q p (by simp[y]);refine⟨w.1,λs x V=>?_⟩;simp only[ks,look]at V;cases f:S5 t s with
  |true=>
   rw[f]at V;simp only[cond_true,Y7]at V;subst V;rw[<-Nat.eq_of_beq_eq_true f];exact q (t,v) Ξ
  |false=>rw[f]at V;exact w.2 s x V
theorem tu{e:Env}{a:Act}(s:R4 N e a):∀{S:List Nat}{vs:List x1},lH e S=σ vs->vs.length=S.length/\∀p∈S.zip vs,a.tmps.getD p.1 undef=p.2
 |[],vs,h=>by simp[lH]at h;subst h;simp
 |t::r,vs,h=>by
  simp only[lH]at h;cases q:look e t with
  |none=>rw[q]at h;cases h
  |some x=>
   rw[q]at h;simp only at h;cases ae:lH e r with
   |none=>rw[ae]at h;cases h
   |some us=>
    rw[ae]at h;simp only[Y7]at h;subst h;obtain⟨h1,w⟩:=tu s ae;refine⟨by simp[h1],λp f=>?_⟩;simp only[List.zip_cons_cons,V5]at f;rcases f with rfl|f
    .exact s.2 t x q
    .exact w p f
theorem Hv{a a':Act}{e f:Env}(p:R4 N e a)(q:R4 N f a')(hk:∀t,t∉D->a'.tmps.getD t undef=a.tmps.getD t undef):R4 N (nP D e) a':=
 ⟨q.1,λt x h=>by
  obtain⟨h1,r⟩:=tt h;rw[hk t r];exact p.2 t x h1⟩
theorem Hw{o:T8}{t:Nat}(a:o.dst=σ t)(l:List T8)(hm:o∈l):t∈oM l:=by
 induction l with
 |nil=>cases hm
 |cons o' l e=>
  simp only[oM];rcases V5.1 hm with h|h
  .rw[<-h,a];simp
  .have:=e h;cases o'.dst with
   |none=>exact this
   |some d=>exact .tail _ this
theorem zY{free:fH}{f:Bool}{K:Exit->Env->x3->Prop}{a a':Act}(p:free.1=false->mZ w a.defers)(h:nL N free (K .normal) D a w a' J):
  nQ N free f K D a w .normal a' J:=by
 obtain⟨q,h1,r,e,s⟩:=h;exact⟨F,q,h1,r,e.2,λ_=>e.1,λaf=>by rw[e.1];exact gN.same (p af) (s af)⟩
theorem zZ:∀(a:List Nat)(vs:List x1)(p:Nat)(v:x1)(e:Env),a.length=vs.length->ks (a++[p]) (vs++[v]) e=ks a vs ((p,.v v)::e)
 |[],[],_,_,_,_=>rfl
 |[],_::_,_,_,_,h=>by simp at h
 |_::_,[],_,_,_,h=>by simp at h
 |q::a,u::vs,p,v,e,h=>by
  simp only[List.cons_append,ks];rw[zZ a vs p v e (by simpa using h)]
theorem z1:∀(a:List Nat)(vs:List x1)(jV:Array x1)(e:Env),a.length=vs.length->(a.all λt=>Nat.blt t N)=true->R4 N e {tmps:=jV,defers:=[]}->
  R4 N (ks a.reverse vs.reverse e) {tmps:=(a.zip vs).foldl (λjV (p:Nat×x1)=>jV.setIfInBounds p.1 p.2) jV,defers:=[]}
 |[],[],_,_,_,_,h=>h
 |[],_::_,_,_,h,_,_=>by simp at h
 |_::_,[],_,_,h,_,_=>by simp at h
 |p::a,v::vs,jV,e,r,f,h=>by
  have q:a.length=vs.length:=by simpa using r
  simp only[List.all_cons,V9]at f;simp only[List.zip_cons_cons,S8,List.reverse_cons];rw[zZ _ _ _ _ _ (by simpa using q)];exact z1 a vs _ _ q f.2 (h.put (d:=σ p) (x:=.v v) (v:=v) f.1 F)
def ku(free:fH)(c:Code):Bool:=free.1|| !lG c
theorem z6:∀f a b:Bool,(f|| !(a||b))=true->(f|| !a)=true:=Φ
theorem z7:∀f a b:Bool,(f|| !(a||b))=true->(f|| !b)=true:=Φ
def exitCode:Exit->Option Code
 | .ret=>σ .ret
 | .exit id=>σ (.exit id)
 |_=>ν
end
section
variable{P:W9}{N:Nat}
def Sound(P:W9)(N:Nat)(c:Code):Prop:=
 ∀(free:fH)(r:Option Nat)(rd:List Nat)(e:Env)(a:Act)(w:x3)(K:Exit->Env->x3->Prop)(Q:Exit->Act->x3->Prop),
  wf N c=true->(∀l,r=σ l->free.1=false/\∃f,w.heap[l]?=σ (.loop f))->(free.1=false->mZ w a.defers)->
  eD P N free c rd e w K->R4 N e a->(∀ex a' J,nQ N free (ku free c) K (dA c) a w ex a' J->Q ex a' J)->(∀h a w,¬Q (.panic h) a w)->
  c.wpIn (eC r) 0 P Q a w
theorem Hx{x y:Code}(U:Sound P N x)(ab:Sound P N y):Sound P N (.seq x y):=by
 intro free r rd e a w K Q E M ac h O R S;simp only[wf,V9]at E;have T:∀t,t∈dA x->t∈dA (.seq x y):=λt s=>by simp[dA,s]
 have ad:∀t,t∈dA y->t∈dA (.seq x y):=λt s=>by simp[dA,s]
 have V:ku free (.seq x y)=true->ku free x=true:=λh=>z6 _ _ _ h;have ag:ku free (.seq x y)=true->ku free y=true:=λh=>z7 _ _ _ h;refine wpIn_seq ?_;have W:∀(f:Env)(p:Act)(aa:x3),eD P N free y rd f aa K->R4 N f p->(∀t,t∉dA x->p.tmps.getD t undef=a.tmps.getD t undef)->
   (ku free (.seq x y)=true->p.defers=a.defers)->(free.1=false->gN free.2 w a.defers aa p.defers)->y.wpIn (eC r) 0 P Q p aa:=by
  intro f p aa h1 z hk af q;refine ab free r rd f p aa K Q E.2 ?_ (λh=>(q h).2.1) h1 z ?_ S
  .intro l ah;obtain⟨X,ai,C⟩:=M l ah;exact⟨X,ai,(q X).1.a6 _ _ C rfl⟩
  .intro ex a' J B;exact R ex a' J (B.step ad (λt s=>hk t λh=>s (T t h)) ag af q)
 have Y:∀(A:Exit->Env->x3->Prop),eD P N free x (reads y++rd) e w A->
   (∀f p aa,nQ N free (ku free x) A (dA x) a w .normal p aa->R4 N f p->A .normal f aa->(∀t,t∉dA x->p.tmps.getD t undef=a.tmps.getD t undef)->
    (ku free (.seq x y)=true->p.defers=a.defers)->(free.1=false->gN free.2 w a.defers aa p.defers)->y.wpIn (eC r) 0 P Q p aa)->
   (∀ex f aa,ex≠ .normal->A ex f aa->K ex f aa)->x.wpIn (eC r) 0 P (Exit.then (y.wpIn (eC r) 0 P Q) Q) a w:=by
  intro A ae q aj;refine U free r _ e a w A _ E.1 M ac ae O ?_ ?_
  .intro ex p aa B;cases ex with
   |normal=>
    have ak:=B;obtain⟨C,f,h1,F,G,H,I⟩:=B;exact q f p aa ak F h1 G (λh=>H (V h)) I
   |_=>
    obtain⟨C,f,h1,F,G,H,I⟩:=B;refine R _ p aa ⟨C,f,aj _ f aa Ξ h1,F,λt s=>G t λh=>s (T t h),λh=>H (V h),I⟩
  .intro al a w am;exact S al a w am
 simp only[eD]at h;cases Z:Nat.ble 2 (mf x)with
 |false=>
  rw[Z]at h;refine Y _ h (λf p aa _ z h1 hk af q=>W f p aa h1 z hk af q) ?_;intro ex f aa L h1;cases ex<;>first|exact absurd rfl L|exact h1
 |true=>
  rw[Z]at h;refine Y _ h (λf p aa _ z h1 hk af q=>?_) ?_
  .simp only at h1;cases ae:lH f (ri N (dA x) (reads y++rd))with
   |none=>rw[ae]at h1;exact h1.elim
   |some vs=>
    rw[ae]at h1;obtain⟨an,ao⟩:=tu z ae;simp only at h1;rw[tn _ _ _ an]at h1;exact W _ p aa h1 (wp (Hv O z hk) ao) hk af q
  .intro ex f aa L h1;cases ex<;>first|exact absurd rfl L|exact h1
theorem Hy{c:Code}(ac:Sound P N c):Sound P N (.loop c):=by
 intro free r rd e a w K Q T ad ag h F ah ai;simp only[wf]at T;simp only[eD]at h;generalize ay:rj N (dA c) (reads c++rd) e=S at h;cases ae:lH e S with
 |none=>rw[ae]at h;exact h.elim
 |some vs=>
  rw[ae]at h;simp only at h;obtain⟨I,aj,s,ak⟩:=h;obtain⟨al,am⟩:=tu F ae;let Inv:Act->x3->Prop:=λf aa=>∃us,us.length=S.length/\app S.length I us aa/\(∀p∈S.zip us,f.tmps.getD p.1 undef=p.2)/\f.tmps.size=N/\
   (∀t,t∉dA c->f.tmps.getD t undef=a.tmps.getD t undef)/\(ku free c=true->f.defers=a.defers)/\(free.1=false->gN free.2 w a.defers aa f.defers)
  let y:Act->List x1:=λf=>S.map λt=>f.tmps.getD t undef;have U:∀(f:Act)(us:List x1),us.length=S.length->(∀p∈S.zip us,f.tmps.getD p.1 undef=p.2)->y f=us:=by
   intro f us z A;apply List.ext_getElem
   .simp[y,z]
   .intro i h1 q;have hi:i<S.length:=by simpa[y]using h1
    have an:(S[i],us[i])∈S.zip us:=by
     have:=S3 (l:=S.zip us) (n:=i) (by simp[List.length_zip,z,hi]);simpa using this
    simpa[y]using A _ an
  refine wpIn_loop Inv (λf aa=>app S.length aj (y f) aa) ⟨vs,al,s,am,F.1,λ_ _=>rfl,λ_=>rfl,λaf=>gN.refl (ag af)⟩ ?_;rintro f aa ⟨us,z,ao,A,ap,hk,af,B⟩;have C:=tp S.length _ us ak;rw[tn _ _ _ z]at C;have C:=C aa ao;have aq:R4 N (ks S us (nP (dA c) e)) f:=by
   refine wp ⟨ap,λt x E=>?_⟩ A;obtain⟨h1,q⟩:=tt E;rw[hk t q];exact F.2 t x h1
  refine ac free r _ _ f aa _ _ T ?_ (λh=>(B h).2.1) C aq ?_ ?_
  .intro l au;obtain⟨V,av,s⟩:=ad l au;exact⟨V,av,(B V).1.a6 _ _ s rfl⟩
  .intro ex G ab H;have W:∀t,t∉dA c->G.tmps.getD t undef=a.tmps.getD t undef:=by
    obtain⟨_,_,_,_,J,_,_⟩:=H;exact λt E=>(J t E).trans (hk t E)
   cases ex with
   |normal=>
    obtain⟨s,L,h1,q,J,M,O⟩:=H;simp only at h1;cases R:lH L S with
    |none=>rw[R]at h1;exact h1.elim
    |some X=>
     rw[R]at h1;obtain⟨Y,Z⟩:=tu q R;refine⟨⟨X,Y,h1.1,Z,q.1,W,λh=>(M h).trans (af h),λh=>(B h).trans (O h)⟩,?_⟩;rw[U f us z A,U G X Y Z];exact h1.2
   |_=>
    obtain⟨s,L,h1,q,J,M,O⟩:=H;exact ah _ G ab ⟨s,L,h1,q,W,λh=>(M h).trans (af h),λh=>(B h).trans (O h)⟩
  .intro aw a w ax;exact ai aw a w ax
theorem Hz{o:Obj}(h:fF o=false):book o=true\/ta o=true:=by cases o<;>first|exact .inl rfl|exact .inr rfl|cases h
theorem HA{l:Nat}{f h:x3}{y z:Obj}(A:f.heap[l]?=σ y)(a:cG n f w)(e:cG n (w.putObj l z) h)(B:l<h.heap.size)(hi:e5 f h):cL f (h.putObj l y):=
 ⟨e.os.trans a.os,kW.trans e.tape a.tape,e.output.trans a.output,by have:=a.size;have C:=e.size;simp at C ⊢;omega,λr x p V=>by
  by_cases s:r=l
  .subst s;rw[A]at p;cases p;exact x3.putObj_heap_same B
  .rw[Q5 s];rcases Hz V with q|q
   .exact e.a6 r x (by rw[Q5 s];exact a.a6 r x p q) q
   .exact hi r x p q⟩
theorem HB{f:S9}{W:Array Tmp}{aa body:Code}(bf:Sound P N aa)(am:Sound P N body):Sound P N (.rangeFunc f W aa body):=by
 intro free r rd e a w K Q aO V az h ag bg b1;simp only[wf,V9]at aO;obtain⟨bh,bi,bj⟩:=aO;simp only[eD]at h;obtain⟨fr,b⟩:=free;cases fr with
 |true=>exact h.elim
 |false=>
  simp only[cond_false]at h;cases af:eK e f with
  |none=>rw[af]at h;exact h.elim
  |some b2=>
   rw[af]at h;obtain⟨aP,o,G,g,cap,b3,b4,b5,an,I,aA,bk,⟨aQ,bl⟩,bm,haR,ao,aC,hbn,bo,bp,bq,br,bs⟩:=h;have bt:∀m k ex J,mh ex=true->ex≠ .normal->aA m k ex J->K ex e J:=by
    intro m k ex J ah aD U;cases ex with
    |normal=>exact absurd rfl aD
    |ret=>
     have:=br m k J U;cases V:kt body with
     |true=>rw[V]at this;exact this
     |false=>rw[V]at this;exact this.elim
    |exit i=>exact zW (bs m k i J U)
    |_=>cases ah
   have bu:a.eval f= .func (.func g) #[] cap:=by rw[ag.eK af];exact bk
   refine wpIn_rangeFunc ?_;intro fn _;obtain⟨D,mark,l,z,C,bw,E,aS,ap,R,aT,aq⟩:∃(D:Nat)(mark:List Deferred)(l:Nat)(z:x3)(C:LoopState->Option Code->Loop),
     (Instr.enterLoop fn a.tmps W aa body (eC r).round).run P w= .ok (l,mark) z/\
     C=(λst bx=>{state:=st,pending:=bx,fn,tmps:=a.tmps,params:=W,assign:=aa,body,defers:=D})/\
     z.heap[l]?=σ (.loop (C .ready ν))/\(mark=[]\/(mark=[lI D]/\z.heap[D]?=σ (.deferred (σ []))/\w.heap.size<=D/\D≠l))/\Ext w z/\cL w z/\w.heap.size<=l:=by
    cases r with
    |none=>
     refine⟨w.heap.size,[lI w.heap.size],w.heap.size+1,_,_,run_enterLoop_outer _ _ _ _ _,rfl,?_,.inr ⟨rfl,?_,o4 _,Ω⟩,?_,?_,Ω⟩
     .have:=x3.alloc_heap_new (w.alloc (.deferred (σ []))) (.loop {state:=.ready,pending:=ν,fn,tmps:=a.tmps,params:=W,assign:=aa,body,defers:=w.heap.size});rwa [x3.size_alloc]at this
     .exact (Below.heap_alloc _ _ _ Ξ).trans (x3.alloc_heap_new w _)
     .exact (p3 w _).trans (p3 _ _)
     .exact (p4 w _).trans (p4 _ _)
    |some bz=>
     obtain⟨_,bA,S⟩:=V bz rfl;exact⟨bA.defers,[],w.heap.size,_,_,run_enterLoop_inner S _ _ _ _ _,rfl,x3.alloc_heap_new w _,.inl rfl,p3 _ _,p4 _ _,o4 _⟩
   let T:x3->Prop:=λq=>mark=[]\/(mark=[lI D]/\q.heap[D]?=σ (.deferred (σ []))/\w.heap.size<=D/\D≠l);have aE:∀{m:Nat}{A B:x3},cG m A B->T A->T B:=λF h=>h.imp id λ⟨h1,s,y⟩=>⟨h1,F.a6 _ _ s rfl,y⟩;have au:∀{A:x3}(o:Obj),T A->T (A.putObj l o):=λo h=>h.imp id λ⟨h1,s,y,L⟩=>⟨h1,(Q5 L).trans s,y,L⟩;have bB:cG b w z:=aT.b;have aU:=(j9.1 aS).1;have aV:∀{A B:x3},fG z.heap.size A B->T A->T B:=λF h=>h.imp id λ⟨h1,s,y⟩=>⟨h1,F.old _ _ (by
    rcases ap with hm|⟨_,az,_⟩
    .rw[hm]at h1;cases h1
    .exact (j9.1 az).1) s rfl,y⟩
   have aj:∀{A:x3}(o:Obj),fG w.heap.size A (A.putObj l o):=λ{A}o=>⟨rfl,.lD,rfl,Ξ,λr x V U _=>by rw[Q5 Ω];exact U⟩;let aB:(Nat->Prop)->aP->x3->Prop:=λm k q=>I m k q/\q.heap[l]?=σ (.loop (C .ready ν))/\cG b w q/\T q;let aW:(Nat->Prop)->aP->x3->Prop:=λm k q=>∃ex c,mh ex=true/\exitCode ex=σ c/\aA m k ex q/\q.heap[l]?=σ (.loop (C .done (σ c)))/\cG b w q/\T q;have own:∀{m:Nat->Prop}{A B:x3},ai (λr=>o=true/\z.heap.size<=r/\¬m r) A B->ai (λr=>o=true/\w.heap.size<=r/\¬m r) A B:=λh=>h.mono λr _ h=>⟨h.1,X3 R.size h.2.1,h.2.2⟩;have aF:=bl l aB aW z (λm k A B he F ⟨h1,s,y,L⟩=>⟨ao m k A B (own he) (F.mono R.size) h1,F.old _ _ aU s rfl,y.zJ F R.size,aV F L⟩)
    (λm k A B he F ⟨ex,c,S,h1,s,y,L,ak⟩=>⟨ex,c,S,h1,aC m k ex A B (own he) (F.mono R.size) s,F.old _ _ aU y rfl,L.zJ F R.size,aV F ak⟩) ?round (haR _ _ _ R hbn) ⟨ao _ _ _ _ (R.ac _) aT.o bo,aS,bB,ap⟩
   case round=>
    intro m k av vs q aX bC han aY ⟨hi,aw,bD,bE⟩;have aG:=bm k vs av q aY;have aZ:=run_yield (P:=P) (args:=vs.toArray) aw (by rw[E];simp[aG]);rw[E]at aZ;refine⟨fn,_,aa,body,aZ,roundIn_of_wpIn trivial ?_⟩;have bF:(W.zip vs.toArray).foldl (λtmps x=>match x with|(t,a)=>tmps.setIfInBounds t a) a.tmps=(W.toList.zip vs).foldl (λjV (p:Nat×x1)=>jV.setIfInBounds p.1 p.2) a.tmps:=by
     rw[<-Array.foldl_toList,Array.toList_zip]
    have a1:=z1 W.toList vs a.tmps e (by simp[aG]) bh (show R4 N e {tmps:=a.tmps,defers:=[]}from⟨ag.1,ag.2⟩);rw[<-bF]at a1;have bG:=aw;refine bf (false,b) (σ l) _ _ _ q _ _ bi (λfI aH=>⟨rfl,by cases aH;exact⟨_,aw⟩⟩) (λ_=>⟨[],rfl,List.nodup_nil,λD ap=>by cases ap⟩) (by have am:=tp _ _ vs bp;rw[tn _ _ _ aG]at am;exact am m k av q (λr V=>⟨X3 R.size (aX r V).1,(aX r V).2⟩) (X3 R.size bC) han aY hi) a1 ?_ (λ_ _ _ h=>h);intro ex a2 H aI;obtain⟨S,b6,h1,s,y,L,ak⟩:=aI;obtain⟨X,bH,_⟩:=ak rfl;cases ex with
    |normal=>
     have ab:=X.a6 _ _ aw rfl;have bI:=(j9.1 ab).1;refine⟨_,run_beginRound ab (by rw[E]),?_⟩;have bJ:Ext H (H.putObj l (.loop {C .ready ν with state:=.busy})):=rl ab rfl _;have a7:(H.putObj l (.loop {C .ready ν with state:=.busy})).heap[l]?=σ (.loop {C .ready ν with state:=.busy}):=x3.putObj_heap_same bI;have bK:mZ (H.putObj l (.loop {C .ready ν with state:=.busy})) a2.defers:=by
      obtain⟨ax,ad,ae,al⟩:=bH;refine⟨ax,ad,ae,λD' Y=>?_⟩;have:=al D' Y;have aD:D'≠l:=λhe=>by rw[he,ab]at this;cases this
      rw[Q5 aD];exact this
     have a8:cG b w (H.putObj l (.loop {C .ready ν with state:=.busy})):=ts (bD.trans X) aq _;have ba:=au (.loop {C .ready ν with state:=.busy}) (aE X bE);have bL:=h1 _ bJ ⟨zX rfl,aj _⟩ (Ht (e5.refl _) ab rfl _);refine am (false,b) (σ l) _ _ a2 _ _ _ bj (λfI aH=>⟨rfl,by cases aH;exact⟨_,a7⟩⟩) (λ_=>bK) bL s ?_ (λ_ _ _ h=>h);intro bM b7 M aI;obtain⟨aJ,b8,g1,b9,ca,cb,bN⟩:=aI;obtain⟨O,_,_⟩:=bN rfl;have aK:M.heap[l]?=σ (.loop {C .ready ν with state:=.busy}):=O.a6 _ _ a7 rfl;have aL:=(j9.1 aK).1;have bb:=λbO=>run_endRound (P:=P) bO aK;have ay:∀(o:Obj),Ext M (M.putObj l o):=λo=>rl aK rfl o;have bc:∀(ex:Exit)(c:Code),mh ex=true->exitCode ex=σ c->(bif o then False else aA m k ex M)->
       ∃v J,(Instr.endRound l (σ c)).run P M= .ok v J/\∃aM,Ending.returned v= .returned aM/\((aM= .bool true/\(∃cm,(∀r,cm r->m r\/q.heap.size<=r/\r<J.heap.size)/\(∀r,m r->cm r)/\an cm J/\aB cm av J)/\(G=true\/o=true->cL q J)/\q.heap.size<=J.heap.size/\(o=true->ai (λr=>r<z.heap.size\/m r) q J))\/(o=false/\aM= .bool false/\aW m k J)):=by
      intro ex c ah bP bd;cases o with
      |true=>exact bd.elim
      |false=>
       refine⟨_,_,bb (σ c),_,rfl,.inr ⟨rfl,rfl,ex,c,ah,bP,aC m k ex _ _ ((ay _).ac _) (aj _) bd,?_,ts (a8.trans O) aq _,au _ (aE O ba)⟩⟩;rw[x3.putObj_heap_same aL,E];rfl
     cases bM with
     |normal=>
      have bQ:q.heap.size<=M.heap.size:=by
       have h1:=X.size;have s:=O.size;simp at s;omega
      obtain⟨⟨cm,d1,d2,ad,ae⟩,bR,bS⟩:(∃cm,(∀r,cm r->m r\/q.heap.size<=r/\r<M.heap.size)/\(∀r,m r->cm r)/\an cm M/\I cm av M)/\(G=true\/o=true->e5 q M)/\(o=true->ai (λr=>r<z.heap.size\/m r) q M):=by
       cases o with
       |true=>exact⟨g1.1,λ_=>g1.2.1,λ_=>g1.2.2.mono λr _ h=>h.imp (λh=>Q7 h R.size) id⟩
       |false=>exact⟨⟨m,λr h=>.inl h,λ_ h=>h,g1.1,g1.2.1⟩,λh=>g1.2.2 (h.elim id λh=>nomatch h),λh=>nomatch h⟩
      refine⟨_,_,bb ν,_,rfl,.inl ⟨rfl,⟨cm,by simpa using d1,d2,haR _ _ _ (ay _) ad,ao _ _ _ _ ((ay _).ac _) (aj _) ae,?_,ts (a8.trans O) aq _,au _ (aE O ba)⟩,λbT=>?_,?_,λbU=>(bS bU).trans ((ay _).ac _)⟩⟩
      .rw[x3.putObj_heap_same aL,E];rfl
      .have:=HA bG X O aL (bR bT);subst E;exact this
      .simpa using bQ
     |ret=>exact bc .ret _ rfl rfl g1
     |exit id=>exact bc (.exit id) _ rfl rfl g1
     |goto t=>cases aJ
     |panic bV=>cases aJ
     |outgrown=>cases aJ
    |_=>exact h1.elim
   have aF:=gL.calls P aF aQ;refine⟨l,mark,z,{target:=.fn (.func g) cap,args:=#[.func (.yield l) #[] #[]]},z,g,#[.func (.yield l) #[] #[]]++cap,z,bw,?_,λ_ _=>trivial,?_,vU _ _,?_⟩
   .simp only[resolve,bu];simp[go_sem]
   .simp only[invoke];exact aQ _ _
   .have bW:(#[.func (.yield l) #[] #[]]++cap:Array x1)=(x1.func (.yield l) #[] #[]::cap.toList).toArray:=by apply Array.toList_inj.1;simp
    rw[bW];refine CallsIn.mono (zK aF) ?_;rintro cc H ⟨v,rfl,bX⟩;have left:∀(Z:Loop)(ex:Exit),mh ex=true->H.heap[l]?=σ (.loop Z)->Z.state≠ .busy->cG b w H->T H->K ex e (H.putObj l (.loop {Z with state:=.exhausted}))->
      Q ex {a with defers:=mark++a.defers} (H.putObj l (.loop {Z with state:=.exhausted})):=by
     intro Z ex ah ab cd X be bY;have O:cG b w (H.putObj l (.loop {Z with state:=.exhausted})):=ts X aq _;refine bg ex _ _ ⟨ah,e,bY,⟨ag.1,ag.2⟩,λ_ _=>rfl,(λh=>by simp[ku,lG]at h),λ_=>⟨O,?_,?_⟩⟩
     case refine_2=>
      rcases be with hm|⟨hm,_,bZ,_⟩
      .exact⟨[],by simp[hm],λ_ h=>by cases h⟩
      .exact⟨[D],by simp[hm],λD' Y=>by simp at Y;omega⟩
     obtain⟨ax,ad,ae,al⟩:=az rfl;have aN:=au (.loop {Z with state:=.exhausted}) be;rcases aN with hm|⟨hm,aN,bZ,_⟩
     .exact⟨ax,by simp[hm,ad],ae,λD' Y=>O.a6 _ _ (al D' Y) rfl⟩
     .refine⟨D::ax,by simp[hm,ad],List.nodup_cons.2 ⟨λb0=>?_,ae⟩,λD' Y=>?_⟩
      .have:=(j9.1 (al D b0)).1;omega
      .rcases V5.1 Y with h|h
       .rw[h];exact aN
       .exact O.a6 _ _ (al D' h) rfl
    rcases bX with⟨m,k,hk,h1,s,y,L⟩|⟨m,k,ex,c,S,h1,s,y,L,ak⟩
    .refine⟨ν,_,by have:=run_endLoop (P:=P) s (by rw[E];simp);rw[E]at this;exact this,?_⟩;have:=left (C .ready ν) .normal rfl s (by rw[E];simp) y L (bq m _ _ hk (ao m _ _ _ ((rl s rfl _).ac _) (aj _) h1));rw[E]at this;exact this
    .refine⟨σ c,_,by have:=run_endLoop (P:=P) y (by rw[E];simp);rw[E]at this;exact this,?_⟩;have:=left (C .done (σ c)) ex S y (by rw[E];simp) L ak (bt m k ex _ S (by intro he;rw[he]at h1;cases h1) (aC m _ _ _ _ ((rl y rfl _).ac _) (aj _) s));rw[E]at this;cases ex with
     |normal=>cases h1
     |ret=>cases h1;exact wpIn_ret this
     |exit id=>cases h1;exact wpIn_exit this
     |goto t=>cases S
     |panic bV=>cases S
     |outgrown=>cases S
theorem tv{b:Frame}{a:Act}{k:List Item}{cs:List Frame}{c:Code}:
  step P (lone (b.atR a (.code (.scope c)::k)) cs w)= .next (lone (b.atR a (.code c:: .inScope c::k)) cs w):=
 step_lone_go (by simp[stepG,stepG.exec,Frame.atR])
theorem HC{b:Frame}{a:Act}{k:List Item}{cs:List Frame}{c:Code}:
  step P (lone (b.atR a (.inScope c::k)) cs w)= .next (lone (b.atR a k) cs w):=
 step_lone_go (by simp[stepG,stepG.exec,Frame.atR])
theorem HD{F:Fence}{c:Code}{Q:Exit->Act->x3->Prop}{a:Act}(h:c.wpIn F n P (λex a' J=>mh ex=true/\Q ex a' J) a w):
  (Code.scope c).wpIn F n P Q a w:=by
 intro b k cs A q r;have f:(lone (b.atR a (.code (.scope c)::k)) cs w).fenced P F:=fenced_calm q r rfl;obtain⟨e,s,x,⟨y,z⟩,p⟩:=h b (.inScope c::k) cs A q r;have U:∀id,exitTo id (.inScope c::k)=exitTo id k:=λid=>by simp[exitTo]
 cases e with
 |normal=>exact⟨.normal,s,x,z,.head f tv (StepsIn.trans p (.one (fenced_calm q r rfl) HC))⟩
 |exit id=>
  exact⟨.exit id,s,x,z,λB hk=>.head f tv (p.1 B (by rw[U];exact hk)),
   λC hk=>let⟨E,h1,G⟩:=p.2 C (by rw[U];exact hk);⟨E,h1,.head f tv G⟩⟩
 |ret=>exact⟨_,s,x,z,.of_steps (.one f tv) p⟩
 |goto l=>cases y
 |panic H=>cases y
 |outgrown=>cases y
theorem sound(hm:P.follows .mixedOrders=true)(c:Code):Sound P N c:=by
 induction c with
 |skip=>exact λfree r rd e a w K Q _ _ q h p A _=>wpIn_skip (A _ _ _ ⟨rfl,e,h,p,λ_ _=>rfl,λ_=>rfl,λaf=>gN.refl (q af)⟩)
 |label l=>exact λfree r rd e a w K Q _ _ q h p A _=>wpIn_label (A _ _ _ ⟨rfl,e,h,p,λ_ _=>rfl,λ_=>rfl,λaf=>gN.refl (q af)⟩)
 |ret=>exact λfree r rd e a w K Q _ _ q h p A _=>wpIn_ret (A _ _ _ ⟨rfl,e,h,p,λ_ _=>rfl,λ_=>rfl,λaf=>gN.refl (q af)⟩)
 |exit i=>exact λfree r rd e a w K Q _ _ q h p A _=>wpIn_exit (A _ _ _ ⟨rfl,e,h,p,λ_ _=>rfl,λ_=>rfl,λaf=>gN.refl (q af)⟩)
 |goto l=>exact λfree r rd e a w K Q _ _ q h p A _=>h.elim
 |refuse s=>exact λfree r rd e a w K Q _ _ q h p A _=>h.elim
 |region id ops ab=>
  intro free r rd e a w K Q B F q h p A G;simp only[wf,V9]at B;have X:∀o∈ops.toList,∀t,o.dst=σ t->t∈oM ops.toList:=λo ac t L=>Hw L _ ac;simp only[eD]at h;cases ab with
  |false=>exact Hc X B.1 h p λa' J C=>A _ _ _ (zY q C)
  |true=>
   simp only[X2,Bool.false_or]at B;exact Hl hm B.2 G X B.1 (λJ h1 H I=>h J h1 H I) p λa' J C=>A _ _ _ (zY q C)
 |seq x y U S=>exact Hx U S
 |cond c x y U S=>
  intro free r rd e a w K Q B F q h p A G;simp only[wf,V9]at B;have Y:∀ex a' J,nQ N free (ku free x) K (dA x) a w ex a' J->Q ex a' J:=λex a' J C=>A ex a' J (by
   obtain⟨R,M,h1,H,I,O,T⟩:=C;exact⟨R,M,h1,H,λt L=>I t λh=>L (by simp[dA,h]),(λh=>O (z6 _ _ _ h)),T⟩)
  have Z:∀ex a' J,nQ N free (ku free y) K (dA y) a w ex a' J->Q ex a' J:=λex a' J C=>A ex a' J (by
   obtain⟨R,M,h1,H,I,O,T⟩:=C;exact⟨R,M,h1,H,λt L=>I t λh=>L (by simp[dA,h]),(λh=>O (z7 _ _ _ h)),T⟩)
  simp only[eD]at h;cases E:eK e c with
  |none=>rw[E]at h;exact h.elim
  |some v=>
   rw[E]at h;cases v with
   |b t=>
    cases t with
    |true=>exact wpIn_cond (p.eK E) (U free r rd e a w K Q B.1 F q h p Y G)
    |false=>exact wpIn_cond (p.eK E) (S free r rd e a w K Q B.2 F q h p Z G)
   |v z=>
    obtain⟨t,ad,L,af⟩:=h;refine wpIn_cond ((p.eK E).trans ad) ?_;cases t with
    |true=>exact U free r rd e a w K Q B.1 F q (L rfl) p Y G
    |false=>exact S free r rd e a w K Q B.2 F q (af rfl) p Z G
   |u=>exact h.elim
 |block id c E=>
  intro free r rd e a w K Q B F q h p A G;simp only[wf]at B;simp only[eD]at h;refine wpIn_block (E free r rd e a w _ _ B F q h p ?_ λaa a w V=>G aa a w V);intro ex a' J C;obtain⟨R,M,h1,H,I,O⟩:=C;cases ex with
  |exit i=>
   simp only[Exit.inBlock];simp only at h1;by_cases hi:i=id
   .rw[if_pos hi];rw[hi,Nat.beq_refl]at h1;exact A _ _ _ ⟨rfl,M,h1,H,I,O⟩
   .rw[if_neg hi];have:S5 i id=false:=by
     cases W:S5 i id with
     |true=>exact absurd (Nat.eq_of_beq_eq_true W) hi
     |false=>rfl
    rw[this]at h1;exact A _ _ _ ⟨rfl,M,h1,H,I,O⟩
  |_=>exact A _ _ _ ⟨R,M,h1,H,I,O⟩
 |loop c E=>exact Hy E
 |scope c E=>
  intro free r rd e a w K Q B F q h p A G;exact HD (E free r rd e a w K (λex a' J=>mh ex=true/\Q ex a' J) B F q h p (λex a' J C=>⟨C.1,A ex a' J C⟩) λaa a w V=>by cases V.1)
 |rangeFunc f ag ah body ae W=>exact HB ae W
def mi:Nat->List x1->Env
 |_,[]=>[]
 |i,v::r=>(i,.v v)::mi (i+1) r
def oP(P:W9)(e:Env)(w:x3):List ResultVar->(List x1->Prop)->Prop
 |[],K=>K []
 | .tmp t::r,K=>match look e t with
  |some x=>oP P e w r λvs=>K (x.val::vs)
  |none=>False
 | .cell a t::r,K=>match look e a with
  |some x=>ad P (do loadVar t (<-asAddr x.val)) w λv=>oP P e w r λvs=>K (v::vs)
  |none=>False
def tw:List x1->x1
 |[v]=>v
 |vs=>.tuple vs.toArray
def m4(P:W9)(a:List ResultVar)(marks:Bool)(n:Nat)(Q:x1->x3->Prop):Exit->Env->x3->Prop
 | .normal,e,w| .ret,e,w=>oP P e w a λvs=>bif marks then wk n w λJ=>Q (tw vs) J else Q (tw vs) w
 |_,_,_=>False
def nR:List ResultVar->List Nat
 |[]=>[]
 | .tmp t::r=>t::nR r
 | .cell a _::r=>a::nR r
theorem z8:∀(vs:List x1)(i t:Nat)(x:eB),look (mi i vs) t=σ x->∃j v,t=i+j/\vs[j]?=σ v/\x= .v v
 |[],_,_,_,h=>by cases h
 |v::r,i,t,x,h=>by
  simp only[mi,look]at h;cases a:S5 i t with
  |true=>
   rw[a]at h;simp only[cond_true,Y7]at h;exact⟨0,v,by rw[Nat.eq_of_beq_eq_true a];rfl,F,h.symm⟩
  |false=>
   rw[a]at h;obtain⟨j,u,h1,e,f⟩:=z8 r (i+1) t x h;exact⟨j+1,u,Ω,by simpa using e,f⟩
theorem wq(vs:List x1)(h:vs.length<=n):R4 n (mi 0 vs) {tmps:=vs.toArray++Array.replicate (n-vs.toArray.size) undef,defers:=[]}:=by
 refine⟨Θ,λt x U=>?_⟩;obtain⟨j,v,h1,a,rfl⟩:=z8 vs 0 t x U;have h1:t=j:=Ω
 subst h1;have e:=(x4.1 a).1;rw[Array.getD_eq_getD_getElem?,Array.getElem?_append_left (by simpa using e)];simp[a,eB.val]
def tx(jV:Array x1):ResultVar->Sem x1
 | .tmp t=>pure (jV.getD t undef)
 | .cell b t=>do loadVar t (<-asAddr (jV.getD b undef))
theorem HE(fn:Func)(jV:Array x1):results fn jV=(do let vs <-fn.results.mapM (tx jV);pure (if h:vs.size=1 then vs[0]else .tuple vs)):=by
 unfold results;congr 2
theorem wr{e:Env}{a:Act}{w:x3}(p:R4 N e a):∀(q:List ResultVar)(K:List x1->Prop),oP P e w q K->
  ∃vs,K vs/\vs.length=q.length/\∀J,Ext w J->(q.mapM (tx a.tmps)).run P J= .ok vs J
 |[],K,h=>⟨[],h,F,λJ _=>by simp[U2]⟩
 | .tmp t::r,K,h=>by
  simp only[oP]at h;cases f:look e t with
  |none=>rw[f]at h;exact h.elim
  |some x=>
   rw[f]at h;obtain⟨vs,h1,s,y⟩:=wr p r _ h;refine⟨x.val::vs,h1,by simp[s],λJ hw=>?_⟩;rw[List.mapM_cons];simp only[tx,W7,U2,V6,y J hw,p.2 t x f]
 | .cell b t::r,K,h=>by
  simp only[oP]at h;cases f:look e b with
  |none=>rw[f]at h;exact h.elim
  |some x=>
   rw[f]at h;obtain⟨v,ae,h⟩:=h;obtain⟨vs,h1,s,y⟩:=wr p r _ h;refine⟨v::vs,h1,by simp[s],λJ hw=>?_⟩;rw[List.mapM_cons];have:=ae J hw;rw[<-p.2 b x f]at this;rw[tx,W7,this];simp only[V6,W7,y J hw,U2]
theorem ws{fn:Func}{e:Env}{a:Act}(p:R4 N e a){K:List x1->Prop}(h:oP P e w fn.results.toList K):
  ∃vs,K vs/\∀J,Ext w J->(results fn a.tmps).run P J= .ok (tw vs) J:=by
 obtain⟨vs,h1,q,f⟩:=wr p _ _ h;refine⟨vs,h1,λJ hw=>?_⟩;have f:=f J hw;rw[HE,W7,Array.mapM_eq_mapM_toList,map_eq_pure_bind,W7,f];simp only[V6,U2];cases vs with
 |nil=>rfl
 |cons v r=>
  cases r with
  |nil=>rfl
  |cons u r=>simp[tw]
theorem Aa{fn:Func}{tmps:Array x1}{R:Ending->x3->Prop}:∀(a:List Nat)(w:x3),a.Nodup->(∀D∈a,w.heap[D]?=σ (.deferred (σ [])))->
  (∀J,Ext w J->Ext J w->J.os=w.os->kW w J->J.output=w.output->w.heap.size=J.heap.size->
   (∀r,r∉a->J.heap[r]?=w.heap[r]?)->∃v,(results fn tmps).run P J= .ok v J/\R (.returned v) J)->
  LeavesInM Fence.wide 0 P fn tmps R (a.map lI) .returning w
 |[],w,_,_,h=>by
  obtain⟨v,h1,e⟩:=h w (Ext.refl _) (Ext.refl _) F .lD F rfl λ_ _=>rfl;exact⟨v,h1,e⟩
 |D::a,w,f,p,h=>by
  rw[List.nodup_cons]at f;have q:=p D (.head _);refine⟨Ξ,.inl ⟨D,_,F,run_takeDeferred q,?_⟩⟩;refine Aa a _ f.2 (λD' s=>?_) λJ h1 e y z A B C=>?_
  .rw[Q5 (λhe=>f.1 (by rw[<-he];exact s))];exact p D' (.tail _ s)
  .refine h J ((rl q F _).trans h1) (e.trans (zX F)) y z A (by simpa using B) λr x=>?_;rw[C r λhm=>x (.tail _ hm),Q5 λhe=>x (by rw[he];exact .head _)]
theorem an.enter(hm:P.follows .mixedOrders=true){f:Q4}{fn:Func}{c:Code}(af:P.funcs[f]?=σ fn)(z:fn.body=σ c)(A:(fn.name == "runtime.NumGoroutine")=false)(N:wf fn.ntmps c=true){args:List x1}(O:Nat.ble args.length fn.ntmps=true){w:x3}{Q:x1->x3->Prop}(h:eD P fn.ntmps (false,w.heap.size) c (nR fn.results.toList) (mi 0 args) w (m4 P fn.results.toList true w.heap.size Q)):an P f args w Q:=by
 refine .code (Enters.of P af z A) (callsIn_wide (n:=0).1 (callsIn_of_wp_marks af z trivial ?_));have R:=wq (n:=fn.ntmps) args (Nat.le_of_ble_eq_true O);refine wpIn_mono (Q:=λex a' J=>mh ex=true/\bodyPostM Fence.wide 0 P fn (λe J=>∃v,e= .returned v/\cL w J/\Q v J) ex a' J) ?_ λ_ _ _ h=>h.2;refine sound hm c (false,w.heap.size) ν _ _ _ w _ _ N (λl S=>by cases S) (λ_=>⟨[],rfl,List.nodup_nil,λD s=>by cases s⟩) h R ?_ (λ_ _ _ h=>by cases h.1)
 .intro ex a' J T;obtain⟨U,W,p,X,_,_,V⟩:=T;obtain⟨a,⟨x,B,Y,s⟩,Z,aa,ac⟩:=V rfl;have C:∀D∈x,w.heap.size<=D:=by
   intro D ad;have h1:lI D∈Z.map lI:=by
    have:lI D∈x.map lI:=c7.2 ⟨D,ad,rfl⟩;rw[<-B,aa]at this;simpa using this
   obtain⟨E,y,ae⟩:=c7.1 h1;have:E=D:=by simpa[lI]using ae
   exact this▸ac E y
  have F:m4 P fn.results.toList true w.heap.size Q .ret W J->LeavesInM Fence.wide 0 P fn a'.tmps (λe G=>∃v,e= .returned v/\cL w G/\Q v G) a'.defers .returning J:=by
   intro p;rw[B];obtain⟨vs,h1,y⟩:=ws X p;refine Aa x J Y s λab g1 ag H I K L M=>⟨_,y ab g1,_,rfl,?_,h1 ab g1 ⟨ag,H,I,K,Nat.le_of_eq L,λr o A q _=>by rw[M r λhm=>by have:=C r hm;omega];exact q⟩⟩;have a:=a.cv (o4 _);refine⟨H.trans a.os,I.trans a.tape,K.trans a.output,by rw[<-L];exact a.size,λr o q ah=>?_⟩;have ai:=(j9.1 q).1;rw[M r λhm=>by have:=C r hm;omega];exact a.a6 r o q ah
  cases ex with
  |normal=>exact⟨rfl,F p⟩
  |ret=>exact⟨rfl,F p⟩
  |exit id=>exact p.elim
  |_=>cases U
theorem an.HF(hm:P.follows .mixedOrders=true){f:Q4}{fn:Func}{c:Code}(af:P.funcs[f]?=σ fn)(p:fn.body=σ c)(s:(fn.name == "runtime.NumGoroutine")=false)(x:wf fn.ntmps c=true){args:List x1}(y:Nat.ble args.length fn.ntmps=true)(aC:lG c=false){w:x3}{Q:x1->x3->Prop}(h:eD P fn.ntmps (false,w.heap.size) c (nR fn.results.toList) (mi 0 args) w (m4 P fn.results.toList false 0 Q)):an P f args w Q:=by
 refine .code (Enters.of P af p s) (callsIn_wide (n:=0).1 (callsIn_of_wp af p trivial ?_));have z:=wq (n:=fn.ntmps) args (Nat.le_of_ble_eq_true y);refine wpIn_mono (Q:=λex a' J=>mh ex=true/\bodyPost P fn (λe J=>∃v,e= .returned v/\cL w J/\Q v J) ex a' J) ?_ λ_ _ _ h=>h.2;refine sound hm c (false,w.heap.size) ν _ _ _ w _ _ x (λl A=>by cases A) (λ_=>⟨[],rfl,List.nodup_nil,λD B=>by cases B⟩) h z ?_ (λ_ _ _ h=>by cases h.1);intro ex a' J C;obtain⟨E,F,a,G,_,H,V⟩:=C;have I:=H (by simp[ku,aC]);have q:m4 P fn.results.toList false 0 Q .ret F J->a'.defers=[]/\∃v,(results fn a'.tmps).run P J= .ok v J/\∃r,Ending.returned v= .returned r/\cL w J/\Q r J:=by
  intro a;obtain⟨vs,h1,K⟩:=ws G a;exact⟨I,_,K J (Ext.refl _),_,rfl,(V rfl).1.cv (o4 _),h1⟩
 cases ex with
 |normal=>exact⟨rfl,q a⟩
 |ret=>exact⟨rfl,q a⟩
 |exit id=>exact a.elim
 |_=>cases E
theorem gL.enter(hm:P.follows .mixedOrders=true){f:Q4}{fn:Func}{c:Code}(af:P.funcs[f]?=σ fn)(p:fn.body=σ c)(s:(fn.name == "runtime.NumGoroutine")=false)(x:wf fn.ntmps c=true){args:List x1}(y:Nat.ble args.length fn.ntmps=true){w:x3}{Q:x1->x3->Prop}(h:eD P fn.ntmps (true,0) c (nR fn.results.toList) (mi 0 args) w (m4 P fn.results.toList false 0 Q)):gL P f args w Q:=by
 refine .code (Enters.of P af p s) (callsIn_wide (n:=0).1 (callsIn_of_wp af p trivial ?_));have z:=wq (n:=fn.ntmps) args (Nat.le_of_ble_eq_true y);refine wpIn_mono (Q:=λex a' J=>mh ex=true/\bodyPost P fn (λe J=>∃v,e= .returned v/\Q v J) ex a' J) ?_ λ_ _ _ h=>h.2;refine sound hm c (true,0) ν _ _ _ w _ _ x (λl A=>by cases A) (λh=>by cases h) h z ?_ (λ_ _ _ h=>by cases h.1);intro ex a' J B;obtain⟨C,E,a,F,_,G,V⟩:=B;have H:=G rfl;have q:m4 P fn.results.toList false 0 Q .ret E J->a'.defers=[]/\∃v,(results fn a'.tmps).run P J= .ok v J/\∃r,Ending.returned v= .returned r/\Q r J:=by
  intro a;obtain⟨vs,h1,I⟩:=ws F a;exact⟨H,_,I J (Ext.refl _),_,rfl,h1⟩
 cases ex with
 |normal=>exact⟨rfl,q a⟩
 |ret=>exact⟨rfl,q a⟩
 |exit id=>exact a.elim
 |_=>cases C
end
def rm(l:List S9)(d:Nat):Nat:=
 match l with
 |[]=>d
 | .tmp t::r=>rm r (Nat.lor d (Nat.shiftLeft 1 t))
 |_::r=>rm r d
def p5:List T8->Nat->Option T8
 |[],_=>ν
 |o::_,0=>σ o
 |_::l,n+1=>p5 l n
def Ab(a b:Nat):Nat:=Nat.xor a (Nat.land a b)
def rn(m t:Nat):Bool:=S5 (Nat.land (Nat.shiftRight m t) 1) 1
def lJ(m t:Nat):Nat:=Nat.lor m (Nat.shiftLeft 1 t)
def HG(ops:List T8)(o:T8):Nat:=
 match o.guard with
 |none=>0
 |some (j,_)=>match p5 ops j with
  |some ⟨σ d,_,_,_,_,_⟩=>Nat.shiftLeft 1 d
  |_=>0
def tz:List T8->Nat->Nat
 |[],d=>d
 |⟨σ t,_,_,_,_,_⟩::l,d=>tz l (lJ d t)
 |_::l,d=>tz l d
def Ac(ops:List T8):List T8->Nat->Nat->Nat
 |[],_,r=>r
 |o::l,d,r=>Ac ops l (match o.dst with|some t=>lJ d t|none=>d) (Nat.lor r (Ab (rm (opsOf o.op) (HG ops o)) d))
def tA:List Nat->Nat->Nat
 |[],_=>0
 |x::_,0=>x
 |_::l,n+1=>tA l n
def Ad(e:Edge):Bool:=
 match e.ground with
 | .textOnly _=>false
 | .gcOnly _=>false
 |_=>true
def Ae(a:List Nat):List Edge->Nat->Nat
 |[],s=>s
 |e::r,s=>Ae a r (bif Ad e then Nat.lor (lJ s e.on) (tA a e.on)else s)
def wu:List T8->List Nat->List Nat
 |[],a=>a
 |o::l,a=>wu l (a++[Ae a o.after.toList 0])
def Af:List T8->Bool
 |[]=>false
 |⟨_,_,_,_,_,σ _⟩::_=>true
 |_::l=>Af l
def wv(a:List Nat)(j k:Nat):Bool:=!(S5 k j)&&(!(rn (tA a j) k)&& !(rn (tA a k) j))
def Ag(a:List Nat)(j:Nat):Nat->List T8->Bool
 |_,[]=>false
 |i,o::l=>bif Nat.ble j i then false else(!(kq o)&&wv a j i)||Ag a j (Nat.succ i) l
def Ah(ops:List T8)(a:List Nat):Nat->List T8->Bool
 |_,[]=>false
 |j,o::l=>(!(kq o)&&Ag a j 0 ops)||Ah ops a (Nat.succ j) l
def m7:Code->Nat
 | .region _ ops e=>bif (e&&Ah ops.toList (wu ops.toList []) 0 ops.toList)||Af ops.toList then 2 else 1
 | .seq a b=>bif S5 (m7 a) 0 then 0 else m7 b
 | .cond _ a b=>Nat.add (m7 a) (m7 b)
 | .block id c=>Nat.add (m7 c) (kY id c)
 | .loop _=>0
 | .scope c=>m7 c
 | .exit _=>0
 | .goto _=>0
 | .ret=>0
 | .refuse _=>0
 |_=>1
def jz:Code->Nat
 | .region _ ops _=>tz ops.toList 0
 | .seq a b=>Nat.lor (jz a) (jz b)
 | .cond _ a b=>Nat.lor (jz a) (jz b)
 | .block _ c=>jz c
 | .loop c=>jz c
 | .scope c=>jz c
 |_=>0
def m8:Code->Nat
 | .region _ ops _=>tz ops.toList 0
 | .seq a b=>Nat.lor (m8 a) (m8 b)
 | .cond _ a b=>bif S5 (m7 a) 0 then m8 b else bif S5 (m7 b) 0 then m8 a else Nat.land (m8 a) (m8 b)
 | .block id c=>bif S5 (kY id c) 0 then m8 c else 0
 | .scope c=>m8 c
 |_=>0
def gw:Code->Nat
 | .region _ ops _=>Ac ops.toList ops.toList 0 0
 | .seq a b=>Nat.lor (gw a) (Ab (gw b) (m8 a))
 | .cond c a b=>rm [c] (Nat.lor (gw a) (gw b))
 | .block _ c=>gw c
 | .loop c=>gw c
 | .scope c=>gw c
 | .rangeFunc f _ a b=>rm [f] (Nat.lor (gw a) (gw b))
 |_=>0
def nS:Nat->Nat->Nat->List Nat
 |0,_,_=>[]
 |n+1,k,m=>bif S5 m 0 then[]else bif S5 (Nat.land m 1) 1 then k::nS n (Nat.succ k) (Nat.shiftRight m 1)else nS n (Nat.succ k) (Nat.shiftRight m 1)
def rp(e:Env):List Nat->List Nat
 |[]=>[]
 |t::r=>match look e t with
  |some _=>t::rp e r
  |none=>rp e r
structure nT(B S aZ:Type) where
 mj:{x:x1}->x1
 tup:List x1->x1
 no:B
 ml:B
 and:B->B->B
 or:B->B->B
 ext:x3->x3->B
 stays:S->x1->x3->B
 split:x1->B->B->B
 wx:S->x3->(x1->B)->B
 Ai:S->x3->(x1->x3->B)->B
 Aj:aZ->x3->(x3->B)->B
 runN:{fr:Bool}->{n:Nat}->S->x3->(x1->x3->B)->B
 Ak:{f:Q4}->List x1->x3->(x1->x3->B)->B
 Al:{f:Q4}->List x1->x3->(x1->x3->B)->B
 Am:{fr:Bool}->x1->List x1->x3->(x1->x3->B)->B
 drew:x3->(x3->B)->B
 again:{n:Nat}->x3->(x3->B)->B
 over:{n:Nat}->x3->(x3->B)->B
 da:(x3->B)->((x3->B)->B)->B
 aV:(x1->x3->B)->((x1->x3->B)->B)->B
 iC:(x1->x1->x3->B)->((x1->x1->x3->B)->B)->B
 An:(x1->x1->x1->x3->B)->((x1->x1->x1->x3->B)->B)->B
 Ao:(x1->x1->x1->x1->x3->B)->((x1->x1->x1->x1->x3->B)->B)->B
 Ap:(x1->x1->x1->x1->x1->x3->B)->((x1->x1->x1->x1->x1->x3->B)->B)->B
 Aq:x3->(x3->(x3->B)->B)->B
 Ar:x1->x3->(x1->x3->(x1->x3->B)->B)->B
 As:x1->x1->x3->(x1->x1->x3->(x1->x1->x3->B)->B)->B
 Au:x1->x1->x1->x3->(x1->x1->x1->x3->(x1->x1->x1->x3->B)->B)->B
 Av:x1->x1->x1->x1->x3->(x1->x1->x1->x1->x3->(x1->x1->x1->x1->x3->B)->B)->B
 Aw:x1->x1->x1->x1->x1->x3->(x1->x1->x1->x1->x1->x3->(x1->x1->x1->x1->x1->x3->B)->B)->B
 Ax:x1->x1->x1->x1->x1->x1->x3->(x1->x1->x1->x1->x1->x1->x3->(x1->x1->x1->x1->x1->x1->x3->B)->B)->B
 Ay:x1->x3->(x1->x3->(Exit->x3->B)->B)->(x3->B)->(x3->B)->List (Nat×(x3->B))->B
 Az:x1->x3->(x1->x1->x3->(Exit->x3->B)->B)->(x3->B)->(x3->B)->List (Nat×(x3->B))->B
 loadVar:{t:p8}->x1->S
 alloc:{t:p8}->S
 box:{t:p8}->x1->S
 build:{t:p8}->List (Nat×x1)->S
 buildSlice:{t:p8}->{n:Nat}->List (Nat×x1)->S
 load:{t:p8}->x1->S
 nil:x1->S
 bin:{op:BinOp}->{t:p8}->Bool->Bool->x1->x1->S
 un:{op:UnOp}->x1->S
 conv:{s d:p8}->x1->S
 AA:{t:p8}->x1->S
 AB:{f:Fn}->List x1->List x1->S
 AC:{t:p8}->Option x1->S
 AD:{t:p8}->x1->x1->S
 slice:{t:p8}->x1->Option x1->Option x1->Option x1->S
 AE:{t:p8}->x1->{f:Nat}->S
 field:{t:p8}->x1->{f:Nat}->S
 AF:{t:p8}->x1->x1->S
 index:{t:p8}->x1->x1->S
 lookup:{t:p8}->x1->x1->{ok:Bool}->S
 AG:{t:p8}->x1->x1->S
 range:{t:p8}->x1->S
 entry:x1->S
 assert:{t a:p8}->x1->{ok:Bool}->S
 extract:x1->{i:Nat}->S
 next:x1->{b:Bool}->S
 append:{ats:Array p8}->{t:p8}->List x1->S
 cap:{ats:Array p8}->{t:p8}->List x1->S
 clear:{ats:Array p8}->{t:p8}->List x1->S
 copy:{ats:Array p8}->{t:p8}->List x1->S
 delete:{ats:Array p8}->{t:p8}->List x1->S
 len:{ats:Array p8}->{t:p8}->List x1->S
 max:{ats:Array p8}->{t:p8}->List x1->S
 min:{ats:Array p8}->{t:p8}->List x1->S
 store:{t:p8}->x1->x1->aZ
 wy:{t:p8}->x1->x1->x1->aZ
 AH:{t:p8}->x1->x1->x1->aZ
section
variable{B S aZ:Type}(A:nT B S aZ)
def eB.g:eB->x1
 | .v x=>x
 | .b c=>.bool c
 | .u=>A.mj (x:=undef)
def oQ(e:Env):S9->eB
 | .tmp t=>match look e t with
  |some x=>x
  |none=>.u
 | .const (.bool c)=>.b c
 | .const x=>.v (A.mj (x:=x))
 | .global g=>.v (A.mj (x:=Γ g))
 | .func f=>.v (A.mj (x:=.func (.func f) #[] #[]))
def cZ(e:Env)(x:S9):x1:=(oQ A e x).g A
def oR(e:Env):List S9->List x1
 |[]=>[]
 |x::r=>cZ A e x::oR e r
def tB(e:Env):Option S9->Option x1
 |none=>ν
 |some x=>σ (cZ A e x)
def wz(e:Env):List (Nat×S9)->List (Nat×x1)
 |[]=>[]
 |(i,x)::r=>(i,cZ A e x)::wz e r
def HH(b:Z6)(ats:Array p8)(t:p8)(l:List x1)(K:S->B):B:=
 match b with
 | .append=>K (A.append (ats:=ats) (t:=t) l)
 | .cap=>K (A.cap (ats:=ats) (t:=t) l)
 | .clear=>K (A.clear (ats:=ats) (t:=t) l)
 | .copy=>K (A.copy (ats:=ats) (t:=t) l)
 | .delete=>K (A.delete (ats:=ats) (t:=t) l)
 | .len=>K (A.len (ats:=ats) (t:=t) l)
 | .max=>K (A.max (ats:=ats) (t:=t) l)
 | .min=>K (A.min (ats:=ats) (t:=t) l)
 |_=>A.no
def AI(e:Env)(t:p8)(K:S->B)(p:aZ->B):Op->B
 | .alloc t=>K (A.alloc (t:=t))
 | .box t x=>K (A.box (t:=t) (cZ A e x))
 | .build t q=>K (A.build (t:=t) (wz A e q.toList))
 | .buildSlice t n q=>K (A.buildSlice (t:=t) (n:=n) (wz A e q.toList))
 | .load t x=>K (A.load (t:=t) (cZ A e x))
 | .nilCheck x=>K (A.nil (cZ A e x))
 | .binOp op t x y _=>K (A.bin (op:=op) (t:=t) (pV x) (pV y) (cZ A e x) (cZ A e y))
 | .unOp op _ x=>K (A.un (op:=op) (cZ A e x))
 | .convert s d x=>K (A.conv (s:=s) (d:=d) (cZ A e x))
 | .makeInterface t x=>K (A.AA (t:=t) (cZ A e x))
 | .makeFunc f a b=>K (A.AB (f:=f) (oR A e a.toList) (oR A e b.toList))
 | .makeMap t r=>K (A.AC (t:=t) (tB A e r))
 | .makeSlice t l c=>K (A.AD (t:=t) (cZ A e l) (cZ A e c))
 | .slice t x l h m=>K (A.slice (t:=t) (cZ A e x) (tB A e l) (tB A e h) (tB A e m))
 | .fieldAddr t x f=>K (A.AE (t:=t) (cZ A e x) (f:=f))
 | .field t x f=>K (A.field (t:=t) (cZ A e x) (f:=f))
 | .indexAddr t x i=>K (A.AF (t:=t) (cZ A e x) (cZ A e i))
 | .index t x i=>K (A.index (t:=t) (cZ A e x) (cZ A e i))
 | .lookup t x i ok=>K (A.lookup (t:=t) (cZ A e x) (cZ A e i) (ok:=ok))
 | .mapEntry t m k=>K (A.AG (t:=t) (cZ A e m) (cZ A e k))
 | .range t x=>K (A.range (t:=t) (cZ A e x))
 | .entry x=>K (A.entry (cZ A e x))
 | .typeAssert x t a ok=>K (A.assert (t:=t) (a:=a) (cZ A e x) (ok:=ok))
 | .extract x i=>K (A.extract (cZ A e x) (i:=i))
 | .call ⟨.builtin b,args,ats⟩=>HH A b ats t (oR A e args.toList) K
 | .store t a x=>p (A.store (t:=t) (cZ A e a) (cZ A e x))
 | .mapUpdate t m k x=>p (A.wy (t:=t) (cZ A e m) (cZ A e k) (cZ A e x))
 | .insert t m k x=>p (A.wy (t:=t) (cZ A e m) (cZ A e k) (cZ A e x))
 | .entryStore t m k x=>p (A.AH (t:=t) (cZ A e m) (cZ A e k) (cZ A e x))
 |_=>A.no
def iD(e:Env)(d:Option Tmp)(x:eB):Env:=
 match d with
 |some t=>(t,x)::e
 |none=>e
def AJ(o:T8)(e:Env)(w:x3)(K:Env->(x3->B)->B):B:=
 match o with
 |⟨d,.move x,_,_,_,_⟩=>K (iD e d (oQ A e x)) (λ_=>A.ml)
 |⟨d,.assign x,_,_,_,_⟩=>K (iD e d (oQ A e x)) (λ_=>A.ml)
 |⟨d,.pick c a b,_,_,_,_⟩=>
  match oQ A e c with
  | .b true=>K (iD e d (oQ A e a)) (λ_=>A.ml)
  | .b false=>K (iD e d (oQ A e b)) (λ_=>A.ml)
  | .v x=>A.split x (K (iD e d (.v (cZ A e a))) (λ_=>A.ml)) (K (iD e d (.v (cZ A e b))) (λ_=>A.ml))
  | .u=>A.no
 |⟨d,op,t,_,_,_⟩=>AI A e t (λs=>A.wx s w λv=>K (iD e d (.v v)) (A.stays s v)) (λ_=>A.no) op
def HI(fr:Bool)(n:Nat)(o:T8)(e:Env)(w:x3)(K:Env->x3->B):B:=
 match o with
 |⟨d,.call ⟨.value (.func f),args,_⟩,_,_,_,_⟩=>
  bif fr then A.Al (f:=f) (oR A e args.toList) w λv J=>K (iD e d (.v v)) J
  else A.Ak (f:=f) (oR A e args.toList) w λv J=>K (iD e d (.v v)) J
 |⟨d,.call ⟨.value x,args,_⟩,_,_,_,_⟩=>A.Am (fr:=fr) (cZ A e x) (oR A e args.toList) w λv J=>K (iD e d (.v v)) J
 |⟨d,.next x b,_,_,_,_⟩=>A.runN (fr:=fr) (n:=n) (A.next (cZ A e x) (b:=b)) w λv J=>K (iD e d (.v v)) J
 |⟨d,op,t,_,_,_⟩=>AI A e t (λs=>A.Ai s w λv J=>K (iD e d (.v v)) J) (λu=>A.Aj u w λJ=>K (iD e d (.v (A.mj (x:=undef)))) J) op
def AK(fr:Bool)(n:Nat)(o:T8)(e:Env)(w:x3)(K:Env->x3->B):B:=
 bif kq o then AJ A o e w (λa _=>K a w)else HI A fr n o e w K
def wA(ops:List T8)(o:T8)(e:Env)(D N:Env->B):B:=
 match o.guard with
 |none=>D e
 |some (j,b)=>
  match p5 ops j with
  |some ⟨σ s,_,_,_,_,_⟩=>
   match look e s with
   |some (.b c)=>bif xor c b then N e else D e
   |some (.v x)=>A.split x (bif b then D ((s,.b true)::e)else N ((s,.b true)::e)) (bif b then N ((s,.b false)::e)else D ((s,.b false)::e))
   |some .u=>N e
   |none=>A.no
  |_=>A.no
def wB(fr:Bool)(n:Nat)(ops:List T8):List T8->Env->x3->(Env->x3->B)->B
 |[],e,w,K=>K e w
 |o::l,e,w,K=>wA A ops o e (λe=>AK A fr n o e w λa J=>wB fr n ops l a J K) (λe=>wB fr n ops l (iD e o.dst .u) w K)
def AL:List Edge->Nat->Bool
 |[],_=>true
 |e::r,a=>(bif Ad e then rn a e.on else true)&&AL r a
def tC(a:Nat):Nat->List T8->List Nat
 |_,[]=>[]
 |i,o::l=>bif rn a i then tC a (Nat.succ i) l else bif AL o.after.toList a then i::tC a (Nat.succ i) l else tC a (Nat.succ i) l
def AM(ops:List T8):List Nat->Option Nat
 |[]=>ν
 |i::r=>match p5 ops i with
  |some o=>bif kq o then σ i else AM ops r
  |none=>ν
def AN(p:Nat->B):List Nat->B
 |[]=>A.ml
 |[i]=>p i
 |i::r=>A.and (p i) (AN p r)
def AO(same:Bool)(q:Nat)(w:x3)(st:x3->B)(a:List (x3×List (Nat×(x3->B)))):List (x3×List (Nat×(x3->B))):=
 match same,a with
 |true,g::r=>(g.1,(q,st)::g.2)::r
 |_,a=>(w,[(q,st)])::a
def AP(a:List Nat)(j:Nat):List (Nat×(x3->B))->Bool
 |[]=>false
 |(i,_)::r=>wv a j i||AP a j r
def wC(a:List Nat)(j:Nat)(J:x3):List (Nat×(x3->B))->B
 |[]=>A.ml
 |(i,p)::r=>bif wv a j i then A.and (p J) (wC a j J r)else wC a j J r
def tD(a:List Nat)(j:Nat)(J:x3)(C:B):List (x3×List (Nat×(x3->B)))->B
 |[]=>C
 |(w,l)::r=>bif AP a j l then A.and (A.or (A.ext w J) (wC A a j J l)) (tD a j J C r)else tD a j J C r
def oS(fr:Bool)(n:Nat)(ops:List T8)(a:List Nat):Nat->Nat->Bool->List (x3×List (Nat×(x3->B)))->Env->x3->(Env->x3->B)->B
 |0,_,_,_,e,w,K=>K e w
 |fuel+1,h,same,f,e,w,K=>
  match tC h 0 ops with
  |[]=>K e w
  |i::r=>
   match AM ops (i::r)with
   |some q=>
    match p5 ops q with
    |some o=>wA A ops o e
      (λe=>AJ A o e w λp st=>
       bif mW o then oS fr n ops a fuel (lJ h q) same f p w K
       else oS fr n ops a fuel (lJ h q) true (AO same q w st f) p w K)
      (λe=>bif mW o then oS fr n ops a fuel (lJ h q) same f (iD e o.dst .u) w K
       else oS fr n ops a fuel (lJ h q) true (AO same q w (λ_=>A.ml) f) (iD e o.dst .u) w K)
    |none=>A.no
   |none=>
    AN A (λj=>match p5 ops j with
     |some o=>wA A ops o e (λe=>AK A fr n o e w λp J=>tD A a j J (oS fr n ops a fuel (lJ h j) false f p J K) f)
       (λe=>tD A a j w (oS fr n ops a fuel (lJ h j) false f (iD e o.dst .u) w K) f)
     |none=>A.no) (i::r)
def tE(e:Env):List Nat->List x1
 |[]=>[]
 |t::r=>(match look e t with|some x=>x.g A|none=>A.mj (x:=undef))::tE e r
def wD(l:List Nat)(vs:List x1)(e:Env):Env:=
 match l,vs with
 |t::r,v::vs=>(t,.v v)::wD r vs e
 |_,_=>e
def tF(d:Nat):Env->Env
 |[]=>[]
 |(t,x)::r=>bif rn d t then tF d r else(t,x)::tF d r
def HJ(l:List Nat)(aB:List x1->x3->B)(e:(List x1->x3->B)->B):B:=
 match l with
 |[]=>A.da (λw=>aB [] w) λk=>e λ_ w=>k w
 |[_]=>A.aV (λa w=>aB [a] w) λk=>e λvs w=>match vs with
  |[a]=>k a w
  |_=>A.no
 |[_,_]=>A.iC (λa b w=>aB [a,b] w) λk=>e λvs w=>match vs with
  |[a,b]=>k a b w
  |_=>A.no
 |[_,_,_]=>A.An (λa b c w=>aB [a,b,c] w) λk=>e λvs w=>match vs with
  |[a,b,c]=>k a b c w
  |_=>A.no
 |[_,_,_,_]=>A.Ao (λa b c d w=>aB [a,b,c,d] w) λk=>e λvs w=>match vs with
  |[a,b,c,d]=>k a b c d w
  |_=>A.no
 |[_,_,_,_,_]=>A.Ap (λa b c d f w=>aB [a,b,c,d,f] w) λk=>e λvs w=>match vs with
  |[a,b,c,d,f]=>k a b c d f w
  |_=>A.no
 |_=>A.no
def HK(us:List x1)(w:x3)(e:List x1->x3->(List x1->x3->B)->B):B:=
 match us with
 |[]=>A.Aq w λw k=>e [] w λ_ w=>k w
 |[a]=>A.Ar a w λa w k=>e [a] w λvs w=>match vs with
  |[a]=>k a w
  |_=>A.no
 |[a,b]=>A.As a b w λa b w k=>e [a,b] w λvs w=>match vs with
  |[a,b]=>k a b w
  |_=>A.no
 |[a,b,c]=>A.Au a b c w λa b c w k=>e [a,b,c] w λvs w=>match vs with
  |[a,b,c]=>k a b c w
  |_=>A.no
 |[a,b,c,d]=>A.Av a b c d w λa b c d w k=>e [a,b,c,d] w λvs w=>match vs with
  |[a,b,c,d]=>k a b c d w
  |_=>A.no
 |[a,b,c,d,f]=>A.Aw a b c d f w λa b c d f w k=>e [a,b,c,d,f] w λvs w=>match vs with
  |[a,b,c,d,f]=>k a b c d f w
  |_=>A.no
 |[a,b,c,d,f,g]=>A.Ax a b c d f g w λa b c d f g w k=>e [a,b,c,d,f,g] w λvs w=>match vs with
  |[a,b,c,d,f,g]=>k a b c d f g w
  |_=>A.no
 |_=>A.no
def wE(K:Nat->x3->B):List Nat->List (Nat×(x3->B))
 |[]=>[]
 |i::r=>(i,λw=>K i w)::wE K r
def jc(fr:Bool)(n:Nat):Code->Nat->Env->x3->(Exit->Env->x3->B)->B
 | .skip,_,e,w,K=>K .normal e w
 | .label _,_,e,w,K=>K .normal e w
 | .ret,_,e,w,K=>K .ret e w
 | .exit i,_,e,w,K=>K (.exit i) e w
 | .region _ ops E,_,e,w,K=>
  bif E then A.drew w λJ=>oS A fr n ops.toList (wu ops.toList []) (ops.toList.length) 0 false [] e J (K .normal)
  else wB A fr n ops.toList ops.toList e w (K .normal)
 | .seq x y,rd,e,w,K=>
  bif Nat.ble 2 (m7 x)then
   HJ A (nS 1000 0 (Nat.land (jz x) (Nat.lor (gw y) rd))) (λvs J=>jc fr n y rd (wD (nS 1000 0 (Nat.land (jz x) (Nat.lor (gw y) rd))) vs (tF (jz x) e)) J K)
    λaB=>jc fr n x (Nat.lor (gw y) rd) e w λex h J=>match ex with
     | .normal=>aB (tE A h (nS 1000 0 (Nat.land (jz x) (Nat.lor (gw y) rd)))) J
     |ex=>K ex h J
  else jc fr n x (Nat.lor (gw y) rd) e w λex h J=>match ex with
   | .normal=>jc fr n y rd h J K
   |ex=>K ex h J
 | .cond c x y,rd,e,w,K=>
  match oQ A e c with
  | .b true=>jc fr n x rd e w K
  | .b false=>jc fr n y rd e w K
  | .v v=>A.split v (jc fr n x rd e w K) (jc fr n y rd e w K)
  | .u=>A.no
 | .block id c,rd,e,w,K=>jc fr n c rd e w λex h J=>match ex with
  | .exit i=>bif S5 i id then K .normal h J else K (.exit i) h J
  |ex=>K ex h J
 | .loop c,rd,e,w,K=>
  HK A (tE A e (rp e (nS 1000 0 (Nat.land (jz c) (Nat.lor (gw c) rd))))) w λus J k=>
   jc fr n c (Nat.lor (gw c) rd) (wD (rp e (nS 1000 0 (Nat.land (jz c) (Nat.lor (gw c) rd)))) us (tF (jz c) e)) J λex h r=>match ex with
    | .normal=>k (tE A h (rp e (nS 1000 0 (Nat.land (jz c) (Nat.lor (gw c) rd))))) r
    |ex=>K ex h r
 | .scope c,rd,e,w,K=>jc fr n c rd e w K
 | .rangeFunc f F C body,_,e,w,K=>
  match F.toList with
  |[p]=>A.Ay (cZ A e f) w
    (λa J k=>jc fr n C (gw body) ((p,.v a)::e) J λex h r=>match ex with
     | .normal=>A.over (n:=w.heap.size) r λs=>jc fr n body 0 h s λex _ z=>k ex z
     |_=>A.no)
    (λJ=>K .normal e J) (bif kt body then λJ=>K .ret e J else λ_=>A.no) (wE (λi J=>K (.exit i) e J) (kZ body))
  |[p,q]=>A.Az (cZ A e f) w
    (λa b J k=>jc fr n C (gw body) ((q,.v b)::(p,.v a)::e) J λex h r=>match ex with
     | .normal=>A.over (n:=w.heap.size) r λs=>jc fr n body 0 h s λex _ z=>k ex z
     |_=>A.no)
    (λJ=>K .normal e J) (bif kt body then λJ=>K .ret e J else λ_=>A.no) (wE (λi J=>K (.exit i) e J) (kZ body))
  |_=>A.no
 | .goto _,_,_,_,_=>A.no
 | .refuse _,_,_,_,_=>A.no
def AQ:Nat->List x1->Env
 |_,[]=>[]
 |i,v::r=>(i,.v (A.mj (x:=v)))::AQ (i+1) r
def tG(e:Env)(w:x3):List ResultVar->(List x1->B)->B
 |[],K=>K []
 | .tmp t::r,K=>tG e w r λvs=>K ((match look e t with|some x=>x.g A|none=>A.mj (x:=undef))::vs)
 | .cell a t::r,K=>A.wx (A.loadVar (t:=t) (match look e a with|some x=>x.g A|none=>A.mj (x:=undef))) w λv=>tG e w r λvs=>K (v::vs)
def tH(vs:List x1)(K:x1->B):B:=
 match vs with
 |[v]=>K v
 |vs=>K (A.tup vs)
def wF:List ResultVar->Nat->Nat
 |[],s=>s
 | .tmp t::r,s=>wF r (lJ s t)
 | .cell a _::r,s=>wF r (lJ s a)
def HL(a:List ResultVar)(marks:Bool)(n:Nat)(Q:x1->x3->B):Exit->Env->x3->B
 | .normal,e,w=>tG A e w a λvs=>bif marks then A.again (n:=n) w λJ=>tH A vs λv=>Q v J else tH A vs λv=>Q v w
 | .ret,e,w=>tG A e w a λvs=>bif marks then A.again (n:=n) w λJ=>tH A vs λv=>Q v J else tH A vs λv=>Q v w
 |_,_,_=>A.no
def wG(fr marks:Bool)(fn:Func)(c:Code)(args:List x1)(w:x3)(Q:x1->x3->B):B:=
 jc A fr n c (wF fn.results.toList 0) (AQ A 0 args) w (HL A fn.results.toList marks n Q)
end
def p6(P:W9):nT Prop (Sem x1) (Sem Unit) where
 mj {x}:=x
 tup l:=.tuple l.toArray
 no:=False
 ml:=True
 and:=And
 or:=Or
 ext:=Ext
 stays:=cD P
 split:=Split
 wx:=ad P
 Ai:=aF P
 Aj u w K:=aF P u w λ_ J=>K J
 runN {fr n}:=tc P (fr,n)
 Ak {f}:=an P f
 Al {f}:=gL P f
 Am {fr}:=tf P fr
 drew:=ey
 again {n}:=wk n
 over {n}:=Over n
 da:=cw
 aV:=cw
 iC:=cw
 An:=cw
 Ao:=cw
 Ap:=cw
 Aq:=Hp
 Ar:=cq
 As:=bV
 Au:=mg
 Av:=tq
 Aw:=rh
 Ax:=Hq
 Ay:=k0 P
 Az:=p2 P
 loadVar {t} x:=do loadVar t (<-asAddr x)
 alloc {t}:=Q6 t true (.tuple #[])
 box {t} x:=Instr.box t x
 build {t} l:=Instr.build t l.toArray
 buildSlice {t n} l:=Y5 t n l.toArray
 load {t} x:=u5 t x
 nil x:=bP x
 bin {op t} a b x y:=aO op t a b x y
 un {op} x:=Op.unary op x
 conv {s d} x:=convert s d x
 AA {t} x:=Instr.makeInterface t x
 AB {f} a b:=Instr.makeFunc f a.toArray b.toArray
 AC {t} x:=Instr.makeMap t x
 AD {t} l c:=Instr.makeSlice t l c
 slice {t} x l h m:=U5 t x l h m
 AE {t} x {f}:=u6 t x f
 field {t} x {f}:=Instr.field t x f
 AF {t} x i:=c9 t x i
 index {t} x i:=Instr.index t x i
 lookup {t} x i {ok}:=Instr.lookup t x i ok
 AG {t} m k:=Instr.mapEntry t m k
 range {t} x:=Instr.range t x
 entry x:=Instr.entry x
 assert {t a} x {ok}:=Instr.typeAssert x t a ok
 extract x {i}:=Y4 x i
 next x {b}:=Instr.next x b 0
 append {ats t} l:=Z5 ats t l.toArray
 cap {ats t} l:=Z6.cap_ ats t l.toArray
 clear {ats t} l:=Z6.clear_ ats t l.toArray
 copy {ats t} l:=Z6.copy_ ats t l.toArray
 delete {ats t} l:=Z6.delete_ ats t l.toArray
 len {ats t} l:=U1 ats t l.toArray
 max {ats t} l:=Z6.max_ ats t l.toArray
 min {ats t} l:=Z6.min_ ats t l.toArray
 store {t} a x:=l9 t a x
 wy {t} m k x:=Instr.mapUpdate t m k x
 AH {t} m k x:=Instr.entryStore t m k x
end Go.Vc
namespace Go.Proofs.YtikkpokkcdocoabGreatDoor
open Go Go.Vc Go.RowKit Go.Proofs Go.Proofs.Tryz
set_option maxRecDepth 100000
theorem mixed:x7.follows .mixedOrders=true:=Ψ
def AR:Nat:=3
def HM:Nat:=7
def HN:Nat:=8
def HO:Nat:=9
def HP:Nat:=10
def HQ:Nat:=15
def HR:Nat:=16
def AS:Nat:=17
def HS:Nat:=18
def HT:Nat:=19
def wH:Nat:=20
def HU:Nat:=21
def HV:Nat:=22
def HW:Nat:=23
def HX:Nat:=24
def HY:Nat:=25
def HZ:Nat:=26
def AT:Nat:=27
def AU:Nat:=28
def H0:Nat:=29
def H1:Nat:=30
def H2:Nat:=31
def H3:Nat:=32
def H4:Nat:=33
def H5:Nat:=34
def H6:Nat:=35
def H7:Nat:=40
def H8:Nat:=41
def AV:Nat:=43
def H9:Nat:=44
def Ia:Nat:=45
def Ib:Nat:=46
def AW:Nat:=47
def Ic:Nat:=48
def Ie:Nat:=49
def If:Nat:=50
def AX:Nat:=51
def wI:Nat:=53
def Ig:Nat:=54
def Ih:Nat:=55
def Ii:Nat:=56
def Ij:Nat:=57
def AY:Nat:=58
def Ik:Nat:=59
def Il:Nat:=60
def Im:Nat:=61
def In:Nat:=62
def Um:Nat:=63
def wJ:Nat:=64
def Io:Nat:=65
def Ip:Nat:=66
def Iq:Nat:=67
def Ir:Nat:=68
def Is:Nat:=69
def It:Nat:=70
def Iu:Nat:=71
def AZ:Nat:=72
def Iv:Nat:=73
def Iw:Nat:=74
def Ix:Nat:=75
def rq:Nat:=76
def Iy:Nat:=77
def Iz:Nat:=78
def IA:Nat:=79
def IB:Nat:=81
def cmp_isNaN_int:Nat:=82
def A0:Nat:=83
def IC:Nat:=84
def ID:Nat:=85
def IE:Nat:=86
def IF:Nat:=87
def IG:Nat:=88
def IH:Nat:=89
def II:Nat:=90
def IJ:Nat:=91
def IK:Nat:=92
def IL:Nat:=93
def IM:Nat:=94
def jW:Nat:=95
def IN:Nat:=96
def IP:Nat:=97
def IQ:Nat:=98
def m9:Nat:=99
def IR:Nat:=100
def IS:Nat:=101
def IT:Nat:=102
def IU:Nat:=103
def A1:Nat:=104
def A2:Nat:=105
def rr:Nat:=106
def oT:Nat:=107
def mm:Nat:=108
def A3:Nat:=109
def wK:Nat:=110
def oU:Nat:=111
def A4:Nat:=112
def wL:Nat:=113
def IV:Nat:=114
def IW:Nat:=115
def tI:Nat:=116
def na:Nat:=117
def A5:Nat:=118
def oV:Nat:=119
def IX:Nat:=120
def IY:Nat:=121
def IZ:Nat:=122
def I0:Nat:=123
def A6:Nat:=124
def I1:Nat:=125
def I2:Nat:=126
def A7:Nat:=127
def A8:Nat:=128
def I3:Nat:=129
def I4:Nat:=130
def I5:Nat:=131
def I6:Nat:=132
def wM:Nat:=133
def I7:Nat:=134
def I8:Nat:=135
def I9:Nat:=136
def Ja:Nat:=137
def Jb:Nat:=138
def Jc:Nat:=139
def Jd:Nat:=140
def Je:Nat:=141
def oW:Nat:=142
def oX:Nat:=143
def Jf:Nat:=144
def Jg:Nat:=145
def Jh:Nat:=146
def Ji:Nat:=147
def Jj:Nat:=148
def Jk:Nat:=149
def Jl:Nat:=150
def Jm:Nat:=151
def Jn:Nat:=152
def Jo:Nat:=153
def Jp:Nat:=154
def Un:Nat:=155
def Jq:Nat:=156
def Jr:Nat:=157
def Js:Nat:=158
def Ba:Nat:=159
def Jt:Nat:=160
def Ju:Nat:=161
def Uo:Nat:=162
def Jv:Nat:=172
def Jw:Nat:=173
def Jx:Nat:=174
def Jy:Nat:=175
def Jz:Nat:=176
def JA:Nat:=177
def JB:Nat:=178
def JC:Nat:=179
def JD:Nat:=180
def Bb:Nat:=181
def JE:Nat:=182
def JF:Nat:=183
def JG:Nat:=184
def JH:Nat:=185
def JI:Nat:=186
def p7:Nat:=187
def JJ:Nat:=188
def JK:Nat:=189
def tJ:Nat:=190
def JL:Nat:=191
def JM:Nat:=192
def Bc:Nat:=193
def Bd:Nat:=194
def Be:Nat:=195
def JN:Nat:=196
def rt:Nat:=197
def JO:Nat:=198
def wN:Nat:=199
def JP:Nat:=200
def JQ:Nat:=201
def Bf:Nat:=202
def JR:Nat:=203
def JS:Nat:=204
def JT:Nat:=205
def JU:Nat:=206
def JV:Nat:=207
def Bg:Nat:=208
def JW:Nat:=209
def JX:Nat:=210
def JY:Nat:=211
def JZ:Nat:=212
def Bh:Nat:=213
def J0:Nat:=214
def J1:Nat:=215
def J2:Nat:=216
def J3:Nat:=217
def Bi:Nat:=218
def J4:Nat:=219
def J5:Nat:=220
def J6:Nat:=221
def J7:Nat:=222
def J8:Nat:=223
def wO:Nat:=224
def J9:Nat:=225
def Ka:Nat:=226
def Kb:Nat:=232
def wP:Nat:=233
def tK:Nat:=234
def wQ:Nat:=235
def Kc:Nat:=236
def wR:Nat:=237
def Kd:Nat:=238
def Ke:Nat:=239
def wS:Nat:=240
def Kf:Nat:=241
def Kg:Nat:=242
def Bj:Nat:=243
def Bk:Nat:=244
def Kh:Nat:=245
def Ki:Nat:=246
def Kj:Nat:=247
def Kk:Nat:=248
def Kl:Nat:=249
def Km:Nat:=250
def Kn:Nat:=251
def Up:Nat:=252
def Bl:Nat:=254
def wT:Nat:=255
def tL:Nat:=256
def Ko:Nat:=257
def Kp:Nat:=258
def Bm:Nat:=259
def Kq:Nat:=260
def Kr:Nat:=261
def Ks:Nat:=262
def Kt:Nat:=263
def Ku:Nat:=264
def Kv:Nat:=265
def Kw:Nat:=266
def nb:Nat:=267
def oY:Nat:=268
def Bn:Nat:=269
def Kx:Nat:=271
def Uq:Nat:=272
def Ky:Nat:=273
def Ur:Nat:=274
def Kz:Nat:=275
def KA:Nat:=276
def qa:Nat:=277
def KB:Nat:=278
def KC:Nat:=279
def KD:Nat:=280
def KE:Nat:=289
def tM:Nat:=290
def KF:Nat:=291
def KG:Nat:=292
def KH:Nat:=293
def KI:Nat:=294
def nc:Nat:=295
def KJ:Nat:=296
def KK:Nat:=297
def KL:Nat:=298
def Us:Nat:=299
def Ut:Nat:=304
def KM:Nat:=305
def KN:Nat:=306
def KO:Nat:=308
def KP:Nat:=309
def KQ:Nat:=310
def Uu:Nat:=311
def KR:Nat:=312
def Uv:Nat:=313
def Uw:Nat:=314
def Ux:Nat:=315
def Uy:Nat:=316
def Uz:Nat:=317
def cmp_Less_int:Nat:=318
def UA:Nat:=319
def UB:Nat:=320
def UC:Nat:=330
def UD:Nat:=331
abbrev KS:Nat:=0
abbrev UE:Nat:=1
abbrev av:Nat:=2
abbrev aj:Nat:=3
abbrev jd:Nat:=4
abbrev cI:Nat:=5
abbrev cT:Nat:=9
abbrev cM:Nat:=22
abbrev oZ:Nat:=23
abbrev dm:Nat:=25
abbrev ao:Nat:=26
abbrev db:Nat:=27
abbrev k1:Nat:=28
abbrev dW:Nat:=29
abbrev eR:Nat:=30
abbrev aY:Nat:=33
abbrev dB:Nat:=36
abbrev k2:Nat:=37
abbrev jX:Nat:=40
abbrev dc:Nat:=43
abbrev jY:Nat:=44
abbrev az:Nat:=50
abbrev a1:Nat:=54
abbrev du:Nat:=56
abbrev c0:Nat:=61
abbrev nU:Nat:=83
abbrev ru:Nat:=84
abbrev fJ:Nat:=85
abbrev cN:Nat:=88
abbrev rv:Nat:=89
abbrev fK:Nat:=93
abbrev b5:Nat:=95
abbrev qb:Nat:=100
abbrev bD:Nat:=102
abbrev fk:Nat:=104
abbrev wU:Nat:=111
abbrev wV:Nat:=113
abbrev wW:Nat:=116
abbrev cV:Nat:=123
abbrev dS:Nat:=125
abbrev nV:Nat:=133
abbrev qc:Nat:=144
abbrev eS:Nat:=150
abbrev jA:Nat:=151
abbrev o0:Nat:=152
abbrev tN:Nat:=153
abbrev gx:Nat:=155
abbrev tO:Nat:=165
abbrev e6:Nat:=168
abbrev iE:Nat:=169
abbrev cA:Nat:=171
abbrev kv:Nat:=176
abbrev jZ:Nat:=177
abbrev ch:Nat:=179
abbrev dH:Nat:=185
abbrev cE:Nat:=187
abbrev eT:Nat:=188
abbrev cH:Nat:=190
abbrev fl:Nat:=192
abbrev dy:Nat:=196
abbrev bF:Nat:=198
abbrev eb:Nat:=200
abbrev cz:Nat:=202
abbrev ec:Nat:=206
abbrev bd:Nat:=208
abbrev mn:Nat:=213
abbrev gb:Nat:=215
abbrev e7:Nat:=216
abbrev iF:Nat:=220
abbrev UF:Nat:=237
abbrev rx:Nat:=239
abbrev UG:Nat:=250
abbrev qd:Nat:=258
abbrev je:Nat:=263
abbrev k3:Nat:=269
abbrev ei:Nat:=274
abbrev ci:Nat:=278
abbrev gA:Nat:=280
abbrev cW:Nat:=285
abbrev j0:Nat:=296
abbrev fL:Nat:=298
abbrev qe:Nat:=299
abbrev gB:Nat:=302
abbrev cX:Nat:=305
abbrev gO:Nat:=307
abbrev nd:Nat:=309
abbrev wX:Nat:=329
abbrev ih:Nat:=331
abbrev gd:Nat:=334
abbrev cF:Nat:=336
abbrev Bo:Nat:=345
abbrev mo:Nat:=358
abbrev k4:Nat:=360
abbrev ne:Nat:=380
abbrev nW:Nat:=397
abbrev tP:Nat:=414
theorem aA{f:Q4}{fn:Func}{c:Code}{Q:x1->x3->Prop}{Z:{B S aZ:Type}->nT B S aZ->(x1->x3->B)->B}{a:Prop}(af:x7.funcs[f]?=σ fn)(h:a)(p:fn.body=σ c:=by rfl)(_:∀{B S aZ:Type}(A:nT B S aZ)(Q:x1->x3->B),wG A false false (n:=w.heap.size) fn c args w Q=Z A Q:=by intros;conv=>lhs;reduce)(_:Z (p6 x7) Q=a:=by dsimp only[p6])(e:a=eD x7 fn.ntmps (false,w.heap.size) c (nR fn.results.toList) (mi 0 args) w (m4 x7 fn.results.toList false 0 Q):=by kernel_rfl)(hk:(!(fn.name == "runtime.NumGoroutine")&&wf fn.ntmps c&&Nat.ble args.length fn.ntmps&& !lG c)=true:=by kernel_rfl):an x7 f args w Q:=by
 simp only[V9,Bool.not_eq_true']at hk;exact an.HF mixed af p hk.1.1.1 hk.1.1.2 hk.1.2 hk.2 (e▸h)
theorem iG{f:Q4}{fn:Func}{c:Code}{Q:x1->x3->Prop}{Z:{B S aZ:Type}->nT B S aZ->(x1->x3->B)->B}{a:Prop}(af:x7.funcs[f]?=σ fn)(h:a)(p:fn.body=σ c:=by rfl)(_:∀{B S aZ:Type}(A:nT B S aZ)(Q:x1->x3->B),wG A false true (n:=w.heap.size) fn c args w Q=Z A Q:=by intros;conv=>lhs;reduce)(_:Z (p6 x7) Q=a:=by dsimp only[p6])(e:a=eD x7 fn.ntmps (false,w.heap.size) c (nR fn.results.toList) (mi 0 args) w (m4 x7 fn.results.toList true w.heap.size Q):=by kernel_rfl)(hk:(!(fn.name == "runtime.NumGoroutine")&&wf fn.ntmps c&&Nat.ble args.length fn.ntmps)=true:=by kernel_rfl):an x7 f args w Q:=by
 simp only[V9,Bool.not_eq_true']at hk;exact an.enter mixed af p hk.1.1 hk.1.2 hk.2 (e▸h)
theorem ry{f:Q4}{fn:Func}{c:Code}{Q:x1->x3->Prop}{Z:{B S aZ:Type}->nT B S aZ->(x1->x3->B)->B}{a:Prop}(af:x7.funcs[f]?=σ fn)(h:a)(p:fn.body=σ c:=by rfl)(_:∀{B S aZ:Type}(A:nT B S aZ)(Q:x1->x3->B),wG A true false (n:=0) fn c args w Q=Z A Q:=by intros;conv=>lhs;reduce)(_:Z (p6 x7) Q=a:=by dsimp only[p6])(e:a=eD x7 fn.ntmps (true,0) c (nR fn.results.toList) (mi 0 args) w (m4 x7 fn.results.toList false 0 Q):=by kernel_rfl)(hk:(!(fn.name == "runtime.NumGoroutine")&&wf fn.ntmps c&&Nat.ble args.length fn.ntmps)=true:=by kernel_rfl):gL x7 f args w Q:=by
 simp only[V9,Bool.not_eq_true']at hk;exact gL.enter mixed af p hk.1.1 hk.1.2 hk.2 (e▸h)
theorem jW.enters:Enters x7 jW:=Enters.of x7 (show x7.funcs[jW]?=σ Tryz.f95 from Tryz.func95) F Ψ
theorem m9.enters:Enters x7 m9:=Enters.of x7 (show x7.funcs[m9]?=σ Tryz.f99 from Tryz.func99) F Ψ
theorem nb.enters:Enters x7 nb:=Enters.of x7 (show x7.funcs[nb]?=σ Tryz.f267 from Tryz.func267) F Ψ
theorem qa.enters:Enters x7 qa:=Enters.of x7 (show x7.funcs[qa]?=σ Tryz.f277 from Tryz.func277) F Ψ
theorem nc.enters:Enters x7 nc:=Enters.of x7 (show x7.funcs[nc]?=σ Tryz.f295 from Tryz.func295) F Ψ
end Go.Proofs.YtikkpokkcdocoabGreatDoor
namespace Go.Vc
open Go Go.RowKit
theorem wY{b o:Nat}(h:w.cell? ⟨b,o,ν⟩=σ v):∃c e f,w.heap[b]?=σ (.cells c e f)/\c[o]?=σ v:=by
 simp only[x3.cell?]at h;split at h
 .rename_i c e f a;exact⟨c,e,f,a,by simpa using h⟩
 .cases h
theorem Bp(U:ai S w J){b o:Nat}(a:¬S b)(h:w.cell? ⟨b,o,ν⟩=σ v):J.cell? ⟨b,o,ν⟩=σ v:=by
 obtain⟨c,e,f,p,ae⟩:=wY h;simp[x3.cell?,U.a6 b _ p F a,ae]
theorem j1(U:Ext w J){b o:Nat}(h:w.cell? ⟨b,o,ν⟩=σ v):J.cell? ⟨b,o,ν⟩=σ v:=
 Bp (U.ac λ_=>False) (λh=>h) h
theorem o1(U:Ext w J){b o:Nat}(h:w.rangeAt b o cs):J.rangeAt b o cs:=λj v ae=>j1 U (h j v ae)
theorem kw(U:ai S w J){b o:Nat}(a:¬S b)(h:w.rangeAt b o cs):J.rangeAt b o cs:=λj v ae=>Bp U a (h j v ae)
def ah(w:x3)(g:Nat)(e:p8)(cs:List x1):Prop:=w.heap[g]?=σ (.cells cs.toArray e (0,0))
theorem ah.ext{g:Nat}(h:ah w g e cs)(U:Ext w J):ah J g e cs:=U.a6 g _ h F
theorem ah.ac{g:Nat}(h:ah w g e cs)(U:ai S w J)(a:¬S g):ah J g e cs:=U.a6 g _ h F a
theorem ah.lt{g:Nat}(h:ah w g e cs):g<w.heap.size:=(j9.1 h).1
theorem ah.cell{g:Nat}(h:ah w g e cs){o:Nat}(ae:cs[o]?=σ v):w.cell? ⟨g,o,ν⟩=σ v:=by
 unfold ah at h;simp[x3.cell?,h,ae]
theorem ah.Qz{w:World}{g:Nat}{e:TypeId}{cs:List Value}{v:Value}(h:ah w g e cs)(I:cs[0]?=σ v):w.cell? ⟨g,0,ν⟩=σ v:=h.cell I
theorem ah.range{g:Nat}(h:ah w g e cs):w.rangeAt g 0 cs:=λj v ae=>by rw[W0];exact h.cell ae
theorem ah.frozen{g:Nat}(h:ah w g e cs)(o:Nat)(a:Option Nat):w.frozen? ⟨g,o,a⟩=false:=by
 unfold ah at h;simp[x3.frozen?,h]
def cf(w:x3)(k:Nat)(v:x1)(n:Nat)(cs:List x1):Prop:=
 cs.length=n*k/\∃b o base cap,v= .slice base n cap/\n<=cap/\cap<=maxLen/\(0<n->base=σ ⟨b,o,ν⟩)/\w.rangeAt b o cs
theorem cf.ext{k:Nat}(h:cf w k v n cs)(U:Ext w J):cf J k v n cs:=by
 obtain⟨h1,b,o,base,cap,a,e,f,p,q⟩:=h;exact⟨h1,b,o,base,cap,a,e,f,p,o1 U q⟩
theorem cf.le{k:Nat}(h:cf w k v n cs):n<=maxLen:=by
 obtain⟨_,_,_,_,_,_,a,e,_⟩:=h;exact X3 a e
theorem cf.nil(w:x3)(k:Nat):cf w k (.slice ν 0 0) 0 []:=⟨Ξ,0,0,ν,0,F,o4 _,X8 _,λh=>absurd h (Nat.lt_irrefl _),λj v h=>by simp at h⟩
def aS(P:W9)(t:p8)(k b:Nat)(z:x1):Prop:=∃i,P.info? t=σ i/\i.size=k/\i.bytes=b/\i.zero=σ z
theorem aS.of{P:W9}{k b:Nat}(h:(P.info? t).map (λi=>(i.size,i.bytes,i.zero))=σ (k,b,σ z)):aS P t k b z:=by
 cases hi:P.info? t with
 |none=>simp[hi]at h
 |some i=>simp[hi]at h;exact⟨i,hi,h⟩
theorem aS.size{P:W9}{k b:Nat}(h:aS P t k b z):(P.info? t).map (·.size)=σ k:=by
 obtain⟨i,hi,V,_⟩:=h;simp[hi,V]
def bK(P:W9)(t:p8)(e:List (Nat×Nat)):Prop:=∃a,P.underlying t=σ (.struct a)/\a.toList.map (λf=>(f.offset,((P.info? f.type).map (·.size)).getD 0))=e
def Bq(P:W9)(t:p8):Option (List (Nat×Nat)):=match P.underlying t with
 |some (.struct a)=>σ (a.toList.map λf=>(f.offset,((P.info? f.type).map (·.size)).getD 0))
 |_=>ν
theorem bK.of{P:W9}{a:List (Nat×Nat)}(h:Bq P t=σ a):bK P t a:=by
 unfold Bq at h;split at h
 .rename_i e hu;exact⟨e,hu,by simpa using h⟩
 .cases h
section
variable{P:W9}{w:x3}
theorem ad.of{s:Sem x1}(h:∀J,Ext w J->s.run P J= .ok v J):ad P s w K=K v:=by
 refine propext ⟨λ⟨a,a7,k⟩=>?_,λk=>⟨v,h,k⟩⟩;have:=a7 w (Ext.refl w);rw[h w (Ext.refl w)]at this;cases this;exact k
theorem aF.of{α:Type}{s:Sem α}{v:α}{K:α->x3->Prop}(h:s.run P w= .ok v J)(a:cL w J)(k:K v J):aF P s w K:=⟨v,J,h,a,k⟩
theorem cd{c:Bool}{A B:Prop}:Split (.bool c) A B=((c=true->A)/\(c=false->B)):=by
 refine propext ⟨λ⟨e,h,h1,a⟩=>?_,λ⟨h1,a⟩=>⟨c,F,h1,a⟩⟩;cases h;exact⟨h1,a⟩
theorem am{p:Prop}[Decidable p]{A B:Prop}:Split (.bool (decide p)) A B=((p->A)/\(¬p->B)):=by rw[cd];simp
theorem bX{A B:Prop}:Split (.bool true) A B=A:=by rw[cd];simp
theorem a8{A B:Prop}:Split (.bool false) A B=B:=by rw[cd];simp
theorem aM{b:Int}:ad P (aO .add t cx cy (.int k a) (.int k b)) w K=K (.int k (k.wrap (a+b))):=
 ad.of λJ _=>by simp[aO,eqGuard,binOp,Op.intArith]
theorem dI{b:Int}:ad P (aO .sub t cx cy (.int k a) (.int k b)) w K=K (.int k (k.wrap (a-b))):=
 ad.of λJ _=>by simp[aO,eqGuard,binOp,Op.intArith]
theorem jf{b:Int}:ad P (aO .mul t cx cy (.int k a) (.int k b)) w K=K (.int k (k.wrap (a*b))):=
 ad.of λJ _=>by simp[aO,eqGuard,binOp,Op.intArith]
theorem tQ{b:Int}(e:b≠0):ad P (aO .quo t cx cy (.int k a) (.int k b)) w K=K (.int k (k.wrap (a.tdiv b))):=
 ad.of λJ _=>by simp[aO,eqGuard,binOp,Op.intDiv,e]
theorem tR{b:Int}(e:b≠0):ad P (aO .rem t cx cy (.int k a) (.int k b)) w K=K (.int k (a.tmod b)):=
 ad.of λJ _=>by simp[aO,eqGuard,binOp,Op.intDiv,e]
theorem aP{b:Int}:ad P (aO .lss t cx cy (.int k a) (.int k b)) w K=K (.bool (decide (a<b))):=
 ad.of λJ _=>by simp[aO,eqGuard,binOp,Op.intCmp]
theorem Υ{k:IntKind}{P:Program}{t:TypeId}{cx cy:Bool}{a b:Int}{w:World}{A B:Prop}(hA:a<b->A)(h:a<b:=by omega):ad P (aO .lss t cx cy (.int k a) (.int k b)) w λv=>Split v A B:=by
 rw[aP,am];exact⟨hA,λe=>absurd h e⟩
theorem nf{b:Int}:ad P (aO .leq t cx cy (.int k a) (.int k b)) w K=K (.bool (decide (a<=b))):=
 ad.of λJ _=>by simp[aO,eqGuard,binOp,Op.intCmp]
theorem bL{b:Int}:ad P (aO .gtr t cx cy (.int k a) (.int k b)) w K=K (.bool (decide (b<a))):=
 ad.of λJ _=>by simp[aO,eqGuard,binOp,Op.intCmp]
theorem cO{b:Int}:ad P (aO .geq t cx cy (.int k a) (.int k b)) w K=K (.bool (decide (b<=a))):=
 ad.of λJ _=>by simp[aO,eqGuard,binOp,Op.intCmp]
theorem bf{b:Int}:ad P (aO .eql t cx cy (.int k a) (.int k b)) w K=K (.bool (decide (a=b))):=
 ad.of λJ _=>by
  have:(a == b)=decide (a=b):=by by_cases h:a=b<;>simp[h]
  simp[aO,eqGuard,binOp,Op.intCmp,this]
theorem bA{b:Int}:ad P (aO .neq t cx cy (.int k a) (.int k b)) w K=K (.bool (decide (a≠b))):=
 ad.of λJ _=>by
  have:(a != b)=decide (a≠b):=by by_cases h:a=b<;>simp[h,bne]
  simp[aO,eqGuard,binOp,Op.intCmp,this]
theorem Br{e:n9}{b:Int}(f:0<=b):ad P (aO .shl t cx cy (.int k a) (.int e b)) w K=K (.int k (k.wrap (a*2 ^ min b.toNat k.bits))):=
 ad.of λJ _=>by simp[aO,eqGuard,binOp,Op.shift,show¬b<0 by omega]
theorem bM{c:Bool}:ad P (Op.unary .not (.bool c)) w K=K (.bool !c):=ad.of λJ _=>by simp[Op.unary]
theorem ng:ad P (Op.unary .neg (.int k a)) w K=K (.int k (k.wrap (0-a))):=ad.of λJ _=>by simp[Op.unary,Op.intArith]
theorem fm{s d:p8}{e:n9}(V:P.underlying s=σ (.int e))(f:P.underlying d=σ (.int k)):
  ad P (convert s d (.int e a)) w K=K (.int k (k.wrap a)):=ad.of λJ _=>by simp[convert,run_underlying V,run_underlying f,Conv.intToInt]
theorem Bs{x y:x1}{r:Bool}(a:∀J,(eqGuard .eql t (bb cx) (bb cy) x y).run P J= .ok () J)(e:binOp .eql t x y=(do pure (.bool (<-Op.equal t x y))))(h:∀J,Ext w J->(Op.equal t x y).run P J= .ok r J):ad P (aO .eql t cx cy x y) w K=K (.bool r):=ad.of λJ U=>by
 unfold aO;rw[e,W7,a J,Q0.andThen_ok,W7,h J U];rfl
theorem Bt{x y:x1}{r:Bool}(a:∀J,(eqGuard .neq t (bb cx) (bb cy) x y).run P J= .ok () J)(e:binOp .neq t x y=(do pure (.bool (!(<-Op.equal t x y)))))(h:∀J,Ext w J->(Op.equal t x y).run P J= .ok r J):ad P (aO .neq t cx cy x y) w K=K (.bool !r):=ad.of λJ U=>by
 unfold aO;rw[e,W7,a J,Q0.andThen_ok,W7,h J U];rfl
theorem Bu(w:x3)(d:Nat){p:Option Addr}(h:P.underlying t=σ (.pointer e)):(Op.equalIn (d+1) t (.pointer p) (.pointer ν)).run P w= .ok p.isNone w:=by
 cases p<;>simp[Op.equalIn,run_underlying h]
theorem nX{base:Option Addr}(a:P.underlying t=σ (.slice e)):
  ad P (aO .eql t cx cy (.slice base n c) (.slice ν 0 0)) w K=K (.bool base.isNone):=Bs (λ_=>rfl) F λJ _=>run_equal_slice_nil J t e base n c a
theorem dh{p:Option Addr}(a:P.underlying t=σ (.pointer e)):
  ad P (aO .eql t cx cy (.pointer p) (.pointer ν)) w K=K (.bool p.isNone):=Bs (λ_=>rfl) F λJ _=>Bu J 9999 a
theorem Bv{p:Option Addr}(a:P.underlying t=σ (.pointer e)):
  ad P (aO .neq t cx cy (.pointer p) (.pointer ν)) w K=K (.bool !p.isNone):=Bt (λ_=>rfl) F λJ _=>Bu J 9999 a
theorem ii{a:p8}{base:Option Addr}(f:P.underlying t=σ (.slice e)):
  ad P (U1 #[t] a #[.slice base n c]) w K=K (Δ n):=ad.of λJ _=>by simp[U1,run_underlying f,goInt]
theorem nh{e:Array p8}{f:p8}{b:Int}:
  ad P (Z6.min_ e f #[.int k a,.int k b]) w K=K (.int k (min a b)):=ad.of λJ _=>by
 simp only[Z6.min_,List.foldlM,Z6.min2];simp only[W7,U2,Q0.andThen_ok,Int.min_def];congr 2;split<;>split<;>omega
theorem wZ{e:Array p8}{f:p8}{b:Int}:
  ad P (Z6.max_ e f #[.int k a,.int k b]) w K=K (.int k (max a b)):=ad.of λJ _=>by
 simp only[Z6.max_,List.foldlM,Z6.max2];simp only[W7,U2,Q0.andThen_ok,Int.max_def];congr 2;split<;>split<;>omega
theorem j2{vs:Array x1}{i:Nat}(h:vs[i]?=σ v):ad P (Y4 (.tuple vs) i) w K=K v:=ad.of λJ _=>by simp[Y4,h]
theorem jB{f:Fn}{a b:Array x1}:ad P (Instr.makeFunc f a b) w K=K (.func f a b):=ad.of λ_ _=>rfl
def k5(P:W9)(t:p8):Bool:=match P.underlying t with
 |some (.struct _)|some (.array _ _)|none=>false
 |_=>true
theorem ax{b o:Nat}(a:k5 P t=true)(h:w.cell? ⟨b,o,ν⟩=σ v):
  ad P (u5 t (.pointer (σ ⟨b,o,ν⟩))) w K=K v:=ad.of λJ U=>by
 have a7:=j1 U h;unfold k5 at a;cases hu:P.underlying t with
 |none=>rw[hu]at a;cases a
 |some d=>
  rw[hu]at a;cases d<;>first|(cases a;done)|simp[u5,Instr.sureAddr,loadVar,isAgg,run_underlying hu,a7]
theorem Bw{d:TypeDesc}{b o k a:Nat}(hu:P.underlying t=σ d)(e:d.isRow=true)(hi:aS P t k a z)(f:cs.length=k)(h:w.rangeAt b o cs):ad P (u5 t (.pointer (σ ⟨b,o,ν⟩))) w K=K (.agg cs.toArray):=ad.of λJ U=>
 run_loadAt_mid J b o t cs d (o1 U h) hu e (by rw[hi.size,f])
theorem bN{a:List (Nat×Nat)}{b o k e:Nat}(hu:bK P t a)(hi:aS P t k e z)(f:cs.length=k)(h:w.rangeAt b o cs):ad P (u5 t (.pointer (σ ⟨b,o,ν⟩))) w K=K (.agg cs.toArray):=by
 obtain⟨p,hu,_⟩:=hu;exact Bw hu F hi f h
theorem aW{h:List (Nat×Nat)}{i b o p z:Nat}(r:bK P t h)(af:h[i]?=σ (p,z+1)):
  ad P (u6 t (.pointer (σ ⟨b,o,ν⟩)) i) w K=K (.pointer (σ ⟨b,o+p,ν⟩)):=ad.of λJ _=>by
 obtain⟨s,hu,rfl⟩:=r;rw[x8]at af;cases a:s[i]? with
 |none=>rw[R6,a]at af;cases af
 |some f=>
  rw[R6,a]at af;simp only[Y1,Y7,T6]at af;obtain⟨rfl,q⟩:=af;cases e:P.info? f.type with
  |none=>simp[e]at q
  |some j=>
   have V:j.size=z+1:=by simpa[e]using q
   simp[u6,run_underlying hu,a,Instr.sureAddr,fieldPlace,sizeOf,typeInfo,e,V,T4]
theorem Bx{i:Int}{b o z f:Nat}{h:x1}{base:Option Addr}(hu:P.underlying t=σ (.slice e))(p:aS P e z f h)(q:0<=i)(hi:i<n)(a:0<n->base=σ ⟨b,o,ν⟩):
  ad P (c9 t (.slice base n c) (.int k i)) w K=K (.pointer (σ ⟨b,o+i.toNat*z,ν⟩)):=ad.of λJ _=>by
 have a:=a Ω;subst a;obtain⟨j,r,V,_⟩:=p;simp[c9,asIntOf,run_underlying hu,q,hi,sizeOf,typeInfo,r,V,T4]
theorem fe{i:Nat}{b o z a:Nat}{base:Option Addr}(hu:P.underlying t=σ (.slice e))(h:aS P e z a f)(hi:i<n)(p:0<n->base=σ ⟨b,o,ν⟩):
  ad P (c9 t (.slice base n c) (.int k (i:Int))) w K=K (.pointer (σ ⟨b,o+i*z,ν⟩)):=by
 rw[Bx hu h Ω Ω p];rfl
theorem KT{i:Int}{b o z a:Nat}(hu:P.underlying t=σ (.array n e))(h:aS P e z a f)(p:0<=i)(hi:i<n):
  ad P (c9 t (.pointer (σ ⟨b,o,ν⟩)) (.int k i)) w K=K (.pointer (σ ⟨b,o+i.toNat*z,ν⟩)):=ad.of λJ _=>by
 obtain⟨j,q,V,_⟩:=h;simp[c9,asIntOf,run_underlying hu,Instr.sureAddr,p,hi,sizeOf,typeInfo,q,V,T4]
theorem tS{i:Nat}{b o z a:Nat}(hu:P.underlying t=σ (.array n e))(h:aS P e z a f)(hi:i<n):
  ad P (c9 t (.pointer (σ ⟨b,o,ν⟩)) (.int k (i:Int))) w K=K (.pointer (σ ⟨b,o+i*z,ν⟩)):=by
 rw[KT hu h Ω Ω];rfl
def ni:Option x1->Nat->Prop
 |none,l=>l=0
 |some v,l=>∃k,v= .int k l
def nj:Option x1->Nat->Nat->Prop
 |none,n,h=>h=n
 |some v,_,h=>∃k,v= .int k h
def maxOf:Option x1->Option x1->Nat->Nat->Prop
 |none,_,c,m=>m=c
 |some v,σ _,_,m=>∃k,v= .int k m
 |some _,ν,_,_=>False
theorem qf{l:Nat}:ni (σ (.int k (l:Int))) l:=⟨_,F⟩
theorem o2(l:Nat)(x:Int)(h:x=(l:Int)):ni (σ (.int k x)) l:=⟨k,by rw[h]⟩
theorem o3(l:Nat)(x:Int)(h:x=(l:Int)):nj (σ (.int k x)) n l:=⟨k,by rw[h]⟩
theorem kx:ni ν 0:=rfl
theorem qg:nj (σ (.int k (h:Int))) n h:=⟨_,F⟩
theorem ky:nj ν n n:=rfl
theorem ff{h:Option x1}:maxOf ν h c c:=by cases h<;>rfl
theorem tT(w:x3){sl:Bool}{l m:Nat}{low high mx:Option x1}(h1:ni low l)(e:nj high n h)(a:maxOf mx high c m)(f:l<=h)(aC:h<=m)(hm:m<=c):
  (Instr.sliceBounds sl n c low high mx).run P w= .ok (l,h,m) w:=by
 cases low<;>cases high<;>cases mx<;>simp only[ni,nj,maxOf]at h1 e a<;>(try exact a.elim)<;>(try obtain⟨p,rfl⟩:=h1)<;>(try obtain⟨q,rfl⟩:=e)<;>(try obtain⟨r,rfl⟩:=a)<;>(try subst h1)<;>(try subst e)<;>(try subst a) <;>
  simp[Instr.sliceBounds,Instr.sliceBound,asIntOf,f,aC,hm]
theorem ij{z a l m:Nat}{base:Option Addr}{low high mx:Option x1}(hu:P.underlying t=σ (.slice e))(p:aS P e z a f)(h1:ni low l)(q:nj high n h)(r:maxOf mx high c m)(s:l<=h)(aC:h<=m)(hm:m<=c):
  ad P (U5 t (.slice base n c) low high mx) w K=K (.slice (if m=l then base else base.map (·.add (l*z))) (h-l) (m-l)):=ad.of λJ _=>by
 obtain⟨j,x,V,_⟩:=p;simp[U5,Instr.slice,run_underlying hu,tT J h1 q r s aC hm,sizeOf,typeInfo,x,V]
theorem tU{z a l m b o:Nat}{low high mx:Option x1}(hu:P.underlying t=σ (.array n e))(p:aS P e z a f)(h1:ni low l)(q:nj high n h)(r:maxOf mx high n m)(s:l<=h)(aC:h<=m)(hm:m<=n):
  ad P (U5 t (.pointer (σ ⟨b,o,ν⟩)) low high mx) w K=K (.slice (σ (if m=l then⟨b,o,ν⟩else⟨b,o+l*z,ν⟩)) (h-l) (m-l)):=ad.of λJ _=>by
 obtain⟨j,x,V,_⟩:=p;simp[U5,Instr.sureAddr,run_underlying hu,tT J h1 q r s aC hm,sizeOf,typeInfo,x,V,T4]
theorem cJ{parts:Array (Nat×x1)}{cs:Array x1}(h:P.built t parts.toList=σ cs):ad P (Instr.build t parts) w K=K (.agg cs):=ad.of λJ _=>
 run_build J t parts cs h
end
theorem cf.part{k l m:Nat}{base:Option Addr}(V:cf w k (.slice base n c) n cs)(p:l<=h)(aC:h<=n)(hm:h<=m)(q:m<=c):
  cf w k (.slice (if m=l then base else base.map (·.add (l*k))) (h-l) (m-l)) (h-l) ((cs.drop (l*k)).take ((h-l)*k)):=by
 obtain⟨h1,b,o,r,cap,he,s,x,a,e⟩:=V;cases he;have y:h*k<=n*k:=V1 _ aC;have z:l*k+(h-l)*k=h*k:=by rw[<-U8];congr 1;omega
 refine⟨by simp[h1];omega,b,o+l*k,_,m-l,F,Ω,Ω,λA=>?_,λj v ae=>?_⟩
 .rw[a Ω,if_neg Ω];simp[T4]
 .have f:=(x4.1 ae).1;simp at f;rw[Y2 Ω,List.getElem?_drop]at ae;rw[Q1];exact e _ _ ae
section
variable{P:W9}{w:x3}
structure kz(g:Nat)(w J:x3):Prop where
 os:J.os=w.os
 tape:kW w J
 output:J.output=w.output
 size:J.heap.size=w.heap.size
 a6:∀r,r≠g->J.heap[r]?=w.heap[r]?
theorem kz.refl(g:Nat)(w:x3):kz g w w:=⟨F,.lD,F,F,λ_ _=>rfl⟩
theorem kz.trans{g:Nat}{a b c:x3}(h:kz g a b)(k:kz g b c):kz g a c:=
 ⟨k.os.trans h.os,k.tape.trans h.tape,k.output.trans h.output,k.size.trans h.size,λr e=>(k.a6 r e).trans (h.a6 r e)⟩
theorem kz.ac{g:Nat}{w:x3}(h:kz g w J):ai (λr=>r=g) w J:=⟨Nat.le_of_eq h.size.symm,λr o a _ e=>by rw[h.a6 r e];exact a⟩
theorem kz.cv{g:Nat}{w:x3}(h:kz g w J)(f:ah w g e cs):cL w J:=
 ⟨h.os,h.tape,h.output,Nat.le_of_eq h.size.symm,λr o a V=>by
  by_cases p:r=g
  .subst p;unfold ah at f;rw[f]at a;cases a;simp[fF]at V
  .rw[h.a6 r p];exact a⟩
theorem By{g:Nat}(h:ah w g e cs)(o:Nat)(v:x1):ah (w.setCell ⟨g,o,ν⟩ v) g e (cs.set o v)/\kz g w (w.setCell ⟨g,o,ν⟩ v):=by
 unfold ah at h;refine⟨?_,F,.lD,F,by simp[x3.setCell],λr a=>?_⟩
 .simp[ah,x3.setCell,Array.getElem?_modify,h]
 .simp[x3.setCell,Array.getElem?_modify,Ne.symm a]
def over(cs:List x1):Nat->List x1->List x1
 |_,[]=>cs
 |o,v::r=>over (cs.set o v) (o+1) r
theorem mp:∀(vs cs:List x1)(o:Nat),(over cs o vs).length=cs.length
 |[],_,_=>rfl
 |v::r,cs,o=>by simp[over,mp r]
theorem nY:∀(vs cs:List x1)(o:Nat),o+vs.length<=cs.length->∀j,(over cs o vs)[j]?=if o<=j/\j<o+vs.length then vs[j-o]? else cs[j]?
 |[],cs,o,_,j=>by simp[over];intro h1 a;omega
 |v::r,cs,o,h,j=>by
  simp only[b9]at h;rw[over,nY r (cs.set o v) (o+1) Θ j];simp only[b9];by_cases h1:o+1<=j/\j<o+1+r.length
  .rw[if_pos h1,if_pos Ω];rw[show j-o=(j-(o+1))+1 by omega,List.getElem?_cons_succ]
  .rw[if_neg h1];by_cases a:j=o
   .subst a;rw[if_pos Ω,b8 Ω];simp
   .rw[if_neg Ω,Y6 (Ne.symm a)]
theorem nZ{o:Nat}(h:o+vs.length<=cs.length):over cs o vs=cs.take o++vs++cs.drop (o+vs.length):=by
 apply Y9;intro j;rw[nY vs cs o h];by_cases h1:j<o
 .rw[if_neg Ω,X0 Θ,X0 Θ,Y2 h1]
 .by_cases a:j<o+vs.length
  .rw[if_pos Ω,X0 Θ,X1 Θ];congr 1;simp;omega
  .rw[if_neg Ω,X1 Θ,List.getElem?_drop];congr 1;simp;omega
theorem o5{g:Nat}{e:p8}:∀(vs:List x1)(cs:List x1)(o:Nat)(w:x3),ah w g e cs->ah (w.setCells g o vs) g e (over cs o vs)/\kz g w (w.setCells g o vs)
 |[],cs,o,w,h=>⟨h,kz.refl _ _⟩
 |v::r,cs,o,w,h=>by
  obtain⟨h1,a⟩:=By h o v;obtain⟨f,p⟩:=o5 r (cs.set o v) (o+1) _ h1;exact⟨f,a.trans p⟩
theorem tV(w:x3)(c:List x1)(e:p8):ah (w.alloc (.cells c.toArray e)) w.heap.size e c/\Ext w (w.alloc (.cells c.toArray e))/\cL w (w.alloc (.cells c.toArray e)):=
 ⟨heap_alloc_new w _,ra w _,rb w _⟩
theorem bu{k a:Nat}{K:x1->x3->Prop}(hi:aS P t k a z)(h:∀g J,g=w.heap.size->Ext w J->ah J g t z.cells.toList->K (Γ g) J):aF P (Q6 t true (.tuple #[])) w K:=by
 obtain⟨i,hi,_,_,e⟩:=hi;obtain⟨h1,f,p⟩:=tV w z.cells.toList t;refine .of ?_ p (h _ _ F f h1);simp[Q6,zeroValue,typeInfo,hi,e,newVar,newRow]
theorem bh{K:x1->x3->Prop}(h:∀g J,g=w.heap.size->Ext w J->ah J g t v.cells.toList->K (Γ g) J):aF P (Instr.box t v) w K:=by
 obtain⟨h1,a,e⟩:=tV w v.cells.toList t;refine .of ?_ e (h _ _ F a h1);simp[Instr.box,newVar,newRow]
def dT(z:Array x1)(n:Nat):List x1:=((Array.range n).map (z[·% z.size]!)).toList
theorem o6(z:Array x1)(n:Nat):(dT z n).length=n:=by simp[dT]
theorem lK{k p:Nat}{parts:Array (Nat×x1)}{cs:Array x1}{K:x1->x3->Prop}(f:P.underlying t=σ (.slice e))(hi:aS P e k p z)(y:n*k<=2 ^ 24)(af:Instr.fill (λj=>σ (j*k,k)) ((Array.range (n*k)).map ((if n*k=0 then#[]else z.cells)[·% (if n*k=0 then#[]else z.cells).size]!)) parts.toList=σ cs)(h:∀g J,g=w.heap.size->Ext w J->ah J g e cs.toList->K (.slice (σ ⟨g,0,ν⟩) n n) J):aF P (Y5 t n parts) w K:=by
 obtain⟨i,hi,rfl,_,q⟩:=hi;obtain⟨h1,r,s⟩:=tV w cs.toList e;refine .of ?_ s (h _ _ F r h1);have x:¬(16777216<n*i.size):=Ω
 by_cases a:n*i.size=0
 .simp only[a,if_true]at af;simp[Y5,run_underlying f,sizeOf,typeInfo,hi,a,newRow];simp at af;simp[af]
 .simp only[a,if_false]at af;simp[Y5,run_underlying f,sizeOf,typeInfo,hi,x,a,newRow,zeroValue,q,af]
theorem bp{p g o:Nat}{K:Unit->x3->Prop}(hi:aS P t 1 p z)(h1:v.cells= #[v])(ae:v.oneCell'=true)(a:ah w g e cs)(q:o<cs.length)(h:∀J,ai (λr=>r=g) w J->J.heap.size=w.heap.size->ah J g e (cs.set o v)->K () J):aF P (l9 t (.pointer (σ ⟨g,o,ν⟩)) v) w K:=by
 obtain⟨i,hi,V,_⟩:=hi;obtain⟨s,f⟩:=By a o v;refine .of ?_ (f.cv a) (h _ f.ac f.size s);have x:=a.cell (x6 q);have y:(⟨g,o,ν⟩:Addr).add 0=⟨g,o,ν⟩:=rfl;simp[l9,Instr.sureAddr,storeVar,sizeOf,typeInfo,hi,V,h1,storeCells,y,run_store P w _ v _ ae,x,a.frozen]
theorem w1{k p g o:Nat}{K:Unit->x3->Prop}(hi:aS P t k p z)(q:vs.length=k)(ae:∀v∈vs,v.oneCell'=true)(a:ah w g e cs)(y:o+vs.length<=cs.length)(h:∀J,ai (λr=>r=g) w J->J.heap.size=w.heap.size->ah J g e (over cs o vs)->K () J):aF P (l9 t (.pointer (σ ⟨g,o,ν⟩)) (.agg vs.toArray)) w K:=by
 obtain⟨s,f⟩:=o5 vs cs o w a;refine .of ?_ (f.cv a) (h _ f.ac f.size s);exact run_storeAt_mid w g o t vs.toArray (λj x=>⟨by rw[a.cell (x6 (show o+j<cs.length by simp at x;omega))];rfl,a.frozen _ _⟩) (by rw[hi.size];simp[q]) (by simpa using ae)
def b1(w:x3)(g:Nat)(e:p8)(k:Nat)(v:x1)(n:Nat)(xs:List x1):Prop:=
 xs.length=n*k/\((v= .slice ν 0 0/\n=0)\/∃cap cs,v= .slice (σ ⟨g,0,ν⟩) n cap/\ah w g e cs/\n<=cap/\cap<=maxLen/\cs.length=cap*k/\cs.take (n*k)=xs)
theorem b1.nil(w:x3)(g:Nat)(e:p8)(k:Nat):b1 w g e k (.slice ν 0 0) 0 []:=⟨Ξ,.inl ⟨F,F⟩⟩
theorem b1.full{g:Nat}{k:Nat}(h:ah w g e cs)(a:cs.length=n*k)(f:n<=maxLen):b1 w g e k (.slice (σ ⟨g,0,ν⟩) n n) n cs:=
 ⟨a,.inr ⟨n,cs,F,h,o4 _,f,a,by rw[<-a,o9]⟩⟩
theorem b1.ac{g:Nat}{k:Nat}(h:b1 w g e k v n xs)(U:ai S w J)(f:g<w.heap.size->¬S g):b1 J g e k v n xs:=
 ⟨h.1,h.2.imp id λ⟨cap,cs,h1,a,p⟩=>⟨cap,cs,h1,a.ac U (f a.lt),p⟩⟩
theorem b1.ext{g:Nat}{k:Nat}(h:b1 w g e k v n xs)(U:Ext w J):b1 J g e k v n xs:=h.ac (U.ac λ_=>False) (λ_ h=>h)
theorem b1.sl{g:Nat}{k:Nat}(h:b1 w g e k v n xs):cf w k v n xs:=by
 obtain⟨h1,⟨rfl,rfl⟩|⟨cap,cs,rfl,a,f,p,r,q⟩⟩:=h
 .have:xs=[]:=b6 (by simpa using h1);subst this;exact cf.nil w k
 .refine⟨h1,g,0,_,cap,F,f,p,λ_=>rfl,λj v ae=>?_⟩;rw[W0];have s:=(x4.1 ae).1;rw[<-q,Y2 Ω]at ae;exact a.cell ae
theorem cf.src{k:Nat}{x:x1}{m:Nat}{a:List x1}{f h:p8}(V:cf w k x m a)(hk:P.underlying f=σ (.slice h))(h1:∀u∈a,u.oneCell'=true)(p:0<m):Src P k f x m a w:=by
 obtain⟨q,b,o,base,cap,rfl,_,_,e,r⟩:=V;have e:=e p;subst e;exact Src.ofSlice w hk ⟨b,o,ν⟩ m cap a q (λj u hu=>by rw[T4];exact r j u hu) h1
theorem cf.KU{k:Nat}{x:x1}{f:List x1}{h:p8}(V:cf w k x 0 f)(hk:P.underlying e=σ (.slice h)):Src P k e x 0 [] w:=by
 obtain⟨p,b,o,base,cap,rfl,_,_,q,r⟩:=V;cases base with
 |none=>exact Src.ofNil w hk cap
 |some a=>exact Src.ofSlice w hk a 0 cap [] Ξ Ξ Ξ
theorem Bz{p s M X:p8}{k g m:Nat}{x:x1}{f:List x1}{K:x1->x3->Prop}(B:P.underlying t=σ (.slice e))(C:P.underlying p=σ (.slice X))(hi:aS P e k N z)(Y:z.cells.size=k)(O:b1 w g M k v n xs)(V:cf w k x m f)(h1:∀u∈f,u.oneCell'=true)(Z:(n+m)*N<=140737488355328)(Q:n+m<=maxLen)(h:∀E F J G,(F=g/\G=M/\(v=E\/g<w.heap.size/\v≠ .slice ν 0 0)\/F=w.heap.size/\G=e)->b1 J F G k E (n+m) (xs++f)->ai (λr=>r=g/\v≠ .slice ν 0 0) w J->K E J):
  aF P (Z5 #[t,p] s #[v,x]) w K:=by
 obtain⟨i,hi,rfl,rfl,aa⟩:=hi;have ab:=O.sl;obtain⟨a,H⟩:=O;have q:=V.1;have grow:∀(base:Option Addr)(cap:Nat),v= .slice base n cap->cap<n+m->0<m->(Z6.firstCells i.size n (.slice base n cap)).run P w.drew= .ok xs.toArray w.drew->aF P (Z5 #[t,p] s #[v,x]) w K:=by
  rintro base cap rfl R hm ad;have y:=run_append_grow_src w t p s e i z B hi aa base n cap xs ad x m f (V.src C h1 hm) R (by simp only[maxLen]at Q;omega) (growslice_fits R Z);have ae:n+m<=grownCap w (n+m) cap e:=grownCap_ge w _ _ _;have I:=grownCap_le_maxLen w (n+m) cap e Q;have af:Ext w (w.drew.alloc (.cells ((xs++f).toArray++Z6.zeroCells z.cells (grownCap w (n+m) cap e-(n+m))) e)):=(tb w _).trans (ra _ _);refine .of y ((q9 w _ (Nat.le_succ _)).trans (rb _ _)) (h _ w.heap.size _ _ (.inr ⟨rfl,rfl⟩) ⟨by simp[a,q,U8],.inr ⟨_,((xs++f).toArray++Z6.zeroCells z.cells (grownCap w (n+m) cap e-(n+m))).toList,rfl,?_,ae,I,?_,?_⟩⟩ (af.ac _))
  .show _=_;rw[Array.toArray_toList];exact heap_alloc_new w.drew _
  .simp[a,q,size_zeroCells,Y,<-U8];congr 1;omega
  .rw[Array.toList_append,List.toList_toArray,U8,<-a,<-q,<-r8];exact List.take_left
 rcases Q8 m with rfl|hm
 .have ag:=b6 (by simpa using q);subst ag;have ah:=V.KU C;have S:∀base cap,v= .slice base n cap->n<=cap->aF P (Z5 #[t,p] s #[v,x]) w K:=by
   rintro base cap rfl I;refine .of (run_append_nothing w t p s e i B hi base n cap I x ah) (cL.refl _) (h _ g _ _ (.inl ⟨rfl,rfl,.inl rfl⟩) ?_ (ai.refl _ _));rw[Nat.add_zero,Y8];exact⟨a,H⟩
  obtain⟨rfl,rfl⟩|⟨cap,cs,rfl,_,T,_⟩:=H
  .exact S _ _ rfl (o4 _)
  .exact S _ _ rfl T
 .obtain⟨rfl,rfl⟩|⟨cap,cs,rfl,A,T,aj,U,ak⟩:=H
  .have al:=b6 (by simpa using a);subst al;exact grow ν 0 rfl Ω hm (run_firstCells_none w.drew i.size 0 0 0)
  .by_cases L:n+m<=cap
   .have am:n*i.size+f.length<=cs.length:=by rw[q,U,<-U8];exact V1 _ L
    have y:=run_append_room_src w t p s e i B hi g 0 n cap x m f (V.src C h1 hm) L
     (λj au=>by rw[A.cell (x6 (show 0+n*i.size+j<cs.length by omega))];rfl) (λj _=>A.frozen _ _)
    obtain⟨an,W⟩:=o5 f cs (n*i.size) w A;rw[W0]at y;refine .of y (W.cv A) (h _ g _ _ (.inl ⟨rfl,rfl,.inr ⟨A.lt,Ξ⟩⟩) ⟨by simp[a,q,U8],.inr ⟨cap,_,rfl,an,L,aj,by rw[mp,U],?_⟩⟩ (W.ac.mono λr _ h=>⟨h,Ξ⟩));rw[nZ am,ak,U8,<-a,<-q,<-r8];exact List.take_left
   .refine grow _ cap rfl Ω hm (run_firstCells_some w.drew i.size n _ n cap xs a λj u hu=>?_);rw[T4];obtain⟨_,b,o,base,av,he,_,_,ao,y⟩:=ab;cases he;have ap:0<n:=by
     rcases Q8 n with rfl|aq
     .simp at a;subst a;simp at hu
     .exact aq
    have:=ao ap;cases this;simpa using y j u hu
theorem o7{q A B:p8}{k s g m:Nat}{x:x1}{p:List x1}{K:x1->x3->Prop}(C:P.underlying t=σ (.slice e))(E:P.underlying q=σ (.slice B))(hi:aS P e k s z)(F:z.cells.size=k)(G:b1 w g e k v n xs)(V:cf w k x m p)(h1:∀u∈p,u.oneCell'=true)(H:(n+m)*s<=140737488355328)(I:n+m<=maxLen)(h:∀f a J,(a=g\/w.heap.size<=a)->b1 J a e k f (n+m) (xs++p)->ai (λr=>r=g) w J->K f J):
  aF P (Z5 #[t,q] A #[v,x]) w K:=
 Bz C E hi F G V h1 H I λf a J M y hm L=>by
  refine h f a J (y.imp And.left λh=>Nat.le_of_eq h.1.symm) ?_ (L.mono λr _ h=>h.1);obtain⟨_,rfl,_⟩|⟨_,rfl⟩:=y<;>exact hm
theorem BA{f q s:p8}{I g o jg y:Nat}{x:x1}{base:Option Addr}{C:p8}{K:x1->x3->Prop}(E:P.underlying f=σ (.slice e))(hi:aS P e 1 I z)(a:ah w g C cs)(L:0<jg->base=σ ⟨g,o,ν⟩)(W:o+jg<=cs.length)(V:cf w 1 x n xs)(h1:∀u∈xs,u.oneCell'=true)(h:∀J,ai (λr=>r=g) w J->J.heap.size=w.heap.size->ah J g C (over cs o (xs.take jg))->K (Δ (min n jg:Nat)) J):
  aF P (Z6.copy_ #[f,q] s #[.slice base jg y,x]) w K:=by
 obtain⟨A,b,o',M,cap,rfl,_,_,N,O⟩:=V;simp only[U7]at A;have F:(P.info? e).map (·.size)=σ 1:=hi.size;by_cases p:Nat.min n jg=0
 .have he:=b6 (by rw[j6,A];rw[Nat.min_comm];exact p);rw[he]at h;refine .of (run_copy_none w f q s e base M jg y n cap E F p) (cL.refl _) ?_;have G:min n jg=0:=p;rw[G]at h;exact h w (ai.refl _ _) rfl a
 .have G:min n jg≠0:=p;have Q:=N Ω;have R:=L Ω;subst Q;subst R;have H:(xs.take jg).length=min n jg:=by rw[j6,A,Nat.min_comm]
  obtain⟨S,B⟩:=o5 (xs.take jg) cs o w a;have T:=run_copy_cells w f q s e g o jg y ⟨b,o',ν⟩ n cap (xs.take jg) E F H
   (λj u hu=>by
    rw[T4];have U:=(x4.1 hu).1;rw[Y2 Ω]at hu;exact O j u hu)
   (λj U=>by rw[a.cell (x6 (show o+j<cs.length by omega))];rfl) (λj _=>a.frozen _ _) (λu hu=>h1 u (S4 hu))
  refine .of T (B.cv a) ?_;rw[H];exact h _ B.ac B.size S
theorem an.mono{f:Q4}{K e:x1->x3->Prop}(h:an P f args w K)(p:∀v J,cL w J->K v J->e v J):an P f args w e:=by
 cases h with
 |code h1 a=>exact .code h1 (a.mono λ_ J ⟨v,h1,q,a⟩=>⟨v,h1,q,p v J q a⟩)
 |ext v J h1 a r=>exact .ext v J h1 a (p v J a r)
theorem gL.mono{f:Q4}{K e:x1->x3->Prop}(h:gL P f args w K)(p:∀v J,K v J->e v J):gL P f args w e:=by
 cases h with
 |code h1 a=>exact .code h1 (a.mono λ_ J ⟨v,h1,a⟩=>⟨v,h1,p v J a⟩)
 |ext v J h1 q=>exact .ext v J h1 (p v J q)
end
end Go.Vc
namespace Go.Proofs.YtikkpokkcdocoabGreatDoor
open Go Go.Vc Go.RowKit Go.Proofs Go.Proofs.Tryz
set_option maxRecDepth 100000
theorem av.u:x7.underlying av=σ (.int .i64):=Ψ
theorem av.i:aS x7 av 1 8 (Δ 0):=aS.of Ψ
theorem aj.u:x7.underlying aj=σ (.int .i64):=Ψ
theorem aj.i:aS x7 aj 1 8 (Δ 0):=aS.of Ψ
theorem jd.i:aS x7 jd 1 1 (.bool false):=aS.of Ψ
theorem cI.u:x7.underlying cI=σ (.int .u8):=Ψ
theorem cI.i:aS x7 cI 1 1 (.int .u8 0):=aS.of Ψ
theorem cT.u:x7.underlying cT=σ .string:=Ψ
theorem cT.i:aS x7 cT 1 16 (.string ⟨#[]⟩):=aS.of Ψ
theorem cM.u:x7.underlying cM=σ (.slice cI):=Ψ
theorem oZ.u:x7.underlying oZ=σ (.slice c0):=Ψ
theorem dm.u:x7.underlying dm=σ (.pointer cN):=Ψ
theorem ao.u:x7.underlying ao=σ (.slice aj):=Ψ
theorem ao.i:aS x7 ao 1 24 (.slice ν 0 0):=aS.of Ψ
theorem db.u:x7.underlying db=σ (.slice ao):=Ψ
theorem db.i:aS x7 db 1 24 (.slice ν 0 0):=aS.of Ψ
theorem k1.u:x7.underlying k1=σ (.slice jd):=Ψ
theorem k1.i:aS x7 k1 1 24 (.slice ν 0 0):=aS.of Ψ
theorem dW.u:x7.underlying dW=σ (.slice az):=Ψ
theorem dW.i:aS x7 dW 1 24 (.slice ν 0 0):=aS.of Ψ
theorem eR.u:x7.underlying eR=σ (.slice du):=Ψ
theorem eR.i:aS x7 eR 1 24 (.slice ν 0 0):=aS.of Ψ
theorem aY.p:bK x7 aY [(0,1),(1,1),(2,1),(3,1),(4,1),(5,1),(6,1),(7,1)]:=bK.of Ψ
theorem aY.i:aS x7 aY 8 160 (.agg #[(Δ 0),(.slice ν 0 0),(Δ 0),(.slice ν 0 0),(.slice ν 0 0),(.slice ν 0 0),(.slice ν 0 0),(.slice ν 0 0)]):=aS.of Ψ
theorem dB.u:x7.underlying dB=σ (.slice dc):=Ψ
theorem dB.i:aS x7 dB 1 24 (.slice ν 0 0):=aS.of Ψ
theorem k2.i:aS x7 k2 1 8 (Δ 0):=aS.of Ψ
theorem jX.u:x7.underlying jX=σ (.slice jY):=Ψ
theorem dc.p:bK x7 dc [(0,1),(1,1),(2,1),(3,1)]:=bK.of Ψ
theorem dc.i:aS x7 dc 4 32 (.agg #[(Δ 0),(Δ 0),(Δ 0),(Δ 0)]):=aS.of Ψ
theorem jY.p:bK x7 jY [(0,1),(1,1),(2,1),(3,1)]:=bK.of Ψ
theorem jY.i:aS x7 jY 4 32 (.agg #[(Δ 0),(Δ 0),(Δ 0),(Δ 0)]):=aS.of Ψ
theorem az.u:x7.underlying az=σ (.slice av):=Ψ
theorem az.i:aS x7 az 1 24 (.slice ν 0 0):=aS.of Ψ
theorem a1.p:bK x7 a1 [(0,1),(1,1),(2,1)]:=bK.of Ψ
theorem a1.i:aS x7 a1 3 72 (.agg #[(.slice ν 0 0),(.slice ν 0 0),(.slice ν 0 0)]):=aS.of Ψ
theorem du.p:bK x7 du [(0,3),(3,1)]:=bK.of Ψ
theorem du.i:aS x7 du 4 80 (.agg #[(.slice ν 0 0),(.slice ν 0 0),(.slice ν 0 0),(.bool false)]):=aS.of Ψ
theorem c0.p:bK x7 c0 [(0,1),(1,1),(2,1),(3,1),(4,1)]:=bK.of Ψ
theorem c0.i:aS x7 c0 5 40 (.agg #[(.int .u8 0),(Δ 0),(Δ 0),(Δ 0),(Δ 0)]):=aS.of Ψ
theorem nU.u:x7.underlying nU=σ (.pointer gb):=Ψ
theorem ru.u:x7.underlying ru=σ (.pointer gx):=Ψ
theorem fJ.u:x7.underlying fJ=σ (.slice fk):=Ψ
theorem fJ.i:aS x7 fJ 1 24 (.slice ν 0 0):=aS.of Ψ
theorem cN.p:bK x7 cN [(0,1),(1,1),(2,1),(3,1),(4,1)]:=bK.of Ψ
theorem rv.i:aS x7 rv 1 8 .nilFunc:=aS.of Ψ
theorem fK.u:x7.underlying fK=σ (.int .u64):=Ψ
theorem fK.i:aS x7 fK 1 8 (.int .u64 0):=aS.of Ψ
theorem b5.p:bK x7 b5 [(0,1),(1,1)]:=bK.of Ψ
theorem b5.i:aS x7 b5 2 16 (.agg #[(.int .u64 0),(Δ 0)]):=aS.of Ψ
theorem qb.i:aS x7 qb 1 8 .nilFunc:=aS.of Ψ
theorem bD.p:bK x7 bD [(0,1)]:=bK.of Ψ
theorem bD.i:aS x7 bD 1 24 (.agg #[(.slice ν 0 0)]):=aS.of Ψ
theorem fk.p:bK x7 fk [(0,1),(1,1),(2,1)]:=bK.of Ψ
theorem fk.i:aS x7 fk 3 56 (.agg #[(.slice ν 0 0),(.slice ν 0 0),(Δ 0)]):=aS.of Ψ
theorem wV.u:x7.underlying wV=σ (.pointer cE):=Ψ
theorem wW.u:x7.underlying wW=σ (.pointer eb):=Ψ
theorem cV.u:x7.underlying cV=σ (.slice a1):=Ψ
theorem cV.i:aS x7 cV 1 24 (.slice ν 0 0):=aS.of Ψ
theorem dS.p:bK x7 dS [(0,1),(1,1),(2,1),(3,1),(4,1)]:=bK.of Ψ
theorem dS.i:aS x7 dS 5 88 (.agg #[(Δ 0),(.slice ν 0 0),(Δ 0),(.slice ν 0 0),(.slice ν 0 0)]):=aS.of Ψ
theorem nV.u:x7.underlying nV=σ (.array 5 cT):=Ψ
theorem nV.i:aS x7 nV 5 80 (.agg #[(.string ⟨#[]⟩),(.string ⟨#[]⟩),(.string ⟨#[]⟩),(.string ⟨#[]⟩),(.string ⟨#[]⟩)]):=aS.of Ψ
theorem qc.u:x7.underlying qc=σ (.int .u64):=Ψ
theorem eS.p:bK x7 eS [(0,1),(1,1)]:=bK.of Ψ
theorem eS.i:aS x7 eS 2 16 (.agg #[(Δ 0),(.int .u64 0)]):=aS.of Ψ
theorem jA.u:x7.underlying jA=σ (.slice eS):=Ψ
theorem jA.i:aS x7 jA 1 24 (.slice ν 0 0):=aS.of Ψ
theorem o0.u:x7.underlying o0=σ (.slice nd):=Ψ
theorem o0.i:aS x7 o0 1 24 (.slice ν 0 0):=aS.of Ψ
theorem tN.u:x7.underlying tN=σ (.slice gO):=Ψ
theorem gx.p:bK x7 gx [(0,1),(1,1),(2,1),(3,1)]:=bK.of Ψ
theorem tO.u:x7.underlying tO=σ (.pointer je):=Ψ
theorem e6.p:bK x7 e6 [(0,1),(1,1),(2,1),(3,1)]:=bK.of Ψ
theorem iE.u:x7.underlying iE=σ (.slice k3):=Ψ
theorem iE.i:aS x7 iE 1 24 (.slice ν 0 0):=aS.of Ψ
theorem cA.p:bK x7 cA [(0,1),(1,4),(5,1),(6,1)]:=bK.of Ψ
theorem kv.u:x7.underlying kv=σ (.slice ch):=Ψ
theorem jZ.u:x7.underlying jZ=σ (.slice ei):=Ψ
theorem jZ.i:aS x7 jZ 1 24 (.slice ν 0 0):=aS.of Ψ
theorem ch.p:bK x7 ch [(0,1),(1,1),(2,1),(3,1)]:=bK.of Ψ
theorem ch.i:aS x7 ch 4 80 (.agg #[(.slice ν 0 0),(.slice ν 0 0),(Δ 0),(.slice ν 0 0)]):=aS.of Ψ
theorem dH.u:x7.underlying dH=σ (.slice cH):=Ψ
theorem dH.i:aS x7 dH 1 24 (.slice ν 0 0):=aS.of Ψ
theorem cE.p:bK x7 cE [(0,1),(1,1),(2,1),(3,1)]:=bK.of Ψ
theorem eT.u:x7.underlying eT=σ (.pointer fL):=Ψ
theorem eT.i:aS x7 eT 1 8 (.pointer ν):=aS.of Ψ
theorem cH.p:bK x7 cH [(0,1),(1,1)]:=bK.of Ψ
theorem cH.i:aS x7 cH 2 32 (.agg #[(.slice ν 0 0),(.pointer ν)]):=aS.of Ψ
theorem fl.u:x7.underlying fl=σ (.slice cz):=Ψ
theorem fl.i:aS x7 fl 1 24 (.slice ν 0 0):=aS.of Ψ
theorem dy.u:x7.underlying dy=σ (.slice bd):=Ψ
theorem dy.i:aS x7 dy 1 24 (.slice ν 0 0):=aS.of Ψ
theorem bF.p:bK x7 bF [(0,1),(1,1),(2,1),(3,1),(4,1),(5,1),(6,1),(7,1),(8,1)]:=bK.of Ψ
theorem eb.p:bK x7 eb [(0,1),(1,1),(2,1),(3,1)]:=bK.of Ψ
theorem cz.p:bK x7 cz [(0,1),(1,1)]:=bK.of Ψ
theorem cz.i:aS x7 cz 2 24 (.agg #[(.string ⟨#[]⟩),(Δ 0)]):=aS.of Ψ
theorem ec.u:x7.underlying ec=σ (.slice ci):=Ψ
theorem ec.i:aS x7 ec 1 24 (.slice ν 0 0):=aS.of Ψ
theorem bd.p:bK x7 bd [(0,1),(1,1),(2,1),(3,1)]:=bK.of Ψ
theorem bd.i:aS x7 bd 4 80 (.agg #[(.slice ν 0 0),(.slice ν 0 0),(Δ 0),(.slice ν 0 0)]):=aS.of Ψ
theorem mn.u:x7.underlying mn=σ (.slice iF):=Ψ
theorem mn.i:aS x7 mn 1 24 (.slice ν 0 0):=aS.of Ψ
theorem gb.p:bK x7 gb [(0,1),(1,1),(2,1),(3,1)]:=bK.of Ψ
theorem e7.u:x7.underlying e7=σ (.pointer cX):=Ψ
theorem e7.i:aS x7 e7 1 8 (.pointer ν):=aS.of Ψ
theorem iF.p:bK x7 iF [(0,1),(1,1)]:=bK.of Ψ
theorem iF.i:aS x7 iF 2 32 (.agg #[(.slice ν 0 0),(.pointer ν)]):=aS.of Ψ
theorem rx.p:bK x7 rx [(0,1),(1,1)]:=bK.of Ψ
theorem qd.u:x7.underlying qd=σ (.int .u32):=Ψ
theorem je.p:bK x7 je [(0,1),(1,1),(2,1)]:=bK.of Ψ
theorem k3.p:bK x7 k3 [(0,1),(1,1)]:=bK.of Ψ
theorem k3.i:aS x7 k3 2 48 (.agg #[(.slice ν 0 0),(.slice ν 0 0)]):=aS.of Ψ
theorem ei.p:bK x7 ei [(0,1),(1,1)]:=bK.of Ψ
theorem ei.i:aS x7 ei 2 32 (.agg #[(.slice ν 0 0),(Δ 0)]):=aS.of Ψ
theorem ci.p:bK x7 ci [(0,1),(1,1)]:=bK.of Ψ
theorem ci.i:aS x7 ci 2 32 (.agg #[(.slice ν 0 0),(Δ 0)]):=aS.of Ψ
theorem gA.u:x7.underlying gA=σ (.slice cW):=Ψ
theorem cW.p:bK x7 cW [(0,1),(1,1)]:=bK.of Ψ
theorem cW.i:aS x7 cW 2 32 (.agg #[(.slice ν 0 0),(.pointer ν)]):=aS.of Ψ
theorem j0.u:x7.underlying j0=σ (.map cF av):=Ψ
theorem fL.p:bK x7 fL [(0,1),(1,1),(2,1),(3,1)]:=bK.of Ψ
theorem qe.u:x7.underlying qe=σ (.slice gB):=Ψ
theorem gB.p:bK x7 gB [(0,1),(1,1)]:=bK.of Ψ
theorem gB.i:aS x7 gB 2 32 (.agg #[(.slice ν 0 0),(Δ 0)]):=aS.of Ψ
theorem cX.p:bK x7 cX [(0,1),(1,1),(2,1)]:=bK.of Ψ
theorem gO.p:bK x7 gO [(0,1),(1,1),(2,1)]:=bK.of Ψ
theorem gO.i:aS x7 gO 3 24 (.agg #[(Δ 0),(Δ 0),(.int .u64 0)]):=aS.of Ψ
theorem nd.i:aS x7 nd 3 24 (.agg #[(Δ 0),(Δ 0),(.int .u64 0)]):=aS.of Ψ
theorem wX.u:x7.underlying wX=σ (.array 64 cI):=Ψ
theorem ih.u:x7.underlying ih=σ (.map cT aj):=Ψ
theorem gd.u:x7.underlying gd=σ (.int .i8):=Ψ
theorem gd.i:aS x7 gd 1 1 (.int .i8 0):=aS.of Ψ
theorem cF.u:x7.underlying cF=σ (.array 6 gd):=Ψ
theorem cF.i:aS x7 cF 6 6 (.agg #[(.int .i8 0),(.int .i8 0),(.int .i8 0),(.int .i8 0),(.int .i8 0),(.int .i8 0)]):=aS.of Ψ
theorem mo.u:x7.underlying mo=σ (.slice gd):=Ψ
theorem k4.u:x7.underlying k4=σ (.slice cF):=Ψ
theorem k4.i:aS x7 k4 1 24 (.slice ν 0 0):=aS.of Ψ
theorem ne.u:x7.underlying ne=σ (.map av aj):=Ψ
theorem nW.u:x7.underlying nW=σ (.array 24 cI):=Ψ
theorem nW.i:aS x7 nW 24 24 (.agg #[(.int .u8 0),(.int .u8 0),(.int .u8 0),(.int .u8 0),(.int .u8 0),(.int .u8 0),(.int .u8 0),(.int .u8 0),(.int .u8 0),(.int .u8 0),(.int .u8 0),(.int .u8 0),(.int .u8 0),(.int .u8 0),(.int .u8 0),(.int .u8 0),(.int .u8 0),(.int .u8 0),(.int .u8 0),(.int .u8 0),(.int .u8 0),(.int .u8 0),(.int .u8 0),(.int .u8 0)]):=aS.of Ψ
theorem tP.u:x7.underlying tP=σ (.array 20 fK):=Ψ
end Go.Proofs.YtikkpokkcdocoabGreatDoor
namespace Go.Vc
open Go Go.RowKit
def bT:x1->Int
 | .int _ i=>i
 |_=>0
theorem wrap_i64{x:Int}(h1: -9223372036854775808<=x)(a:x<9223372036854775808):W5.wrap x=x:=by
 simp only[n9.wrap,n9.bits,n9.signed];simp;omega
theorem wrap_u8{x:Int}(h1:0<=x)(a:x<256):n9.u8.wrap x=x:=by
 simp only[n9.wrap,n9.bits,n9.signed];simp;omega
theorem KV{x:Int}(h1: -128<=x)(a:x<128):n9.i8.wrap x=x:=by
 simp only[n9.wrap,n9.bits,n9.signed];simp;omega
theorem wrap_u64{x:Int}(h1:0<=x)(a:x<18446744073709551616):T1.wrap x=x:=by
 simp only[n9.wrap,n9.bits,n9.signed];simp;omega
abbrev ints(k:n9)(l:Λ):List x1:=l.map (U3 k)
theorem rz(k:n9)(l:Λ):∀u∈ints k l,u.oneCell'=true:=by
 intro u hu;obtain⟨x,_,rfl⟩:=c7.1 hu;rfl
theorem lL{i:Nat}{x:Int}(h:l[i]?=σ x):(ints k l)[i]?=σ (.int k x):=by simp[ints,h]
theorem w2{α:Type}{a b:List α}{i:Nat}{x y:α}(h:a.take i=b.take i)(e:a[i]?=σ x)(f:b[i]?=σ y)(p:x=y):a.take (i+1)=b.take (i+1):=by
 rw[u9,u9,h,e,f,p]
def tW(P:W9):Nat->List Field->Bool
 |_,[]=>true
 |j,f::a=>(f.name != "_" &&f.offset == j)&&((match P.underlying f.type with|some (.int _)=>true|_=>false)&&tW P (j+1) a)
theorem BB{P:W9}(w:x3)(d:Nat)(k:n9)(xs ys:Λ)(s:xs.length=ys.length):∀(a:List Field)(j:Nat),tW P j a=true->xs.length=j+a.length->
  (Op.eqFields (d+1) (ints k xs).toArray (ints k ys).toArray a).run P w= .ok (decide (xs.drop j=ys.drop j)) w
 |[],j,_,e=>by
  rw[List.drop_of_length_le (by simp at e;omega),List.drop_of_length_le (by simp at e;omega)];simp[Op.eqFields]
 |f::a,j,h,e=>by
  simp only[tW,V9,bne_iff_ne,ne_eq,beq_iff_eq]at h;obtain⟨⟨z,A⟩,B,C⟩:=h;simp only[b9]at e;have E:=BB w d k xs ys s a (j+1) C Ω;obtain⟨p,q⟩:∃p,P.underlying f.type=σ (.int p):=by
   revert B;cases hu:P.underlying f.type with
   |none=>intro h;cases h
   |some F=>cases F<;>intro h<;>first|(cases h;done)|exact⟨_,rfl⟩
  obtain⟨x,U,G⟩:∃x,xs[j]?=σ x/\xs.drop j=x::xs.drop (j+1):=⟨xs[j],x6 Ω,X5 Ω⟩;obtain⟨y,H,I⟩:∃y,ys[j]?=σ y/\ys.drop j=y::ys.drop (j+1):=⟨ys[j],x6 Ω,X5 Ω⟩;have r:∀(l:Λ)(x:Int),l[j]?=σ x->(part f.type (ints k l).toArray f.offset).run P w= .ok (.int k x) w:=λl x J=>by
   have:=lL (k:=k) J;rw[A];simp[part,isAgg,run_underlying q,this]
  rw[G,I];unfold Op.eqFields;rw[if_pos z,W7,r xs _ U,Q0.andThen_ok,W7,r ys _ H,Q0.andThen_ok,W7,run_equalIn_int w d f.type k p _ _ q,Q0.andThen_ok];by_cases he:x=y
  .rw[he];simp[E]
  .simp[he]
def tX(P:W9)(t:p8)(n:Nat):Bool:=
 (match P.underlying t with|some (.struct a)=>tW P 0 a.toList&&a.size == n|_=>false)&&(!P.stoodInHeld t&& !P.eqGuardType P.depth t)
theorem KW{P:W9}(h:tX P t n=true)(w:x3)(k:n9){xs ys:Λ}(U:xs.length=n)(p:ys.length=n):
  (Op.equal t (.agg (ints k xs).toArray) (.agg (ints k ys).toArray)).run P w= .ok (decide (xs=ys)) w:=by
 simp only[tX,V9,Bool.not_eq_true']at h;obtain⟨h1,e,q⟩:=h;cases hu:P.underlying t with
 |none=>rw[hu]at h1;cases h1
 |some d=>
  cases d<;>rw[hu]at h1<;>first|(cases h1;done)|skip
  rename_i a;simp only[V9,beq_iff_eq]at h1;have af:P.underlying t=σ (.struct (P.fieldsOf t)):=by simp[W9.fieldsOf,hu]
  have f:(P.fieldsOf t)=a:=by simp[W9.fieldsOf,hu]
  show(Op.equalIn (9999+1) t (.agg (ints k xs).toArray) (.agg (ints k ys).toArray)).run P w=_;rw[run_equalIn_struct (P:=P) w 9999 t (ints k xs).toArray (ints k ys).toArray af e,f,BB w 9998 k xs ys Ω a.toList 0 h1.1 Θ];simp
theorem KX{P:W9}(h:tX P t n=true){xs ys:Λ}(U:xs.length=n)(a:ys.length=n):
  ad P (aO .neq t cx cy (.agg (ints k xs).toArray) (.agg (ints k ys).toArray)) w K=K (.bool !(decide (xs=ys))):=
 Bt (λJ=>run_eqGuard_agg (P:=P) J .neq t _ _ _ _ (by simp only[tX,V9,Bool.not_eq_true']at h;exact h.2.2)) F λJ _=>KW h J k U a
theorem da{aB:x3->Prop}{B:(x3->Prop)->Prop}(G:x3->Prop)(h1:∀w,G w->aB w)(e:∀a:x3->Prop,(∀w,G w->a w)->B a):cw aB B:=e aB h1
theorem aV{aB:x1->x3->Prop}{B:(x1->x3->Prop)->Prop}(G:x1->x3->Prop)(h1:∀v w,G v w->aB v w)(e:∀a:x1->x3->Prop,(∀v w,G v w->a v w)->B a):cw aB B:=e aB h1
theorem iC{aB:x1->x1->x3->Prop}{B:(x1->x1->x3->Prop)->Prop}(G:x1->x1->x3->Prop)(h1:∀u v w,G u v w->aB u v w)(e:∀a:x1->x1->x3->Prop,(∀u v w,G u v w->a u v w)->B a):cw aB B:=e aB h1
theorem an.calls{P:W9}{f:Q4}{K:x1->x3->Prop}(h:an P f args w K)(a:Enters P f):Calls P f args.toArray w λe J=>∃v,e= .returned v/\cL w J/\K v J:=by
 cases h with
 |code _ h=>exact h
 |ext v J h1=>rw[a]at h1;cases h1
theorem KY(U:Ext w J)(a:cL w J):Below w.heap.size w J:=
 ⟨a.os,a.tape.1,a.output,U.size,λk hk=>by
  have e:=Array.getElem?_eq_getElem hk;rw[e];cases V:fF w.heap[k]with
  |true=>exact U.a6 k _ e V
  |false=>exact a.a6 k _ e V⟩
theorem w3{x:Addr}(h:w.cell? x=σ v):x=⟨x.block,x.off,ν⟩:=by
 obtain⟨b,o,s⟩:=x;cases s with
 |none=>rfl
 |some s=>
  unfold x3.cell? at h;split at h<;>simp at h
theorem KZ{a:Option Addr}{len cap:Nat}{e:Λ}(h:(a=ν/\len=0/\cap=0/\e=[])\/
   ∃x,a=σ x/\len<=cap/\cap<=maxLen/\e.length=cap/\(∀i,i<e.length->w.cell? (x.add i)=σ (.int k (e.getD i 0)))/\∀n∈e,(Lit.int k n).wf=true):
  cf w 1 (.slice a len cap) len (ints k (e.take len))/\∀n∈e.take len,k.min<=n/\n<=k.max:=by
 rcases h with⟨rfl,rfl,rfl,rfl⟩|⟨x,rfl,h1,q,r,f,s⟩
 .exact⟨cf.nil _ _,Ξ⟩
 .refine⟨⟨by simp[r,h1],x.block,x.off,σ x,cap,F,h1,q,λA=>?_,λj v ae=>?_⟩,λn y=>?_⟩
  .have:=f 0 Ω;exact congrArg σ (w3 this)
  .have z:=(x4.1 ae).1;rw[r9,j6]at z;have U:x=⟨x.block,x.off,ν⟩:=w3 (v:=.int k (e.getD 0 0)) (f 0 Ω);have p:=f j Ω;rw[U,T4]at p;rw[p,<-ae,ints,x8,Y2 Ω,u4,x6 Ω];rfl
  .have:=s n (S4 y);simpa[Lit.wf]using this
def aK(k:n9)(w:x3)(v:x1)(l:Λ):Prop:=cf w 1 v l.length (ints k l)
def ay(k:n9)(e:p8)(w:x3)(g:Nat)(v:x1)(l:Λ):Prop:=b1 w g e 1 v l.length (ints k l)
theorem aK.ext(h:aK k w v l)(U:Ext w J):aK k J v l:=cf.ext h U
theorem ay.ext{g:Nat}(h:ay k e w g v l)(U:Ext w J):ay k e J g v l:=b1.ext h U
theorem ay.ac{g:Nat}(h:ay k e w g v l)(U:ai S w J)(a:g<w.heap.size->¬S g):ay k e J g v l:=b1.ac h U a
theorem ay.ls{g:Nat}(h:ay k e w g v l):aK k w v l:=b1.sl h
theorem aK.of(h:cf w 1 v n (ints k l)):aK k w v l:=by
 have:l.length=n:=by simpa using h.1
 unfold aK;rw[this];exact h
theorem ay.of{g:Nat}(h:b1 w g e 1 v n (ints k l)):ay k e w g v l:=by
 have:l.length=n:=by simpa using h.1
 unfold ay;rw[this];exact h
theorem aK.le(h:aK k w v l):l.length<=9223372036854775807:=by
 have:=cf.le h;simpa[maxLen]using this
theorem aK.cells(h:aK k w v l):v.cells= #[v]/\v.oneCell'=true:=by
 obtain⟨_,_,_,_,_,rfl,_⟩:=h;exact⟨F,F⟩
theorem ay.nil(k:n9)(e:p8)(w:x3)(g:Nat):ay k e w g (.slice ν 0 0) []:=b1.nil w g e 1
section
variable{P:W9}{w:x3}
theorem aX{a:p8}(f:P.underlying t=σ (.slice e))(h:aK k w v l):
  ad P (U1 #[t] a #[v]) w K=K (Δ l.length):=by
 obtain⟨_,_,_,_,_,rfl,_⟩:=h;exact ii f
theorem be{a:n9}{b:Nat}{i:Nat}{x:Int}(f:P.underlying t=σ (.slice e))(hi:aS P e 1 b z)(h1:k5 P e=true)(h:aK k w v l)(U:l[i]?=σ x):ad P (c9 t v (.int a (i:Int))) w (λp=>ad P (u5 e p) w K)=K (.int k x):=by
 have q:=(x4.1 U).1;obtain⟨_,_,_,_,_,rfl,_,_,r,s⟩:=h;rw[fe f hi q r,U7,ax h1 (s i _ (lL U))]
theorem gf{a:n9}{b:Nat}{i:Nat}{x:Int}(f:y=(i:Int))(q:P.underlying t=σ (.slice e))(hi:aS P e 1 b z)(h1:k5 P e=true)(h:aK k w v l)(U:l[i]?=σ x):ad P (c9 t v (.int a y)) w (λp=>ad P (u5 e p) w K)=K (.int k x):=by
 subst f;exact be q hi h1 h U
theorem kA{q:p8}{b g:Nat}{x:x1}{m:Λ}{K:x1->x3->Prop}(p:P.underlying t=σ (.slice e))(hi:aS P e 1 b z)(s:z.cells.size=1)(h:ay k e w g v l)(U:aK k w x m)(y:(l.length+m.length)*b<=140737488355328)(A:l.length+m.length<=9223372036854775807)(B:∀f a J,(a=g\/w.heap.size<=a)->ay k e J a f (l++m)->ai (λr=>r=g) w J->K f J):aF P (Z5 #[t,t] q #[v,x]) w K:=
 o7 p p hi s h U (rz _ _) y (by simpa[maxLen]using A) λf a J h1 C E=>B f a J h1 (ay.of (by rw[ints,Z9];exact C)) E
theorem eE{b:Nat}{x:Int}{K:x1->x3->Prop}(p:P.underlying t=σ (.slice e))(hi:aS P e 1 b z)(s:z.cells.size=1)(h:∀v g J,g=w.heap.size->Ext w J->ay k e J g v [x]->K v J):aF P (Y5 t 1 #[(0,.int k x)]) w K:=
 lK p hi Ω (cs:=#[.int k x]) (by
   have V:∀(a:Array x1),a.size=1->a.setIfInBounds 0 (.int k x)= #[.int k x]:=λa f=>by
    apply Array.ext
    .simp[f]
    .intro i h1 y;have:i=0:=by simp[f]at h1;exact h1
     subst this;simp
   simp only[Instr.fill,x1.cells,List.zipIdx];simp;exact V _ Ξ) λg J q U r=>h _ g J q U (ay.of (b1.full r F (by simp[maxLen])))
theorem an.free{f:Q4}{K:x1->x3->Prop}(h:an P f args w K):gL P f args w λv J=>cL w J/\K v J:=by
 cases h with
 |code h1 a=>exact .code h1 (a.mono λ_ J ⟨v,h1,e,a⟩=>⟨v,h1,e,a⟩)
 |ext v J h1 a p=>exact .ext v J h1 ⟨a,p⟩
theorem bZ{a:Addr}:ad P (bP (.pointer (σ a))) w K=K (.pointer (σ a)):=ad.of λ_ _=>by
 simp[bP,td,execOp]
theorem aL{u:p8}{a:List (Nat×Nat)}{b f z:Nat}{K:x1->x1->Prop}(h:bK P t a)(i:Nat)(p:ah w b e cs)(ae:cs[(a[i]?.getD (0,0)).1]?=σ v)(af:a[i]?=σ (f,z+1):=by rfl)(q:k5 P u=true:=by kernel_rfl):
  ad P (u6 t (Γ b) i) w (λx=>ad P (u5 u x) w (K x))=K (.pointer (σ ⟨b,0+f,ν⟩)) v:=by
 rw[af]at ae;rw[aW h af,ax q (p.cell (by rw[W0];exact ae))]
theorem aT{u:p8}{a:List (Nat×Nat)}{b f z:Nat}{K:x1->x1->x1->Prop}(h:bK P t a)(i:Nat)(p:ah w b e cs)(ae:cs[(a[i]?.getD (0,0)).1]?=σ v)(af:a[i]?=σ (f,z+1):=by rfl)(q:k5 P u=true:=by kernel_rfl):
  ad P (bP (Γ b)) w (λy=>ad P (u6 t y i) w (λx=>ad P (u5 u x) w (K y x)))=K (Γ b) (.pointer (σ ⟨b,0+f,ν⟩)) v:=by
 rw[bZ,aL h i p ae af q]
theorem BC{a f:n9}{k p:Nat}{K:x1->x3->Prop}(r:P.underlying t=σ (.slice e))(hi:aS P e k p z)(B:n*p<=281474976710656)(C:n<=9223372036854775807)(h:∀g J,g=w.heap.size->Ext w J->ah J g e (dT z.cells (n*k))->K (.slice (σ ⟨g,0,ν⟩) n n) J):aF P (Instr.makeSlice t (.int a (n:Int)) (.int f (n:Int))) w K:=by
 obtain⟨i,hi,rfl,rfl,s⟩:=hi;have x:(i.bytes:Int)*(n:Int)<=281474976710656:=by
  rw[Int.mul_comm];have h:((n*i.bytes:Nat):Int)<=281474976710656:=Ω
  rwa [Int.natCast_mul]at h
 have q:=run_make w t e i z r hi s a f n n Ω (Int.le_refl _) x Ω;have hm:madeCells z.cells ((n:Int).toNat*i.size)=(dT z.cells (n*i.size)).toArray:=by rw[dT,Array.toArray_toList];rfl
 rw[hm]at q;obtain⟨h1,y,A⟩:=tV w (dT z.cells (n*i.size)) e;exact .of q A (h _ _ F y h1)
theorem K0(v:x1)(n:Nat):dT #[v] n=o8 n v:=by
 apply List.ext_getElem
 .simp[dT]
 .intro i h1 a;simp[dT,Nat.mod_one]
theorem k6{f p:n9}{a:Nat}{K:x1->x3->Prop}(q:P.underlying t=σ (.slice e))(hi:aS P e 1 a (.int k 0))(r:n*a<=281474976710656)(s:n<=9223372036854775807)(h:∀g J,g=w.heap.size->Ext w J->ah J g e (ints k (o8 n 0))->K (.slice (σ ⟨g,0,ν⟩) n n) J):aF P (Instr.makeSlice t (.int f (n:Int)) (.int p (n:Int))) w K:=
 BC q hi r s λg J x U y=>h g J x U (by
  have e:dT (U3 k 0).cells (n*1)=ints k (o8 n 0):=by rw[U7];show dT #[_] n=_;rw[K0];simp[ints]
  rw[<-e];exact y)
theorem fM{a:List (Nat×Nat)}{b o k e:Nat}(hu:bK P t a)(hi:aS P t k e z)(f:cs.length=k)(h:w.rangeAt b o cs):ad P (do loadVar t (<-asAddr (.pointer (σ ⟨b,o,ν⟩)))) w K=K (.agg cs.toArray):=ad.of λJ U=>by
 obtain⟨p,hu,_⟩:=hu;have:=run_loadVar_mid J b o t cs (.struct p) (o1 U h) hu F (by rw[hi.size,f]);simp only[asAddr,W7,U2,Q0.andThen_ok,this]
theorem BD(h:vs.length=cs.length):over cs 0 vs=vs:=by
 rw[nZ Ω];simp[h]
theorem b7{k f g:Nat}{K:Unit->x3->Prop}(hi:aS P t k f z)(p:vs.length=k)(x:cs.length=k)(ae:∀v∈vs,v.oneCell'=true)(q:ah w g e cs)(h:∀J,ai (λr=>r=g) w J->J.heap.size=w.heap.size->ah J g e vs->K () J):aF P (l9 t (Γ g) (.agg vs.toArray)) w K:=
 w1 hi p ae q Ω λJ h1 s a=>h J h1 s (by rw[BD Ω]at a;exact a)
end
section
variable{P:W9}{w J ab:x3}{t:p8}{cx cy:Bool}{k:n9}{a b:Int}{A B:Prop}{x y z:x1}{K:x1->Prop}
theorem bq:ad P (Y4 (.tuple #[x,y]) 0) w K=K x:=j2 F
theorem br:ad P (Y4 (.tuple #[x,y]) 1) w K=K y:=j2 F
theorem fN:ad P (Y4 (.tuple #[x,y,z]) 0) w K=K x:=j2 F
theorem fO:ad P (Y4 (.tuple #[x,y,z]) 1) w K=K y:=j2 F
theorem fP:ad P (Y4 (.tuple #[x,y,z]) 2) w K=K z:=j2 F
theorem bB(h:a<b)(e:A):ad P (aO .lss t cx cy (.int k a) (.int k b)) w λv=>Split v A B:=by
 rw[aP,am];exact⟨λ_=>e,λf=>absurd h f⟩
theorem ca(h:¬a<b)(e:B):ad P (aO .lss t cx cy (.int k a) (.int k b)) w λv=>Split v A B:=by
 rw[aP,am];exact⟨λf=>absurd f h,λ_=>e⟩
theorem Ext.put{g:Nat}(U:Ext w J)(a:ai (λr=>r=g) J ab)(h:w.heap.size<=g):Ext w ab:=U.then a λr e he=>by
 have he:r=g:=he;omega
theorem aI{α:Type}{l:List α}{i:Nat}(h:i<l.length):∃x,l[i]?=σ x:=⟨_,x6 h⟩
end
abbrev ak:=Nat->Prop
def lM(S:ak)(w:x3)(k:Nat)(v:x1)(n:Nat)(cs:List x1):Prop:=
 cs.length=n*k/\∃b o base cap,v= .slice base n cap/\n<=cap/\cap<=maxLen/\(0<n->base=σ ⟨b,o,ν⟩)/\(0<cs.length->S b)/\w.rangeAt b o cs
theorem lM.sl{S:ak}{k:Nat}(h:lM S w k v n cs):cf w k v n cs:=by
 obtain⟨h1,b,o,base,cap,a,e,f,p,_,q⟩:=h;exact⟨h1,b,o,base,cap,a,e,f,p,q⟩
theorem BE{b o:Nat}(h:w.rangeAt b o cs)(a:0<cs.length):b<w.heap.size:=by
 have:=h 0 cs[0] (x6 a);obtain⟨c,e,f,p,_⟩:=wY this;exact(j9.1 p).1
theorem lM.ac{S T:ak}{k:Nat}(h:lM S w k v n cs)(U:ai T w J)(p:∀r,r<w.heap.size->S r->¬T r):lM S J k v n cs:=by
 obtain⟨h1,b,o,base,cap,q,s,x,y,e,f⟩:=h;refine⟨h1,b,o,base,cap,q,s,x,y,e,?_⟩;rcases Q8 cs.length with a|a
 .intro j v ae;have:=(x4.1 ae).1;omega
 .exact kw U (p b (BE f a) (e a)) f
theorem lM.mono{S T:ak}{k:Nat}(h:lM S w k v n cs)(f:∀r,r<w.heap.size->S r->T r):lM T w k v n cs:=by
 obtain⟨h1,b,o,base,cap,p,q,s,x,y,a⟩:=h;exact⟨h1,b,o,base,cap,p,q,s,x,λe=>f b (BE a e) (y e),a⟩
class au(α:Type) where
 n:Nat
 rep:Bool->ak->ak->x3->List x1->α->Prop
 len:∀{m S R w cs a},rep m S R w cs a->cs.length=n
 one:∀{m S R w cs a},rep m S R w cs a->∀u∈cs,u.oneCell'=true
 ac:∀{m S R T w J cs a},rep m S R w cs a->ai T w J->(∀r,r<w.heap.size->S r\/R r->¬T r)->rep m S R J cs a
 mono:∀{m S S' R R' w cs a},rep m S R w cs a->(∀r,r<w.heap.size->S r->S' r)->(∀r,r<w.heap.size->R r->R' r)->rep m S' R' w cs a
 jb:∀{m S R w cs a},rep m S R w cs a->rep false (λ_=>False) (λr=>S r\/R r) w cs a
section
variable{α β:Type}[au α][au β]{m:Bool}{S R T:ak}{w J:x3}
abbrev bG(S R:ak)(w:x3)(cs:List x1)(a:α):Prop:=au.rep true S R w cs a
abbrev Seen(R:ak)(w:x3)(cs:List x1)(a:α):Prop:=au.rep false (λ_=>False) R w cs a
abbrev eL:ak:=λ_=>True
theorem bE{a:α}(h:au.rep m S R w cs a)(U:Ext w J):au.rep m S R J cs a:=au.ac h (U.ac λ_=>False) λ_ _ _ h=>h
theorem n0{a:α}(h:au.rep m S R w cs a):au.rep m (λr=>S r/\r<w.heap.size) R w cs a:=au.mono h (λ_ h1 e=>⟨e,h1⟩) λ_ _ h=>h
theorem kB{a:α}(h:au.rep m S R w cs a):Seen eL w cs a:=au.mono (au.jb h) (λ_ _ h=>h.elim) λ_ _ _=>trivial
theorem qh{a:α}{Q:ak}(h:au.rep m S R w cs a)(e:∀r,r<w.heap.size->S r\/R r->Q r):Seen Q w cs a:=au.mono (au.jb h) (λ_ _ h=>h.elim) e
instance:au Int where
 n:=1
 rep _ _ _ _ cs a:=cs=[Δ a]
 len h:=by subst h;rfl
 one h:=by subst h;intro u hu;simp at hu;subst hu;rfl
 ac h _ _:=h
 mono h _ _:=h
 jb h:=h
instance:au Bool where
 n:=1
 rep _ _ _ _ cs a:=cs=[.bool a]
 len h:=by subst h;rfl
 one h:=by subst h;intro u hu;simp at hu;subst hu;rfl
 ac h _ _:=h
 mono h _ _:=h
 jb h:=h
instance:au ByteArray where
 n:=1
 rep _ _ _ _ cs a:=cs=[.string a]
 len h:=by subst h;rfl
 one h:=by subst h;intro u hu;simp at hu;subst hu;rfl
 ac h _ _:=h
 mono h _ _:=h
 jb h:=h
def nk(_:n9):Type:=Int
instance (k:n9):au (nk k) where
 n:=1
 rep _ _ _ _ cs a:=cs=[.int k a]
 len h:=by subst h;rfl
 one h:=by subst h;intro u hu;simp at hu;subst hu;rfl
 ac h _ _:=h
 mono h _ _:=h
 jb h:=h
def Rd(α:Type):Type:=α
instance UH:au (Rd α) where
 n:=au.n α
 rep _ _ R w cs a:=au.rep (α:=α) false (λ_=>False) R w cs a
 len h:=au.len (α:=α) h
 one h:=au.one (α:=α) h
 ac h U e:=au.ac (α:=α) h U λr f h=>e r f (.inr (h.elim False.elim id))
 mono h _ p:=au.mono (α:=α) h (λ_ _ h=>h) p
 jb h:=au.mono (α:=α) h (λ_ _ h=>h) λ_ _ h=>.inr h
instance UI:au (α×β) where
 n:=au.n α+au.n β
 rep m S R w cs a:=∃c d A B,cs=c++d/\(∀r,A r->S r)/\(∀r,B r->S r)/\(m=true->∀r,A r->¬B r)/\au.rep m A R w c a.1/\au.rep m B R w d a.2
 len:=by
  rintro m S R w cs a ⟨c,d,A,B,rfl,_,_,_,h1,e⟩;simp[au.len h1,au.len e]
 one:=by
  rintro m S R w cs a ⟨c,d,A,B,rfl,_,_,_,h1,e⟩ u hu;rcases p9.1 hu with hu|hu
  .exact au.one h1 u hu
  .exact au.one e u hu
 ac:=by
  rintro m S R T w J cs a ⟨c,d,A,B,rfl,p,q,x,h1,e⟩ U s;exact⟨c,d,A,B,rfl,p,q,x,au.ac h1 U λr f h=>s r f (h.imp (p r) id),au.ac e U λr f h=>s r f (h.imp (q r) id)⟩
 mono:=by
  rintro m S S' R R' w cs a ⟨c,d,A,B,rfl,p,q,x,h1,e⟩ s y;exact⟨c,d,λr=>A r/\r<w.heap.size,λr=>B r/\r<w.heap.size,rfl,λr h=>s r h.2 (p r h.1),λr h=>s r h.2 (q r h.1),λhm r h k=>x hm r h.1 k.1,
   au.mono h1 (λr f h=>⟨h,f⟩) y,au.mono e (λr f h=>⟨h,f⟩) y⟩
 jb:=by
  rintro m S R w cs a ⟨c,d,A,B,rfl,p,q,x,h1,e⟩;exact⟨c,d,λ_=>False,λ_=>False,rfl,λ_ h=>h.elim,λ_ h=>h.elim,(λh=>by cases h),au.mono (au.jb h1) (λ_ _ h=>h) λr _ h=>h.imp (p r) id,
   au.mono (au.jb e) (λ_ _ h=>h) λr _ h=>h.imp (q r) id⟩
def n1(m:Bool)(R:ak)(F:Nat->ak)(w:x3)(vs:List (List x1))(l:List α):Prop:=
 vs.length=l.length/\∀(i:Nat)(c:List x1)(a:α),vs[i]?=σ c->l[i]?=σ a->au.rep m (F i) R w c a
structure BF(m:Bool)(S:ak)(g:Nat)(F:Nat->ak):Prop where
 sub:∀i r,F i r->S r
 top:m=true->∀i,¬F i g
 gP:m=true->∀i j r,i≠j->F i r->¬F j r
theorem n1.len{F:Nat->ak}{vs:List (List x1)}{l:List α}(h:n1 m R F w vs l):∀c∈vs,c.length=au.n α:=by
 intro c a;obtain⟨i,hi,rfl⟩:=List.mem_iff_getElem.1 a;exact au.len (h.2 i _ _ (x6 hi) (x6 (h.1▸hi)))
theorem n1.one{F:Nat->ak}{vs:List (List x1)}{l:List α}(h:n1 m R F w vs l):∀u∈vs.flatten,u.oneCell'=true:=by
 intro u hu;obtain⟨c,a,hu⟩:=List.mem_flatten.1 hu;obtain⟨i,hi,rfl⟩:=List.mem_iff_getElem.1 a;exact au.one (h.2 i _ _ (x6 hi) (x6 (h.1▸hi))) u hu
theorem rA{k:Nat}:∀{vs:List (List x1)},(∀c∈vs,c.length=k)->vs.flatten.length=vs.length*k
 |[],_=>Ξ
 |c::r,h=>by
  have:=rA λx U=>h x (.tail _ U);simp only[List.flatten_cons,r8,this,h c (.head _),b9,U8];omega
theorem pa{k:Nat}:∀{vs:List (List x1)},(∀c∈vs,c.length=k)->∀{i j:Nat}{c:List x1},vs[i]?=σ c->j<k->vs.flatten[i*k+j]?=c[j]?
 |ik::r,h,0,j,c,a,e=>by
  simp only[List.getElem?_cons_zero,Y7]at a;subst a;rw[List.flatten_cons,X0 (by rw[h _ (.head _)];omega)];simp
 |ik::r,h,i+1,j,c,a,e=>by
  simp only[List.getElem?_cons_succ]at a;have f:=h ik (.head _);rw[List.flatten_cons,X1 (by rw[f,U8];omega),f,U8,show i*k+1*k+j-k=i*k+j by omega];exact pa (λx U=>h x (.tail _ U)) a e
 |[],_,i,_,c,a,_=>by simp at a
instance instList:au (List α) where
 n:=1
 rep m S R w cs l:=∃v,cs=[v]/\∃(vs:List (List x1))(g:Nat)(F:Nat->ak),BF m S g F/\n1 m R F w vs l/\lM (λr=>S r\/R r) w (au.n α) v l.length vs.flatten/\
  (m=true->(v= .slice ν 0 0\/S g)/\∃e,b1 w g e (au.n α) v l.length vs.flatten)
 len:=by rintro m S R w cs a ⟨v,rfl,_⟩;rfl
 one:=by
  rintro m S R w cs a ⟨v,rfl,vs,g,F,_,_,⟨_,_,_,_,_,rfl,_⟩,_⟩ u hu;simp at hu;subst hu;rfl
 ac:=by
  rintro m S R T w J cs a ⟨v,rfl,vs,g,F,p,he,V,hm⟩ U s;refine⟨v,rfl,vs,g,F,p,⟨he.1,λi c a y z=>au.ac (he.2 i c a y z) U λr q h=>s r q (h.imp (p.sub i r) id)⟩,V.ac U s,λh=>?_⟩;obtain⟨h1,e,f⟩:=hm h;refine⟨h1,e,?_⟩;rcases h1 with rfl|h1
  .obtain⟨B,⟨_,x⟩|⟨_,_,x,_⟩⟩:=f
   .exact⟨B,.inl ⟨rfl,x⟩⟩
   .cases x
  .exact f.ac U λq=>s g q (.inl h1)
 mono:=by
  rintro m S S' R R' w cs a ⟨v,rfl,vs,g,F,p,he,V,hm⟩ s A;refine⟨v,rfl,vs,g,λi r=>F i r/\r<w.heap.size,⟨λi r h=>s r h.2 (p.sub i r h.1),λh i f=>p.top h i f.1,λh i j r C h1 f=>p.gP h i j r C h1.1 f.1⟩,
   ⟨he.1,λi c a y z=>au.mono (he.2 i c a y z) (λr q h=>⟨h,q⟩) A⟩,V.mono λr q h=>h.imp (s r q) (A r q),λh=>?_⟩
  obtain⟨h1,e,f⟩:=hm h;refine⟨?_,e,f⟩;obtain⟨_,⟨x,_⟩|⟨_,_,x,E,_⟩⟩:=f
  .exact .inl x
  .rcases h1 with h1|h1
   .exact .inl h1
   .exact .inr (s g E.lt h1)
 jb:=by
  rintro m S R w cs a ⟨v,rfl,vs,g,F,p,he,V,hm⟩;exact⟨v,rfl,vs,g,λ_ _=>False,⟨λ_ _ h=>h,(λh=>by cases h),λh=>by cases h⟩,
   ⟨he.1,λi c a y z=>au.mono (au.jb (he.2 i c a y z)) (λ_ _ h=>h) λr _ h=>h.imp (p.sub i r) id⟩,V.mono λr _ h=>.inr h,λh=>by cases h⟩
end
section
variable{P:W9}{w:x3}{α β:Type}[au α][au β]{m:Bool}{S R:ak}
theorem kC{l:List α}(h:au.rep m S R w [v] l):∃(vs:List (List x1))(g:Nat)(F:Nat->ak),BF m S g F/\n1 m R F w vs l/\lM (λr=>S r\/R r) w (au.n α) v l.length vs.flatten/\
  (m=true->(v= .slice ν 0 0\/S g)/\∃e,b1 w g e (au.n α) v l.length vs.flatten):=by
 obtain⟨_,a,h⟩:=h;cases a;exact h
theorem gQ{a:α}(h:au.rep m S R w [v] a):v.oneCell'=true:=au.one h v (.head _)
theorem rB{l:List α}(h:au.rep m S R w [v] l):v.cells= #[v]:=by
 obtain⟨_,_,_,_,_,⟨_,_,_,_,_,rfl,_⟩,_⟩:=kC h;rfl
theorem rC{l:List α}(h:au.rep m S R w [v] l):l.length<=9223372036854775807:=by
 obtain⟨_,_,_,_,_,h,_⟩:=kC h;have:=h.sl.le;simpa[maxLen]using this
theorem iH:au.rep m S R w [.slice ν 0 0] ([]:List α):=
 ⟨_,F,[],0,λ_ _=>False,⟨λ_ _ h=>h.elim,λ_ _ h=>h,λ_ _ _ _ _ h=>h.elim⟩,⟨F,λi c a e=>by simp at e⟩,
  ⟨Ξ,0,0,ν,0,F,o4 _,X8 _,λh=>absurd h (Nat.lt_irrefl _),λh=>by simp at h,λj v h=>by simp at h⟩,
  λ_=>⟨.inl F,0,b1.nil w 0 0 _⟩⟩
theorem BG{F:Nat->ak}{vs:List (List x1)}(h:n1 m R F w vs l):vs.flatten=ints .i64 l:=by
 have:vs=l.map λx=>[U3 .i64 x]:=by
  apply List.ext_getElem
  .simp[h.1]
  .intro i h1 a;have e:i<l.length:=by simpa using a
   have:=h.2 i _ _ (x6 h1) (x6 e);rw[List.getElem_map];exact this
 subst this;clear h;induction l with
 |nil=>rfl
 |cons x l f=>simp only[T3,List.flatten_cons,f];rfl
theorem c3(h:au.rep m S R w [v] l):aK .i64 w v l:=by
 obtain⟨vs,g,F,_,he,V,_⟩:=kC h;have:=V.sl;rw[BG he]at this;exact this
theorem jh{a:p8}{l:List α}(f:P.underlying t=σ (.slice e))(h:au.rep m S R w [v] l):
  ad P (U1 #[t] a #[v]) w K=K (Δ l.length):=by
 obtain⟨_,_,_,_,_,⟨_,_,_,_,_,rfl,_⟩,_⟩:=kC h;exact ii f
theorem lN{x:n9}{i b:Nat}{l:List α}{a:α}(A:y=(i:Int))(B:P.underlying t=σ (.slice e))(hi:aS P e (au.n α) b z)(h:au.rep m S R w [v] l)(f:l[i]?=σ a)(C:∀b o cs,w.rangeAt b o cs->au.rep m S R w cs a->K (.pointer (σ ⟨b,o,ν⟩))):ad P (c9 t v (.int x y)) w K:=by
 subst A;obtain⟨vs,g,F,E,he,⟨_,b,o,base,cap,rfl,_,_,G,_,H⟩,_⟩:=kC h;have p:=(x4.1 f).1;rw[fe B hi p G];obtain⟨c,q⟩:∃c,vs[i]?=σ c:=⟨_,x6 (by rw[he.1];exact p)⟩;have s:=he.2 i c a q f;have:=au.len s;refine C _ _ c (λj u hu=>?_) (au.mono s (λr _ h=>E.sub i r h) λ_ _ h=>h);have:=(x4.1 hu).1;rw[Q1];refine H (i*au.n α+j) u ?_;rw[pa he.len q Ω];exact hu
theorem il{r:n9}{i b:Nat}{l:List α}{a:α}(s:au.n α=1)(x:y=(i:Int))(A:P.underlying t=σ (.slice e))(hi:aS P e (au.n α) b z)(h1:k5 P e=true)(h:au.rep m S R w [v] l)(B:l[i]?=σ a)(C:∀u,au.rep m S R w [u] a->K u):
  ad P (c9 t v (.int r y)) w λp=>ad P (u5 e p) w K:=by
 refine lN x A hi h B λb o cs E f=>?_;have q:=au.len f;rw[s]at q;obtain⟨u,rfl⟩:=V7.1 q;rw[ax h1 (by have:=E 0 u F;simpa using this)];exact C u f
theorem nl{q:List (Nat×Nat)}{r:n9}{i b:Nat}{l:List α}{a:α}(hu:bK P e q)(s:y=(i:Int))(x:P.underlying t=σ (.slice e))(hi:aS P e (au.n α) b z)(h:au.rep m S R w [v] l)(A:l[i]?=σ a)(B:∀cs,au.rep m S R w cs a->K (.agg cs.toArray)):
  ad P (c9 t v (.int r y)) w λp=>ad P (u5 e p) w K:=by
 refine lN s x hi h A λb o cs C f=>?_;rw[bN hu hi (au.len f) C];exact B cs f
theorem qi{g:Nat}{k:Nat}(h:b1 w g e k v n xs)(a:v= .slice ν 0 0\/S g):lM S w k v n xs:=by
 obtain⟨h1,⟨rfl,rfl⟩|⟨cap,cs,rfl,f,p,q,s,r⟩⟩:=h
 .have:xs=[]:=b6 (by simpa using h1);subst this;exact⟨Ξ,0,0,ν,0,F,o4 _,X8 _,λh=>absurd h (Nat.lt_irrefl _),λh=>by simp at h,λj v h=>by simp at h⟩
 .refine⟨h1,g,0,_,cap,F,p,q,λ_=>rfl,λ_=>a.resolve_left Ξ,λj v ae=>?_⟩;rw[W0];have x:=(x4.1 ae).1;rw[<-r,Y2 Ω]at ae;exact f.cell ae
open Classical in
theorem K1{T Y Z:p8}{b:Nat}{x:x1}{us:List (List x1)}{l fI:List α}{G:Nat->ak}{K:x1->x3->Prop}(aa:P.underlying t=σ (.slice e))(ab:P.underlying T=σ (.slice Y))(hi:aS P e (au.n α) b z)(ad:z.cells.size=au.n α)(h:bG S R w [v] l)(U:cf w (au.n α) x fI.length us.flatten)(I:n1 true R G w us fI)(af:∀i j r,i≠j->G i r->¬G j r)(C:∀r,r<w.heap.size->S r->(∀i,¬G i r)/\¬R r)(ag:(l.length+fI.length)*b<=140737488355328)(ah:l.length+fI.length<=9223372036854775807)(aj:∀p J,bG (λr=>S r\/(∃i,G i r)\/w.heap.size<=r) R J [p] (l++fI)->ai S w J->K p J):aF P (Z5 #[t,T] Z #[v,x]) w K:=by
 obtain⟨vs,g,F,y,he,V,hm⟩:=kC h;obtain⟨L,ap,W⟩:=hm rfl;refine Bz aa ab hi ad W U I.one ag (by simpa[maxLen]using ah) ?_;intro p E J al am M N;have O:∀r,r=g/\v≠ .slice ν 0 0->S r:=λr ⟨h1,f⟩=>h1▸L.resolve_left f;have an:=W;have Q:(p= .slice ν 0 0)\/(E=g/\S g/\g<w.heap.size)\/E=w.heap.size:=by
  rcases am with⟨h1,_,f|f⟩|⟨h1,_⟩
  .rcases L with q|q
   .exact .inl (f▸q)
   .obtain⟨_,⟨s,_⟩|⟨_,_,_,s,_⟩⟩:=an
    .exact .inl (f▸s)
    .exact .inr (.inl ⟨h1,q,s.lt⟩)
  .exact .inr (.inl ⟨h1,L.resolve_left f.2,f.1⟩)
  .exact .inr (.inr h1)
 refine aj p J ⟨p,rfl,vs++us,if p= .slice ν 0 0 then w.heap.size else E,λi r=>if i<l.length then F i r/\r<w.heap.size else G (i-l.length) r/\r<w.heap.size,⟨λi r h=>?_,λ_ i h=>?_,λ_ i j r ao h1 f=>?_⟩,⟨by simp[he.1,I.1],λi c a hi H=>?_⟩,?_,λ_=>⟨?_,al,?_⟩⟩ (N.mono λr _ h=>O r h)
 .split at h
  .exact .inl (y.sub i r h.1)
  .exact .inr (.inl ⟨_,h.1⟩)
 .have A:(if p= .slice ν 0 0 then w.heap.size else E)<w.heap.size:=by split at h<;>exact h.2
  split at A
  .omega
  .rename_i ae;rw[if_neg ae]at h;rcases Q with h1|⟨rfl,f,q⟩|h1
   .exact ae h1
   .split at h
    .exact y.top rfl i h.1
    .exact (C _ q f).1 _ h.1
   .omega
 .split at h1<;>split at f
  .exact y.gP rfl i j r ao h1.1 f.1
  .exact (C r h1.2 (y.sub i r h1.1)).1 _ f.1
  .exact (C r h1.2 (y.sub j r f.1)).1 _ h1.1
  .exact af (i-l.length) (j-l.length) r Ω h1.1 f.1
 .have X:∀r,r<w.heap.size->R r->¬(r=g/\v≠ .slice ν 0 0):=λr B h1 f=>(C r B (O r f)).2 h1;by_cases A:i<l.length
  .rw[X0 (by rw[he.1];exact A)]at hi;rw[X0 A]at H;simp only[if_pos A];refine au.ac (n0 (he.2 i c a hi H)) N λr B h1 f=>?_;rcases h1 with h1|h1
   .exact y.top rfl i (f.1▸h1.1)
   .exact X r B h1 f
  .rw[X1 (by rw[he.1];omega),he.1]at hi;rw[X1 Ω]at H;simp only[if_neg A];refine au.ac (n0 (I.2 _ c a hi H)) N λr B h1 f=>?_;rcases h1 with h1|h1
   .exact (C r B (O r f)).1 _ h1.1
   .exact X r B h1 f
 .rw[r8,List.flatten_append];refine qi M ?_;rcases Q with h1|⟨rfl,f,_⟩|rfl
  .exact .inl h1
  .exact .inr (.inl (.inl f))
  .exact .inr (.inl (.inr (.inr (o4 _))))
 .rcases Q with h1|⟨rfl,f,_⟩|rfl
  .exact .inl h1
  .by_cases ae:p= .slice ν 0 0
   .exact .inl ae
   .rw[if_neg ae];exact .inr (.inl f)
  .split
   .exact .inr (.inr (.inr (o4 _)))
   .exact .inr (.inr (.inr (o4 _)))
 .rw[r8,List.flatten_append];by_cases ae:p= .slice ν 0 0
  .subst ae;obtain⟨q,⟨_,s⟩|⟨_,_,s,_⟩⟩:=M
   .exact⟨q,.inl ⟨rfl,s⟩⟩
   .cases s
  .rw[if_neg ae];exact M
theorem pb{F:p8}{b:Nat}{x:x1}{l:List α}{a:α}{A:ak}{K:x1->x3->Prop}(B:P.underlying t=σ (.slice e))(hi:aS P e (au.n α) b z)(H:z.cells.size=au.n α)(h:bG S R w [v] l)(U:cf w (au.n α) x 1 cs)(I:bG A R w cs a)(C:∀r,r<w.heap.size->S r->¬(A r\/R r))(f:(l.length+1)*b<=140737488355328)(L:l.length+1<=9223372036854775807)(M:∀p J,bG (λr=>S r\/A r\/w.heap.size<=r) R J [p] (l++[a])->ai S w J->K p J):aF P (Z5 #[t,t] F #[v,x]) w K:=by
 refine K1 (us:=[cs]) (G:=λi r=>i=0/\A r) B B hi H h (by simpa using U) ⟨rfl,λi c b q f=>?_⟩ (λi j r N h1 s=>N (h1.1.trans s.1.symm)) (λr E V=>⟨λi h=>C r E V (.inl h.2),λh=>C r E V (.inr h)⟩) (by simpa using f) (by simpa using L)
  λp J h1 s=>M p J (au.mono h1 (λr _ h=>h.imp id (Or.imp (λ⟨_,h⟩=>h.2) id)) λ_ _ h=>h) s
 have y:=(x4.1 q).1;have y:i=0:=by simpa using y
 subst y;simp at q f;subst q f;exact au.mono I (λr _ h=>⟨rfl,h⟩) λ_ _ h=>h
end
theorem BH:∀(c:List x1)(i:Nat)(z:Array x1),(i+c.length<=z.size)->((c.zipIdx i).foldl (λcs (x:x1×Nat)=>cs.setIfInBounds x.2 x.1) z).toList=z.toList.take i++c++z.toList.drop (i+c.length)
 |[],i,z,h=>Ξ
 |x::r,i,z,h=>by
  simp only[b9]at h;rw[List.zipIdx_cons,S8,BH r (i+1) _ Θ];simp only[Array.toList_setIfInBounds,b9];rw[List.drop_set_of_lt Ω,List.take_set,u9,x6 Θ];simp only[j4];rw[S2 _ _ Θ];have e:i-(z.toList.take i).length=0:=Θ
  rw[e,show i+1+r.length=i+(r.length+1) by omega];simp
theorem BI{k:Nat}{z:Array x1}(a:z.size=k)(ae:v.cells.size=k):Instr.fill (λj=>σ (j*k,k)) z [(0,v)]=σ v.cells:=by
 have h:=BH v.cells.toList 0 z Θ;simp only[Instr.fill,Nat.zero_mul,W0];rw[if_neg Θ];congr 1;apply Array.toList_inj.1;rw[<-Array.foldl_toList,Array.toList_zipIdx,h];simp;omega
section
variable{P:W9}{w:x3}{α β:Type}[au α][au β]{m:Bool}{S R:ak}
theorem lO{b:Nat}{x:x1}{a:α}{A:ak}{K:x1->x3->Prop}(B:P.underlying t=σ (.slice e))(hi:aS P e (au.n α) b z)(L:au.n α<=100000)(U:x.cells=cs.toArray)(q:bG A R w cs a)(C:∀v J,Ext w J->bG (λr=>A r\/w.heap.size<=r) R J [v] [a]->cf J (au.n α) v 1 cs->K v J):aF P (Y5 t 1 #[(0,x)]) w K:=by
 have E:=au.len q;refine lK B hi Ω (cs:=x.cells) (BI Ξ (by rw[U];simpa using E)) λg J M s f=>?_;have f:ah J g e cs:=by rw[U]at f;simpa using f
 have hm:b1 J g e (au.n α) (.slice (σ ⟨g,0,ν⟩) 1 1) 1 cs:=b1.full f Ω (by simp[maxLen]);refine C _ J s ⟨_,rfl,[cs],g,λi r=>i=0/\A r/\r<w.heap.size,⟨λi r h=>.inl h.2.1,λ_ i h=>Ω,λ_ i j r F h1 G=>F (h1.1.trans G.1.symm)⟩,⟨rfl,λi c a' p y=>?_⟩,?_,λ_=>⟨.inr (.inr Ω),e,by simpa using hm⟩⟩ hm.sl
 .have H:i=0:=by simpa using(x4.1 p).1
  subst H;simp at p y;subst p y;exact bE (au.mono q (λr I h=>⟨rfl,h,I⟩) λ_ _ h=>h) s
 .have:=qi (S:=λr=>(A r\/w.heap.size<=r)\/R r) hm (.inr (.inl (.inr Ω)));simpa using this
end
theorem cq.range{B:x1->x3->(x1->x3->Prop)->Prop}(n:Nat)(I:Nat->x3->Prop)(q:n<=9223372036854775807)(e:I 0 w)(f:∀(i:Nat)(w:x3)(k:x1->x3->Prop),i<n->I i w->(∀J,I (i+1) J->k (Δ (W5.wrap ((i:Int)+1))) J)->B (Δ (i:Int)) w k)(p:∀(w:x3)(k:x1->x3->Prop),I n w->B (Δ (n:Int)) w k):cq (Δ 0) w B:=by
 refine⟨λt w=>∃i:Nat,t=Δ (i:Int)/\i<=n/\I i w,λt _=>n-(bT t).toNat,⟨0,F,X8 _,e⟩,?_⟩;rintro _ w ⟨i,rfl,hi,h⟩;by_cases a:i<n
 .refine f i w _ a h λJ a7=>⟨⟨i+1,?_,a,a7⟩,?_⟩
  .rw[wrap_i64 Ω Ω];rfl
  .rw[wrap_i64 Ω Ω];simp only[bT];omega
 .have:i=n:=Ω
  subst this;exact p w _ h
theorem bV.range{a:x1}{B:x1->x1->x3->(x1->x1->x3->Prop)->Prop}(n:Nat)(I:Nat->x1->x3->Prop)(r:n<=9223372036854775807)(f:I 0 a w)(p:∀(i:Nat)(a:x1)(w:x3)(k:x1->x1->x3->Prop),i<n->I i a w->(∀a' J,I (i+1) a' J->k a' (Δ (W5.wrap ((i:Int)+1))) J)->B a (Δ (i:Int)) w k)(q:∀(a:x1)(w:x3)(k:x1->x1->x3->Prop),I n a w->B a (Δ (n:Int)) w k):bV a (Δ 0) w B:=by
 refine⟨λa t w=>∃i:Nat,t=Δ (i:Int)/\i<=n/\I i a w,λa t _=>n-(bT t).toNat,⟨0,F,X8 _,f⟩,?_⟩;rintro a _ w ⟨i,rfl,hi,h⟩;by_cases e:i<n
 .refine p i a w _ e h λa' J a7=>⟨⟨i+1,?_,e,a7⟩,?_⟩
  .rw[wrap_i64 Ω Ω];rfl
  .rw[wrap_i64 Ω Ω];simp only[bT];omega
 .have:i=n:=Ω
  subst this;exact q a w _ h
theorem mg.range{a b:x1}{B:x1->x1->x1->x3->(x1->x1->x1->x3->Prop)->Prop}(n:Nat)(I:Nat->x1->x1->x3->Prop)(s:n<=9223372036854775807)(p:I 0 a b w)(q:∀(i:Nat)(a b:x1)(w:x3)(k:x1->x1->x1->x3->Prop),i<n->I i a b w->(∀a' e J,I (i+1) a' e J->k a' e (Δ (W5.wrap ((i:Int)+1))) J)->B a b (Δ (i:Int)) w k)(r:∀(a b:x1)(w:x3)(k:x1->x1->x1->x3->Prop),I n a b w->B a b (Δ (n:Int)) w k):mg a b (Δ 0) w B:=by
 refine⟨λa b t w=>∃i:Nat,t=Δ (i:Int)/\i<=n/\I i a b w,λa b t _=>n-(bT t).toNat,⟨0,F,X8 _,p⟩,?_⟩;rintro a b _ w ⟨i,rfl,hi,h⟩;by_cases f:i<n
 .refine q i a b w _ f h λa' e J a7=>⟨⟨i+1,?_,f,a7⟩,?_⟩
  .rw[wrap_i64 Ω Ω];rfl
  .rw[wrap_i64 Ω Ω];simp only[bT];omega
 .have:i=n:=Ω
  subst this;exact r a b w _ h
theorem tq.range{a b c:x1}{B:x1->x1->x1->x1->x3->(x1->x1->x1->x1->x3->Prop)->Prop}(n:Nat)(I:Nat->x1->x1->x1->x3->Prop)(x:n<=9223372036854775807)(q:I 0 a b c w)(r:∀(i:Nat)(a b c:x1)(w:x3)(k:x1->x1->x1->x1->x3->Prop),i<n->I i a b c w->(∀a' e f J,I (i+1) a' e f J->k a' e f (Δ (W5.wrap ((i:Int)+1))) J)->B a b c (Δ (i:Int)) w k)(s:∀(a b c:x1)(w:x3)(k:x1->x1->x1->x1->x3->Prop),I n a b c w->B a b c (Δ (n:Int)) w k):tq a b c (Δ 0) w B:=by
 refine⟨λa b c t w=>∃i:Nat,t=Δ (i:Int)/\i<=n/\I i a b c w,λa b c t _=>n-(bT t).toNat,⟨0,F,X8 _,q⟩,?_⟩;rintro a b c _ w ⟨i,rfl,hi,h⟩;by_cases p:i<n
 .refine r i a b c w _ p h λa' e f J a7=>⟨⟨i+1,?_,p,a7⟩,?_⟩
  .rw[wrap_i64 Ω Ω];rfl
  .rw[wrap_i64 Ω Ω];simp only[bT];omega
 .have:i=n:=Ω
  subst this;exact s a b c w _ h
theorem rh.range{a b c d:x1}{B:x1->x1->x1->x1->x1->x3->(x1->x1->x1->x1->x1->x3->Prop)->Prop}(n:Nat)(I:Nat->x1->x1->x1->x1->x3->Prop)(y:n<=9223372036854775807)(r:I 0 a b c d w)(s:∀(i:Nat)(a b c d:x1)(w:x3)(k:x1->x1->x1->x1->x1->x3->Prop),i<n->I i a b c d w->(∀a' e f p J,I (i+1) a' e f p J->k a' e f p (Δ (W5.wrap ((i:Int)+1))) J)->B a b c d (Δ (i:Int)) w k)(x:∀(a b c d:x1)(w:x3)(k:x1->x1->x1->x1->x1->x3->Prop),I n a b c d w->B a b c d (Δ (n:Int)) w k):rh a b c d (Δ 0) w B:=by
 refine⟨λa b c d t w=>∃i:Nat,t=Δ (i:Int)/\i<=n/\I i a b c d w,λa b c d t _=>n-(bT t).toNat,⟨0,F,X8 _,r⟩,?_⟩;rintro a b c d _ w ⟨i,rfl,hi,h⟩;by_cases q:i<n
 .refine s i a b c d w _ q h λa' e f p J a7=>⟨⟨i+1,?_,q,a7⟩,?_⟩
  .rw[wrap_i64 Ω Ω];rfl
  .rw[wrap_i64 Ω Ω];simp only[bT];omega
 .have:i=n:=Ω
  subst this;exact x a b c d w _ h
section
variable{P:W9}{w:x3}{m:Bool}{S R:ak}
theorem K2(l:Λ):(l.map λx=>[U3 k x]).flatten=ints k l:=by
 induction l with
 |nil=>rfl
 |cons x l a=>simp only[T3,List.flatten_cons,a];rfl
theorem pc{g:Nat}(h:ay .i64 e w g v l):bG (λr=>r=g) R w [v] l:=by
 have af:(l.map λx=>[U3 .i64 x]).flatten=ints .i64 l:=K2 l;refine⟨v,F,l.map λx=>[Δ x],g,λ_ _=>False,⟨λ_ _ h=>h.elim,λ_ _ h=>h,λ_ _ _ _ _ h=>h.elim⟩,⟨Ξ,λi c a f p=>?_⟩,?_,λ_=>⟨.inr F,e,?_⟩⟩
 .rw[x8,p]at f;simp at f;exact f.symm
 .rw[af];exact qi h (.inr (.inl F))
 .rw[af];exact h
def nk.val(x:nk k):Int:=x
theorem BJ(h:bG S R w [v] l):∃g e,ay .i64 e w g v l/\(v= .slice ν 0 0\/S g):=by
 obtain⟨vs,g,F,_,he,V,hm⟩:=kC h;obtain⟨h1,e,a⟩:=hm rfl;rw[BG he]at a;exact⟨g,e,a,h1⟩
end
end Go.Vc
namespace Go.Proofs.YtikkpokkcdocoabGreatDoor
open Go Go.Vc Go.RowKit Go.Proofs Go.Proofs.Tryz
set_option maxRecDepth 100000
def right(k:Int):Prop:=1<=k/\k<=2147483648
def ct(a k:Int):Prop:=right k/\0<=a/\a<=k
instance (k:Int):Decidable (right k):=by unfold right;infer_instance
instance (a k:Int):Decidable (ct a k):=by unfold ct;infer_instance
theorem BK{k:Int}:an x7 J9 [Δ k] w λv J=>v= .bool (decide (right k))/\Ext w J:=by
 refine aA func225 ?_;simp only[cw,cO,nf,am];refine⟨λh=>⟨?_,Ext.refl _⟩,λh=>⟨?_,Ext.refl _⟩⟩
 .congr 1;simp[right,h]
 .rw[decide_eq_false];intro a;exact h a.1
theorem k7{k:Int}:an x7 Jn [Δ a,Δ k] w λv J=>v= .bool (decide (ct a k))/\Ext w J:=by
 refine aA func152 ?_;simp only[cw];refine BK.mono ?_;rintro _ aa _ ⟨rfl,U⟩;simp only[cO,nf,am];refine⟨λh=>⟨λe=>⟨?_,U⟩,λe=>⟨?_,U⟩⟩,λh=>⟨?_,U⟩⟩
 .congr 1;simp[ct,h,e]
 .rw[decide_eq_false];intro f;exact e f.2.1
 .rw[decide_eq_false];intro f;exact h f.1
theorem K3{k:Int}:an x7 J2 [Δ k] w λv J=>v= .bool (decide (right k))/\Ext w J:=by
 refine aA func216 ?_;simp only[cw,bL,nf,am];refine⟨λh=>⟨?_,Ext.refl _⟩,λh=>⟨?_,Ext.refl _⟩⟩
 .congr 1;have a7:1<=k:=Ω
  simp[right,a7]
 .rw[decide_eq_false];intro a;have:=a.1;omega
theorem BL{k:Int}:an x7 I8 [Δ a,Δ k] w λv J=>v= .bool (decide (ct a k))/\Ext w J:=by
 refine aA func135 ?_;simp only[cw];refine K3.mono ?_;rintro _ aa _ ⟨rfl,U⟩;simp only[cO,nf,am];refine⟨λh=>⟨λe=>⟨?_,U⟩,λe=>⟨?_,U⟩⟩,λh=>⟨?_,U⟩⟩
 .congr 1;simp[ct,h,e]
 .rw[decide_eq_false];intro f;exact e f.2.1
 .rw[decide_eq_false];intro f;exact h f.1
def aR:Λ->Int
 |[]=>1
 |x::r=>x*aR r
theorem BM:∀(a b:Λ),aR (a++b)=aR a*aR b
 |[],b=>by simp[aR]
 |x::a,b=>by simp[aR,BM a b,Int.mul_assoc]
theorem tY{i:Nat}{x:Int}(h:l[i]?=σ x):aR (l.take (i+1))=aR (l.take i)*x:=by
 rw[u9,h,BM];simp[aR]
def cb(l:Λ):Prop:=l.length<=6/\∀x∈l,1<=x/\x<=32
theorem cb.take(h:cb l)(i:Nat):cb (l.take i):=⟨by rw[j6];have:=h.1;omega,λx U=>h.2 x (S4 U)⟩
theorem cb.drop(h:cb l)(i:Nat):cb (l.drop i):=⟨by rw[List.length_drop];have:=h.1;omega,λx U=>h.2 x (List.mem_of_mem_drop U)⟩
theorem n2:∀(l:Λ),(∀x∈l,1<=x/\x<=32)->1<=aR l/\aR l<=32 ^ l.length
 |[],_=>by simp[aR]
 |x::r,h=>by
  obtain⟨h1,a⟩:=n2 r λy e=>h y (.tail _ e);obtain⟨f,p⟩:=h x (.head _);simp only[aR,b9];constructor
  .have:=Int.mul_le_mul f h1 Ω Ω;simpa using this
  .have:=Int.mul_le_mul p a Ω Ω;rw[Int.pow_succ];rw[Int.mul_comm (32 ^ r.length) 32];exact this
theorem prod_bound(h:cb l):1<=aR l/\aR l<=1073741824:=by
 obtain⟨h1,a⟩:=n2 l h.2;refine⟨h1,Int.le_trans a ?_⟩;have:(32:Int) ^ l.length<=32 ^ 6:=by
  have e:=h.1
  match l.length,e with
  |0,_=>decide
  |1,_=>decide
  |2,_=>decide
  |3,_=>decide
  |4,_=>decide
  |5,_=>decide
  |6,_=>decide
 simpa using this
def cn:Λ->Λ->Int->Option Int
 |[],[],n=>σ n
 |k::s,v::t,n=>if 0<=v/\v<k then cn s t (n*k+v)else ν
 |_,_,_=>ν
theorem w4:∀(s t:Λ)(n:Int),s.length≠t.length->cn s t n=ν
 |[],[],_,h=>absurd F h
 |[],_::_,_,_=>rfl
 |_::_,[],_,_=>rfl
 |k::s,v::t,n,h=>by
  unfold cn;split
  .exact w4 s t _ (by simpa using h)
  .rfl
def dk:Λ->Int->Λ
 |[],_=>[]
 |k::s,n=>(n / aR s) % k::dk s n
theorem kD:∀(s:Λ)(n:Int),(dk s n).length=s.length
 |[],_=>rfl
 |_::s,n=>by simp[dk,kD s n]
theorem BN:∀{s:Λ}{n:Int}{i:Nat}{k:Int},s[i]?=σ k->(dk s n)[i]?=σ ((n / aR (s.drop (i+1))) % k)
 |a::s,n,0,k,h=>by simp at h;subst h;simp[dk]
 |a::s,n,i+1,k,h=>by
  simp only[List.getElem?_cons_succ]at h;simp only[dk,List.getElem?_cons_succ,List.drop_succ_cons];exact BN h
theorem pd:∀{s t:Λ}{m n:Int},(∀x∈s,1<=x/\x<=32)->cn s t m=σ n->m*aR s<=n/\n<(m+1)*aR s
 |[],[],m,n,_,h=>by simp[cn]at h;subst h;simp[aR];omega
 |k::s,v::t,m,n,V,h=>by
  unfold cn at h;split at h
  .rename_i ae;have a:=pd (λx U=>V x (.tail _ U)) h;have:=(n2 s λx U=>V x (.tail _ U)).1;simp only[aR];have e:m*(k*aR s)=m*k*aR s:=(Int.mul_assoc _ _ _).symm;have f:(m+1)*(k*aR s)=(m*k+k)*aR s:=by rw[<-Int.mul_assoc,Int.add_mul,Int.one_mul]
   rw[e,f];constructor
   .refine Int.le_trans ?_ a.1;exact Int.mul_le_mul_of_nonneg_right Ω Ω
   .refine Int.lt_of_lt_of_le a.2 ?_;exact Int.mul_le_mul_of_nonneg_right Ω Ω
  .cases h
 |[],_::_,_,_,_,h=>by cases h
 |_::_,[],_,_,_,h=>by cases h
def bn:Λ->List (Λ)
 |[]=>[[]]
 |k::s=>(Z4 k.toNat).flatMap λ(v:Nat)=>(bn s).map λt=>(v:Int)::t
theorem jC:∀{s:Λ},(∀x∈s,1<=x/\x<=32)->(bn s).length=(aR s).toNat
 |[],_=>rfl
 |k::s,h=>by
  have a:=jC λx U=>h x (.tail _ U);have:=h k (.head _);have:=(n2 s λx U=>h x (.tail _ U)).1;simp only[bn,aR,List.length_flatMap,r9,a];rw[List.map_const',S0,List.sum_replicate_nat,Int.toNat_mul Ω Ω]
theorem tZ:∀{s x:Λ},x∈bn s->x.length=s.length
 |[],x,h=>by simp[bn]at h;subst h;rfl
 |k::s,x,h=>by
  simp only[bn,X9,c7]at h;obtain⟨v,_,t,a,rfl⟩:=h;simp[tZ a]
theorem w5{s x:Λ}(h:(bn s)[j]?=σ x):x.length=s.length:=tZ (x5 h)
theorem qj(h:aK .i64 w sv l)(V:cb l):
  an x7 IR [.agg #[sv]] w λv J=>v=Δ (aR l)/\Ext w J:=by
 refine aA func100 ?_;refine bh λg w0 r e f=>?_;rw[aL bD.p 0 f F,aX ao.u (h.ext e)];refine⟨λn t aa=>Ext w aa/\∃i:Nat,t=Δ i/\i<=l.length/\n=Δ (aR (l.take i)),λ_ t _=>l.length-(bT t).toNat,⟨e,0,F,X8 _,F⟩,?_⟩;rintro _ _ aa ⟨U,i,rfl,hi,rfl⟩;have s:=V.1;simp only[aP,am];refine⟨λy=>?_,λz=>⟨?_,U⟩⟩
 .obtain⟨x,a⟩:=aI (l:=l) (i:=i) Ω;rw[be ao.u aj.i Ψ (h.ext U) a];have q:=prod_bound (V.take (i+1));rw[tY a]at q;simp only[jf,aM];rw[wrap_i64 Ω Ω,wrap_i64 Ω Ω,<-tY a];refine⟨⟨U,i+1,F,Ω,F⟩,?_⟩;simp only[bT];omega
 .have:i=l.length:=Ω
  rw[this,o9]
theorem K4{i:Nat}(h:aK .i64 w sv l)(V:cb l)(hi:i<l.length):
  an x7 JA [.agg #[sv],Δ i] w λv J=>v=Δ (aR (l.drop (i+1)))/\Ext w J:=by
 have:=V.1;refine aA func177 ?_;refine bh λg w0 E f r=>?_;have a:=h.ext f;simp only[cw,aP,am];refine⟨λG=>Ω,λ_=>?_⟩;rw[aL bD.p 0 r F,aX ao.u a];simp only[cO,am];refine⟨λH=>Ω,λ_=>?_⟩;rw[aL bD.p 0 r F];simp only[aM];have s:W5.wrap ((i:Int)+1)=((i+1:Nat):Int):=by rw[wrap_i64 Ω Ω];omega
 rw[s];have y:=a;obtain⟨_,b,o,base,cap,rfl,I,K,L,M⟩:=id a;rw[ij ao.u aj.i qf ky ff Ω Ω Ω];have e:=cf.part (l:=i+1) (h:=l.length) (m:=cap) y Ω Ω Ω Ω;generalize z:(x1.slice (if cap=i+1 then base else U4 (λx=>x.add ((i+1)*1)) base) (l.length-(i+1)) (cap-(i+1)))=q at e ⊢;have A:((ints .i64 l).drop ((i+1)*1)).take ((l.length-(i+1))*1)=ints .i64 (l.drop (i+1)):=by
  rw[Z2 Ξ,U7,ints,<-List.map_drop]
 rw[A]at e;rw[cJ (cs:=#[q]) (by subst z;kernel_rfl)];refine(qj (aK.of e) (V.drop (i+1))).mono ?_;rintro _ ab _ ⟨rfl,B⟩;exact⟨F,f.trans B⟩
def mq(s t:Λ):x1:=match cn s t 0 with
 |some n=>.tuple #[Δ n,Δ 0]
 |none=>.tuple #[Δ 0,Δ 3]
theorem BO{s t:Λ}(h:aK .i64 w sv s)(q:aK .i64 w aN t)(V:cb s):
  an x7 JB [.agg #[sv],aN] w λv J=>v=mq s t/\Ext w J:=by
 have H:=V.1;refine aA func178 ?_;refine bh λg w0 I a r=>?_;rw[aX ao.u (q.ext a),aL bD.p 0 r F,aX ao.u (h.ext a)];simp only[bA,am];refine⟨λK=>⟨?_,a⟩,λz=>?_⟩
 .unfold mq;rw[w4 _ _ _ Ω]
 .have z:s.length=t.length:=Ω
  rw[aX ao.u (q.ext a)];refine⟨λ_ _ n c aa=>Ext w0 aa/\∃(i:Nat)(m:Int),c=Δ i/\i<=t.length/\n=Δ m/\0<=m/\m<aR (s.take i)/\cn s t 0=cn (s.drop i) (t.drop i) m,λ_ _ _ c _=>t.length-(bT c).toNat,
   ⟨Ext.refl _,0,0,F,X8 _,F,Int.le_refl _,by simp[aR],F⟩,?_⟩
  rintro _ _ _ _ aa ⟨f,i,m,rfl,hi,rfl,A,L,e⟩;have U:=a.trans f;simp only[aP,am];refine⟨λM=>?_,λN=>⟨?_,U⟩⟩
  .obtain⟨v,ae,B⟩:∃v,t[i]?=σ v/\t.drop i=v::t.drop (i+1):=⟨t[i],x6 Ω,X5 Ω⟩;obtain⟨k,hk,C⟩:∃k,s[i]?=σ k/\s.drop i=k::s.drop (i+1):=⟨s[i],x6 Ω,X5 Ω⟩;rw[B,C]at e;have E:=prod_bound (V.take (i+1));have O:=prod_bound (V.take i);have P:=V.2 k (x5 hk);rw[tY hk]at E;have y:¬(0<=v/\v<k)->mq s t= .tuple #[Δ 0,Δ 3]:=λG=>by unfold mq;rw[e];simp[cn,G]
   rw[be ao.u aj.i Ψ (q.ext U) ae];simp only[cw,aP,am,bX];refine⟨λQ=>⟨(y Ω).symm,U⟩,λR=>?_⟩;rw[aL bD.p 0 (r.ext f) F,be ao.u aj.i Ψ (h.ext U) hk];simp only[cO,am];refine⟨λS=>⟨(y Ω).symm,U⟩,λW=>?_⟩;rw[aL bD.p 0 (r.ext f) F,be ao.u aj.i Ψ (h.ext U) hk];have X:0<=m*k/\m*k+k<=aR (s.take i)*k:=by
    constructor
    .exact Int.mul_nonneg A Ω
    .have:=Int.mul_le_mul_of_nonneg_right (show m+1<=aR (s.take i) by omega) (show 0<=k by omega);rw[Int.add_mul,Int.one_mul]at this;exact this
   simp only[jf,aM];rw[wrap_i64 (x:=m*k) Ω Ω,wrap_i64 (x:=m*k+v) Ω Ω,wrap_i64 Ω Ω];refine⟨⟨f,i+1,m*k+v,F,Ω,F,Ω,by rw[tY hk];omega,?_⟩,?_⟩
   .rw[e];simp[cn,show 0<=v/\v<k from⟨Ω,Ω⟩]
   .simp only[bT];omega
  .have:i=t.length:=Ω
   rw[this,List.drop_of_length_le Ω,List.drop_of_length_le Ω]at e;unfold mq;rw[e];rfl
theorem K5{e:Nat}{a b:Λ}(h1:cf w 1 s1 e (ints .i64 a))(A:cf w 1 z h (ints .i64 b)):
  an x7 Be [s1,z] w λv J=>v= .bool (decide (a=b))/\Ext w J:=by
 have P:a.length=e:=by simpa using h1.1
 have Q:b.length=h:=by simpa using A.1
 have B:=h1.le;obtain⟨_,R,S,V,W,rfl,X,Y,G,H⟩:=h1;obtain⟨_,Z,ac,ad,ae,rfl,af,ag,I,K⟩:=A;refine aA func195 ?_;simp only[ii ao.u,bA,am];refine⟨λC=>⟨?_,Ext.refl _⟩,λE=>?_⟩
 .rw[decide_eq_false];rintro rfl;omega
 .have E:e=h:=Ω
  refine⟨λt4 p aa=>Ext w aa/\∃i:Nat,p=Δ i/\i<=e/\a.take i=b.take i,λ_ p _=>e-(bT p).toNat,⟨Ext.refl _,0,F,X8 _,F⟩,?_⟩;rintro t4 _ aa ⟨U,i,rfl,hi,q⟩;simp only[aP,am,ey];refine⟨λr ab L _ _=>?_,λah=>⟨?_,U⟩⟩
  .have r:i<e:=Ω
   have U:=U.trans L;obtain⟨x,s⟩:=aI (l:=a) (i:=i) Ω;obtain⟨y,f⟩:=aI (l:=b) (i:=i) Ω;have M:=j1 U (H i _ (lL s));have N:=j1 U (K i _ (lL f));rw[fe ao.u aj.i r G,U7,ax Ψ M,fe ao.u aj.i (E▸r) I,U7,ax Ψ N];simp only[bA,am,aM];refine⟨λC=>⟨?_,U⟩,λai=>⟨⟨U,i+1,?_,Ω,w2 q s f Ω⟩,?_⟩⟩
   .rw[decide_eq_false];rintro rfl;rw[s]at f;cases f;exact C F
   .rw[wrap_i64 Ω (by simp only[maxLen]at B;omega)];rfl
   .rw[wrap_i64 Ω (by simp only[maxLen]at B;omega)];simp only[bT];omega
  .have O:i=e:=Ω
   subst O;rw[decide_eq_true];rw[Z2 Ω,Z2 Ω]at q;exact q
theorem K6{s:x1}{a:Λ}(h1:cf w 1 s n (ints .i64 a))(B:n<=1000000):
  an x7 Ba [s] w λv J=>Ext w J/\∃g,w.heap.size<=g/\b1 J g aj 1 v n (ints .i64 a):=by
 have f:=h1;obtain⟨p,C,E,G,H,rfl,I,K,q,L⟩:=h1;refine aA func159 ?_;simp only[nX ao.u,cd];refine⟨λe=>⟨Ext.refl _,w.heap.size,o4 _,?_⟩,λ_=>?_⟩
 .have:n=0:=by
   rcases Q8 n with h|h
   .exact h
   .rw[q h]at e;cases e
  subst this;have:ints .i64 a=[]:=b6 (by simpa using p);rw[this];exact b1.nil _ _ _ _
 .refine lK ao.u aj.i Ω (cs:=#[]) Ψ ?_;intro g aa M U x;refine o7 ao.u ao.u aj.i F (b1.full x F Ω) (f.ext U) (rz _ _) Ω (by simp only[maxLen];omega) ?_;intro N y ab O z A;refine⟨U.then A (by rintro r P rfl;omega),y,?_,?_⟩
  .have:=U.size;omega
  .simpa using z
theorem K7{e:Nat}{a b:Λ}(h1:cf w 1 s1 e (ints .i64 a))(A:cf w 1 z h (ints .i64 b)):
  an x7 AS [s1,z] w λv J=>v= .bool (decide (a=b))/\Ext w J:=by
 have P:a.length=e:=by simpa using h1.1
 have Q:b.length=h:=by simpa using A.1
 have B:=h1.le;obtain⟨_,R,S,V,W,rfl,X,Y,G,H⟩:=h1;obtain⟨_,Z,ac,ad,ae,rfl,af,ag,I,K⟩:=A;refine aA func17 ?_;simp only[ii az.u,bA,am];refine⟨λC=>⟨?_,Ext.refl _⟩,λE=>?_⟩
 .rw[decide_eq_false];rintro rfl;omega
 .have E:e=h:=Ω
  refine⟨λt4 p aa=>Ext w aa/\∃i:Nat,p=Δ i/\i<=e/\a.take i=b.take i,λ_ p _=>e-(bT p).toNat,⟨Ext.refl _,0,F,X8 _,F⟩,?_⟩;rintro t4 _ aa ⟨U,i,rfl,hi,q⟩;simp only[aP,am,ey];refine⟨λr ab L _ _=>?_,λah=>⟨?_,U⟩⟩
  .have r:i<e:=Ω
   have U:=U.trans L;obtain⟨x,s⟩:=aI (l:=a) (i:=i) Ω;obtain⟨y,f⟩:=aI (l:=b) (i:=i) Ω;have M:=j1 U (H i _ (lL s));have N:=j1 U (K i _ (lL f));rw[fe az.u av.i r G,U7,ax Ψ M,fe az.u av.i (E▸r) I,U7,ax Ψ N];simp only[bA,am,aM];refine⟨λC=>⟨?_,U⟩,λai=>⟨⟨U,i+1,?_,Ω,w2 q s f Ω⟩,?_⟩⟩
   .rw[decide_eq_false];rintro rfl;rw[s]at f;cases f;exact C F
   .rw[wrap_i64 Ω (by simp only[maxLen]at B;omega)];rfl
   .rw[wrap_i64 Ω (by simp only[maxLen]at B;omega)];simp only[bT];omega
  .have O:i=e:=Ω
   subst O;rw[decide_eq_true];rw[Z2 Ω,Z2 Ω]at q;exact q
theorem K8{s:x1}{a:Λ}(h1:cf w 1 s n (ints .i64 a))(B:n<=1000000):
  an x7 Bg [s] w λv J=>Ext w J/\∃g,w.heap.size<=g/\b1 J g av 1 v n (ints .i64 a):=by
 have f:=h1;obtain⟨p,C,E,G,H,rfl,I,K,q,L⟩:=h1;refine aA func208 ?_;simp only[nX az.u,cd];refine⟨λe=>⟨Ext.refl _,w.heap.size,o4 _,?_⟩,λ_=>?_⟩
 .have:n=0:=by
   rcases Q8 n with h|h
   .exact h
   .rw[q h]at e;cases e
  subst this;have:ints .i64 a=[]:=b6 (by simpa using p);rw[this];exact b1.nil _ _ _ _
 .refine lK az.u av.i Ω (cs:=#[]) Ψ ?_;intro g aa M U x;refine o7 az.u az.u av.i F (b1.full x F Ω) (f.ext U) (rz _ _) Ω (by simp only[maxLen];omega) ?_;intro N y ab O z A;refine⟨U.then A (by rintro r P rfl;omega),y,?_,?_⟩
  .have:=U.size;omega
  .simpa using z
theorem K9{e:x1}{a b:Λ}(h1:aK .i64 w s1 a)(f:aK .i64 w e b):
  an x7 Be [s1,e] w λv J=>v= .bool (decide (a=b))/\Ext w J:=K5 h1 f
theorem lP{s:x1}{a:Λ}(h1:aK .i64 w s a)(e:a.length<=1000000):
  an x7 Ba [s] w λv J=>Ext w J/\∃g,w.heap.size<=g/\ay .i64 aj J g v a:=K6 h1 e
theorem La{e:x1}{a b:Λ}(h1:aK .i64 w s1 a)(f:aK .i64 w e b):
  an x7 AS [s1,e] w λv J=>v= .bool (decide (a=b))/\Ext w J:=K7 h1 f
theorem w6{s:x1}{a:Λ}(h1:aK .i64 w s a)(e:a.length<=1000000):
  an x7 Bg [s] w λv J=>Ext w J/\∃g,w.heap.size<=g/\ay .i64 av J g v a:=K8 h1 e
theorem Lb{n:Int}(h:aK .i64 w sv l)(V:cb l)(y:0<=n)(X:n<aR l):
  an x7 IS [.agg #[sv],Δ n] w λv J=>Ext w J/\∃aN g,v= .tuple #[aN,Δ 0]/\w.heap.size<=g/\ay .i64 aj J g aN (dk l n):=by
 have:=V.1;have:=prod_bound V;refine aA func101 ?_;refine bh λg w0 ac z a=>?_;have:=h.cells;simp only[cw,aP,am];refine⟨λae=>Ω,λ_=>?_⟩;rw[bN bD.p bD.i F a.range];refine(qj (h.ext z) V).mono ?_;rintro _ aa _ ⟨rfl,f⟩;simp only[cO,am];refine⟨λaf=>Ω,λ_=>?_⟩;have q:=z.trans f;rw[aL bD.p 0 (a.ext f) F,aX ao.u (h.ext q)];refine k6 ao.u aj.i Ω Ω ?_;intro G ab ag A L;simp only[ii ao.u];have M:=q.trans A;have:=z.size;have:=f.size;have:=a.lt;refine⟨λt s=>Ext w s/\Ext w0 s/\∃i:Nat,t=Δ i/\i<=l.length/\ah s G aj (ints .i64 ((dk l n).take i++o8 (l.length-i) 0)),λt _=>l.length-(bT t).toNat,
  ⟨M,f.trans A,0,F,X8 _,by simpa using L⟩,?_⟩
 rintro _ s ⟨B,C,i,rfl,hi,H⟩;simp only[aP,am];refine⟨λE=>?_,λak=>?_⟩
 .have E:i<l.length:=Ω
  rw[bN bD.p bD.i F (a.ext C).range];refine(K4 (h.ext B) V E).mono ?_;rintro _ al _ ⟨rfl,N⟩;simp only[ey];intro ap O _ _;have x:=N.trans O;have I:=B.trans x;obtain⟨k,hk⟩:∃k,l[i]?=σ k:=⟨l[i],x6 Ω⟩;have:=V.2 k (x5 hk);have:=prod_bound (V.drop (i+1));have P:0<=n / aR (l.drop (i+1)):=Int.ediv_nonneg y Ω;have av:n / aR (l.drop (i+1))<=n:=Int.ediv_le_self _ y;rw[tQ Ω,Int.tdiv_eq_ediv_of_nonneg y,wrap_i64 Ω Ω,
   aL bD.p 0 ((a.ext C).ext x) F,be ao.u aj.i Ψ (h.ext I) hk,
   tR Ω,Int.tmod_eq_emod_of_nonneg P,fe ao.u aj.i E (λ_=>rfl),U7]
  refine bp aj.i F rfl (H.ext x) (by simp[kD];omega) ?_;intro aw K ax Q;simp only[aM];rw[wrap_i64 Ω Ω];have:=A.size;have:=q.size;refine⟨⟨I.then K (by rintro r R rfl;omega),(C.trans x).then K (by rintro r R rfl;omega),i+1,F,Ω,?_⟩,?_⟩
  .have S:=BN (n:=n) hk;have e:(ints .i64 ((dk l n).take i++o8 (l.length-i) 0)).set (0+i) (Δ (n / aR (l.drop (i+1)) % k))=ints .i64 ((dk l n).take (i+1)++o8 (l.length-(i+1)) 0):=by
    have U:((dk l n).take i).length=i:=by rw[j6,kD];omega
    rw[W0,ints,<-T0];congr 1;rw[List.set_append,if_neg Ω,U,U9,show l.length-i=(l.length-(i+1))+1 by omega,List.replicate_succ,List.set_cons_zero,u9,S];simp
   rw[<-e];exact Q
  .simp only[bT];omega
 .have W:i=l.length:=Ω
  subst W;refine⟨B,_,G,F,by have:=q.size;omega,ay.of (b1.full ?_ (by simp[ints,kD]) (by simp[maxLen];omega))⟩;have e:(dk l n).take l.length++o8 (l.length-l.length) 0=dk l n:=by rw[U9,Z2 (by rw[kD];omega)];simp
  rw[<-e];exact H
def jD(x:Int):Prop:=1<=x/\x<=32
instance (x:Int):Decidable (jD x):=by unfold jD;infer_instance
theorem Lc{x:Int}:an x7 tM [Δ x] w λv J=>v= .bool (decide (¬jD x))/\Ext w J:=by
 refine aA func290 ?_;simp only[cw,aP,bL,am];refine⟨λh=>⟨?_,Ext.refl _⟩,λh=>⟨?_,Ext.refl _⟩⟩
 .rw[decide_eq_true];intro a;have:=a.1;omega
 .congr 1;have:(32<x)=(¬jD x):=propext ⟨λe a=>by have:=a.2;omega,λe=>by
   by_cases f:32<x
   .exact f
   .exact absurd ⟨Ω,Ω⟩ e⟩
  simp only[this]
theorem Ld(h:aK .i64 w sv l):
  an x7 wM [sv,.func (.func tM) #[] #[]] w λv J=>Ext w J/\∃n:Int,v=Δ n/\((0<=n)=¬∀x∈l,jD x):=by
 have z:=h.le;refine aA func133 ?_;rw[aX ao.u h];refine⟨λ_ t aa=>Ext w aa/\∃i:Nat,t=Δ i/\i<=l.length/\∀x∈l.take i,jD x,λ_ t _=>l.length-(bT t).toNat,⟨Ext.refl _,0,F,X8 _,Ξ⟩,?_⟩;rintro _ _ aa ⟨U,i,rfl,hi,e⟩;simp only[aP,am];refine⟨λA=>?_,λB=>⟨U,-1,F,?_⟩⟩
 .obtain⟨x,f⟩:=aI (l:=l) (i:=i) Ω;rw[be ao.u aj.i Ψ (h.ext U) f];show an x7 tM [Δ x] aa _;refine Lc.mono ?_;rintro _ ab _ ⟨rfl,p⟩;simp only[am,aM];refine⟨λq=>⟨U.trans p,i,F,?_⟩,λr=>?_⟩
  .exact propext ⟨λ_ s=>q (s x (x5 f)),λ_=>Ω⟩
  .rw[wrap_i64 Ω Ω];refine⟨⟨U.trans p,i+1,F,Ω,λy a=>?_⟩,?_⟩
   .rw[u9,f]at a;rcases p9.1 a with a|a
    .exact e y a
    .simp at a;subst a;exact Y3.1 r
   .simp only[bT];omega
 .have:i=l.length:=Ω
  rw[this,o9]at e;exact propext ⟨λh=>Ω,λh=>absurd e h⟩
theorem Le(h:aK .i64 w sv l):
  an x7 wQ [sv,.func (.func tM) #[] #[]] w λv J=>v= .bool (decide (¬∀x∈l,jD x))/\Ext w J:=by
 refine aA func235 ?_;refine(Ld h).mono ?_;rintro _ aa _ ⟨U,n,rfl,a⟩;simp only[cO];exact⟨by congr 1;simp only[a],U⟩
def Lf(w:x3)(l:Λ)(v:x1)(J:x3):Prop:=
 Ext w J/\
   (¬cb l->v= .tuple #[.agg #[.slice ν 0 0],Δ 1])/\
   (cb l->4096<aR l->v= .tuple #[.agg #[.slice ν 0 0],Δ 5])/\
   (cb l->aR l<=4096->∃g aN,v= .tuple #[.agg #[aN],Δ 0]/\w.heap.size<=g/\ay .i64 aj J g aN l)
theorem Lg(h:aK .i64 w sv l):an x7 Ko [sv] w (Lf w l):=by
 refine aA func257 ?_;refine bu bD.i λai aa aj a s=>?_;have:=s.lt;refine aV (λv ab=>Ext w ab/\Ext aa ab/\∃c:Bool,v= .bool c/\((c=true)=¬cb l)) ?_ ?_
 .rintro _ ab ⟨U,x,c,rfl,G⟩;simp only[cd];refine⟨λR=>?_,λaf=>?_⟩
  .have H:¬cb l:=by rw[<-G];exact R
   rw[cJ (cs:=#[.slice ν 0 0]) Ψ];refine b7 (vs:=[.slice ν 0 0]) bD.i F rfl (by simp;rfl) (s.ext x) ?_;intro al S ap W;rw[fM bD.p bD.i F W.range];exact⟨U.then S (by rintro r y rfl;omega),λ_=>rfl,λh=>absurd h H,λh=>absurd h H⟩
  .have e:cb l:=by
    have I:¬(c=true):=by simp[af]
    rw[G]at I;exact Classical.not_not.1 I
   have:=e.1;refine(lP (h.ext U) Ω).mono ?_;rintro aN au _ ⟨z,X,av,hm⟩;have J:=hm.ls.cells;rw[cJ (cs:=#[aN]) (by obtain⟨_,_,_,_,_,rfl,_⟩:=hm.ls;kernel_rfl)];refine bu bD.i λgs aw ax A Y=>?_;refine b7 (vs:=[aN]) bD.i F rfl (by intro u hu;simp at hu;subst hu;exact J.2) Y ?_;intro ay K az L;rw[bN bD.p bD.i F L.range];have:=z.size;have:=A.size;have:=x.size;have:=(A.ac _).trans K;have B:=A.then K (by rintro r y rfl;omega);have Z:=(U.trans z).trans B;have M:=hm.ext B;refine(qj M.ls e).mono ?_;rintro _ aG _ ⟨rfl,f⟩;have N:=Z.trans f;have O:=s.ext (((x.trans z).trans B).trans f);simp only[bL,am];refine⟨λad=>?_,λae=>?_⟩
   .rw[cJ (cs:=#[.slice ν 0 0]) Ψ];refine b7 (vs:=[.slice ν 0 0]) bD.i F rfl (by simp;rfl) O ?_;intro ag q ah C;rw[fM bD.p bD.i F C.range];exact⟨N.then q (by rintro r y rfl;omega),λh=>absurd e h,λ_ _=>rfl,λ_ h=>Ω⟩
   .rw[bN bD.p bD.i F (L.ext f).range];refine b7 (vs:=[aN]) bD.i F rfl (by intro u hu;simp at hu;subst hu;exact J.2) O ?_;intro ag q ah C;rw[fM bD.p bD.i F C.range];have:=a.size;exact⟨N.then q (by rintro r y rfl;omega),λh=>absurd e h,λ_ h=>Ω,λ_ _=>⟨X,aN,F,Ω,(M.ext f).ac q Ω⟩⟩
 .intro aB P;rw[aX ao.u (h.ext a)];simp only[bL,am];refine⟨λad=>P _ _ ⟨a,Ext.refl _,true,F,?_⟩,λae=>?_⟩
  .exact propext ⟨λ_ V=>by have:=V.1;omega,λ_=>rfl⟩
  .refine (Le (h.ext a)).mono ?_;rintro _ ab _ ⟨rfl,Q⟩;refine P _ _ ⟨a.trans Q,Q,_,F,?_⟩;rw[decide_eq_true_eq];exact propext ⟨λE V=>E V.2,λE V=>E ⟨Ω,V⟩⟩
theorem w7{P:W9}(f:0<=a)(h1:a<4294967296):
  ad P (aO .and t cx cy (.int .u64 a) (.int .u64 4294967295)) w K=K (.int .u64 a):=ad.of λJ _=>by
 obtain⟨n,rfl⟩:=W6 f;have:n<4294967296:=Ω
 have e:(T5 64 (n:Int) &&& T5 64 4294967295).toNat=n:=by
  rw[BitVec.toNat_and,BitVec.toNat_ofInt,BitVec.toNat_ofInt];have h:((n:Int) % ((2 ^ 64:Nat):Int)).toNat=n:=Ω
  have p:((4294967295:Int) % ((2 ^ 64:Nat):Int)).toNat=2 ^ 32-1:=Φ
  rw[h,p,Nat.and_two_pow_sub_one_eq_mod];omega
 have q:(T5 T1.bits (n:Int) &&& T5 T1.bits 4294967295).toNat=n:=e;simp only[aO,eqGuard,binOp,Op.intBits,q];rw[wrap_u64 Ω Ω];rfl
theorem rD{P:W9}(f:0<=a)(h1:a<4294967296):
  ad P (aO .shr t cx cy (.int .u64 a) (.int .u64 32)) w K=K (.int .u64 0):=ad.of λJ _=>by
 have e:a.fdiv (2 ^ min 32 T1.bits)=0:=by
  have:(2:Int) ^ min 32 T1.bits=4294967296:=rfl;rw[this,Int.fdiv_eq_ediv_of_nonneg _ Ω];omega
 simp[aO,eqGuard,binOp,Op.shift,e]
theorem Lh{x:Int}(U:0<=x/\x<65536)(a:0<=y/\y<65536):
  an x7 KF [.int .u64 x,.int .u64 y] w λv J=>v= .tuple #[.int .u64 0,.int .u64 (x*y)]/\Ext w J:=by
 have f:0<=x*y/\x*y<4294967296:=⟨Int.mul_nonneg U.1 a.1,by
  have:x*y<=65535*65535:=Int.mul_le_mul Ω Ω a.1 Ω;omega⟩
 refine aA func291 ?_;refine an.mono (K:=λv J=>v= .tuple #[.int .u64 0,.int .u64 (x*y)]/\Ext w J) ?_ ?_
 .refine aA func304 ?_;rw[w7 Ω Ω,rD Ω Ω,w7 Ω Ω,rD Ω Ω];simp only[jf,Int.zero_mul,Int.mul_zero];rw[wrap_u64 Ω Ω,show T1.wrap 0=0 from F,rD Ω Ω];simp only[aM,Int.add_zero];rw[show T1.wrap 0=0 from F,w7 Ω Ω,rD Ω Ω];simp only[jf,aM,Int.zero_mul,Int.mul_zero,Int.add_zero,show T1.wrap 0=0 from F];rw[rD Ω Ω];simp only[jf,aM,Int.add_zero,show T1.wrap 0=0 from F];exact⟨trivial,Ext.refl _⟩
 .rintro _ aa _ ⟨rfl,e⟩;rw[bq,br];exact⟨F,e⟩
theorem BP{dJ:x1}{c:Int}(h:aK .i64 w dJ [c])(W:n<65536):
  an x7 Kp [dJ,Δ n] w λv J=>Ext w J/\∃g,w.heap.size<=g/\ay .i64 av J g v (o8 n c):=by
 refine aA func258 ?_;refine da (λaa=>w=aa) ?_ ?_
 .rintro _ rfl;rw[aX az.u h,fm aj.u qc.u,fm aj.u qc.u,wrap_u64 Ξ Ξ,wrap_u64 Ω Ω];refine(Lh Ξ Ω).mono ?_;rintro _ ab _ ⟨rfl,y⟩;rw[bq,br];have C:(([c].length:Int)*n)=(n:Int):=Ξ
  rw[C];refine da (λa=>ab=a) ?_ ?_
  .rintro _ rfl;rw[fm qc.u aj.u,wrap_i64 Ω Ω];refine k6 az.u av.i Ω Ω ?_;intro g X Y E G;have U:=y.trans E;have Z:=y.size;refine BA az.u av.i G (λ_=>rfl) Ξ (h.ext U) (rz _ _) ?_;intro ac H ad z;have I:=U.then H (by rintro r K rfl;omega);have st:over (ints .i64 (o8 n 0)) 0 ((ints .i64 [c]).take n)=ints .i64 (o8 (min 1 n) c++o8 (n-min 1 n) 0):=by
    rcases Q8 n with rfl|e
    .simp[over]
    .rw[Z2 Θ,nZ Θ];have:min 1 n=1:=Ω
     simp[this,ints]
   rw[st]at z;refine⟨λt f=>Ext w f/\∃i:Nat,t=Δ i/\i<=n/\(0<n->0<i)/\ah f g av (ints .i64 (o8 i c++o8 (n-i) 0)),λt _=>n-(bT t).toNat,
    ⟨I,min 1 n,Ξ,Ω,Ω,z⟩,?_⟩
   rintro _ f ⟨p,i,rfl,hi,ae,q⟩;simp only[ii az.u,aP,am,ey];refine⟨λL M s _ _=>?_,λaf=>?_⟩
   .have L:i<n:=Ω
    have A:=q.ext s;rw[ij az.u av.i qf ky ff Ω Ω Ω,
     ij az.u av.i kx qg ff Ω Ω Ω]
    have N:cf M 1 (.slice (σ ⟨g,0,ν⟩) n n) n (ints .i64 (o8 i c++o8 (n-i) 0)):=(b1.full A (by simp<;>omega) (by simp[maxLen]<;>omega)).sl;have e:=N.part (l:=0) (h:=i) (m:=n) Ω Ω Ω Ω;have O:((ints .i64 (o8 i c++o8 (n-i) 0)).drop (0*1)).take ((i-0)*1)=ints .i64 (o8 i c):=by
     simp[ints]
    rw[O]at e;refine BA az.u av.i A (o:=i) (λ_=>?_) (by simp<;>omega) e (rz _ _) ?_
    .rw[if_neg Ω];simp[T4]
    .intro ag P ai B;have ak:=p.size;have al:=s.size;have Q:over (ints .i64 (o8 i c++o8 (n-i) 0)) i ((ints .i64 (o8 i c)).take (n-i))=ints .i64 (o8 (i+min i (n-i)) c++o8 (n-(i+min i (n-i))) 0):=by
      apply Y9;intro j;rw[nY _ _ _ (by simp[ints]<;>omega)];simp only[ints,Z9,List.map_replicate,List.getElem?_append,List.getElem?_take,List.getElem?_replicate,j6,List.length_replicate]
      repeat' split
      all_goals first|rfl|omega
     rw[Q]at B;have R:min (i-0) (n-i)=min i (n-i):=Ω
     simp only[aM,R];have S:W5.wrap ((i:Int)+((min i (n-i):Nat):Int))=((i+min i (n-i):Nat):Int):=by rw[wrap_i64 Ω Ω];omega
     rw[S];refine⟨⟨(p.trans s).then P (by rintro r K rfl;omega),_,F,Ω,Ω,B⟩,?_⟩;simp only[bT,u7];omega
   .have:i=n:=Ω
    subst this;rw[U9,List.replicate_zero,Y8]at q;exact⟨p,g,Ω,ay.of (b1.full q Ξ (by simp[maxLen];omega))⟩
  .intro aB x;refine aV (λv a=>v= .bool false/\ab=a) ?_ ?_
   .rintro _ _ ⟨rfl,rfl⟩;rw[a8];exact x _ F
   .intro ao V;simp only[bL,am];refine⟨λh=>Ω,λ_=>V _ _ ⟨?_,F⟩⟩;rw[decide_eq_false];omega
 .intro aB x;simp only[aP,am];exact⟨λh=>Ω,λ_=>x _ F⟩
def leads(v:x1)(r:Nat):Prop:=∃a n c,v= .slice (σ a) n c/\a.block=r
theorem bR{g:Nat}(h:ay k e w g v l){r:Nat}(f:leads v r):r=g/\g<w.heap.size:=by
 obtain⟨a,n,c,rfl,rfl⟩:=f;obtain⟨_,⟨h,_⟩|⟨cap,cs,h,p,_⟩⟩:=h
 .cases h
 .cases h;exact⟨F,p.lt⟩
theorem bw{g:Nat}(h:ay k e w g v l)(U:ai S w J)(a:∀r,leads v r->¬S r):ay k e J g v l:=by
 refine⟨h.1,h.2.imp id λ⟨cap,cs,h1,f,p⟩=>⟨cap,cs,h1,f.ac U (a g ⟨_,_,_,h1,F⟩),p⟩⟩
def di(w:x3)(g a:Nat)(sv:x1)(al:Λ)(k:Int)(cs:Λ):Prop:=
 (∃bb gs,ah w g cX [sv,Δ k,bb]/\ay .i64 aj w gs sv al/\ay .i64 av w a bb cs)/\(g≠a/\¬leads sv a/\aR al<=4096)/\cb al/\cs.length=(aR al).toNat
theorem di.ext{g a:Nat}{k:Int}{cs:Λ}(h:di w g a sv al k cs)(U:Ext w J):di J g a sv al k cs:=by
 obtain⟨⟨bb,gs,h1,e,f⟩,p⟩:=h;exact⟨⟨bb,gs,h1.ext U,e.ext U,f.ext U⟩,p⟩
def BQ(w:x3)(l:Λ)(k a:Int)(v:x1)(J:x3):Prop:=
 Ext w J/\
  (¬cb l->v= .tuple #[.pointer ν,Δ 1])/\
  (cb l->4096<aR l->v= .tuple #[.pointer ν,Δ 5])/\
  (cb l->aR l<=4096->¬ct a k->v= .tuple #[.pointer ν,Δ 3])/\
  (cb l->aR l<=4096->ct a k->∃g e sv,v= .tuple #[Γ g,Δ 0]/\w.heap.size<=g/\w.heap.size<=e/\(∀r,leads sv r->w.heap.size<=r)/\
   di J g e sv l k (o8 (aR l).toNat a))
theorem w8{k B:Int}(h:aK .i64 w sv l):an x7 JT [sv,Δ k,Δ B] w (BQ w l k B):=by
 refine aA func205 ?_;refine(Lg h).mono ?_;rintro v aa _ ⟨K,X,Y,Z⟩;obtain⟨aN,e,rfl,ac,he⟩:∃(aN:x1)(e:Int),v= .tuple #[.agg #[aN],Δ e]/\aN.oneCell'=true/\
   ((e=1/\¬cb l)\/(e=5/\cb l/\4096<aR l)\/(e=0/\cb l/\aR l<=4096/\∃g,w.heap.size<=g/\ay .i64 aj aa g aN l)):=by
  by_cases V:cb l
  .by_cases A:aR l<=4096
   .obtain⟨g,aN,rfl,h1,L⟩:=Z V A;exact⟨aN,0,F,L.ls.cells.2,.inr (.inr ⟨F,V,A,g,h1,L⟩)⟩
   .exact⟨_,_,Y V Ω,F,.inr (.inl ⟨F,V,Ω⟩)⟩
  .exact⟨_,_,X V,F,.inl ⟨F,V⟩⟩
 rw[bq,br];refine bu bD.i λaM ab aO ae ag=>?_;refine b7 (vs:=[aN]) bD.i F rfl (by intro u hu;simp at hu;subst hu;exact ac) ag ?_;intro aP ah aQ ai;have M:=ae.then ah (by rintro r q rfl;omega);have N:=K.trans M;simp only[bA,am];refine⟨λak=>⟨N,?_⟩,λaS=>?_⟩
 .rcases he with⟨rfl,C⟩|⟨rfl,V,A⟩|⟨rfl,_⟩
  .exact⟨λ_=>rfl,λh=>absurd h C,λh=>absurd h C,λh=>absurd h C⟩
  .exact⟨λh=>absurd V h,λ_ _=>rfl,λ_ h=>Ω,λ_ h=>Ω⟩
  .exact absurd F ak
 .obtain⟨rfl,V,A,gs,aT,hm⟩:e=0/\cb l/\aR l<=4096/\∃g,w.heap.size<=g/\ay .i64 aj aa g aN l:=by
   rcases he with⟨rfl,C⟩|⟨rfl,V,A⟩|h
   .omega
   .omega
   .exact h
  have:=prod_bound V;refine k7.mono ?_;rintro _ aV _ ⟨rfl,G⟩;have O:=N.trans G;simp only[bM,cd];refine⟨λaf=>⟨O,λh=>absurd V h,λ_ h=>Ω,λ_ _ _=>rfl,λ_ _ h=>by simp[h]at af⟩,λal=>?_⟩;have ao:ct B k:=by simpa using al
  simp only[cw,ey];intro P H _ _;have aq:=O.trans H;have E:=(M.trans G).trans H;have Q:=(ai.ext G).ext H;rw[bN bD.p bD.i F Q.range,bN bD.p bD.i F Q.range];have:=K.size;have:=E.size;have R:((aR l).toNat:Int)=aR l:=Ω
  have S:∀{y:x3}{x:x1}{z:Nat},Ext P y->P.heap.size<=z->ay .i64 av y z x (o8 (aR l).toNat B)->
    ad x7 (Instr.build cX #[(0,.agg #[aN]),(1,Δ k),(2,x)]) y λau=>aF x7 (Instr.box cX au) y λaw U=>BQ w l k B (.tuple #[aw,Δ 0]) U:=by
   intro y x z s W q;rw[cJ (cs:=#[aN,Δ k,x]) (by
    obtain⟨_,_,_,_,_,rfl,_⟩:=q.ls;obtain⟨_,_,_,_,_,rfl,_⟩:=hm.ls;kernel_rfl)]
   refine bh λg U aX I ax=>?_;have:=s.size;have aB:leads x z:=by
    obtain⟨aZ,⟨_,aC⟩|⟨cap,cs,rfl,_⟩⟩:=q
    .simp at aC;omega
    .exact⟨_,_,_,F,F⟩
   have:=(bR q aB).2;refine⟨(aq.trans s).trans I,λh=>absurd V h,λ_ h=>Ω,λ_ _ h=>absurd ao h,λ_ _ _=>⟨g,z,aN,F,Ω,Ω,λr aD=>?_,⟨x,gs,ax,((hm.ext E).ext s).ext I,q.ext I⟩,⟨Ω,λaE=>?_,A⟩,V,Ξ⟩⟩
   .have:=(bR hm aD).1;omega
   .have:=bR hm aE;omega
  constructor
  .refine eE az.u av.i F λdJ ap aG aH a J=>⟨.inl a,?_⟩;refine(qj ((hm.ext E).ext a).ls V).mono ?_;rintro _ aI _ ⟨rfl,f⟩;refine⟨.inl (a.trans f),?_⟩;rw[<-R];refine(BP (J.ext f).ls Ω).mono ?_;rintro x y _ ⟨s,z,W,q⟩;have aJ:=a.size;have aL:=f.size;exact⟨.inl ((a.trans f).trans s),S ((a.trans f).trans s) Ω q⟩
  .refine (qj (hm.ext E).ls V).mono ?_;rintro _ aG _ ⟨rfl,a⟩;refine⟨.inl a,?_⟩;refine eE az.u av.i F λdJ ap aI aH f J=>⟨.inl (a.trans f),?_⟩;rw[<-R];refine(BP J.ls Ω).mono ?_;rintro x y _ ⟨s,z,W,q⟩;have aJ:=a.size;have aL:=f.size;exact⟨.inl ((a.trans f).trans s),S ((a.trans f).trans s) Ω q⟩
theorem pe{g:Nat}{a:List x1}{o:Nat}(h:ah w g e cs)(f:∀j v,a[j]?=σ v->cs[o+j]?=σ v):w.rangeAt g o a:=λj v ae=>h.cell (f j v ae)
theorem BR{g a:Nat}{t:Λ}{k:Int}{cs:Λ}(h:di w g a sv al k cs)(e:aK .i64 w aN t):
  an x7 Kt [Γ g,aN] w λv J=>v=mq al t/\Ext w J:=by
 obtain⟨⟨bb,gs,f,hm,q⟩,_,V,_⟩:=h;refine aA func263 ?_;rw[dh e7.u];simp only[Y0,a8];rw[bZ,aW cX.p F,bN (cs:=[sv]) bD.p bD.i F (pe f (by
  intro j v ae
  match j,ae with
  |0,ae=>exact ae))]
 refine(BO hm.ls e V).mono ?_;rintro _ aa _ ⟨rfl,U⟩;unfold mq;cases cn al t 0 with
 |none=>rw[bq,br];exact⟨F,U⟩
 |some n=>rw[bq,br];exact⟨F,U⟩
def ua(al t cs:Λ):x1:=match cn al t 0 with
 |some n=>.tuple #[Δ (cs.getD n.toNat 0),Δ 0]
 |none=>.tuple #[Δ 0,Δ 3]
theorem BS{t cs:Λ}{n:Int}(V:cb al)(a:cs.length=(aR al).toNat)(h:cn al t 0=σ n):n=(n.toNat:Int)/\n.toNat<cs.length:=by
 have:=pd V.2 h;simp only[Int.zero_mul,Int.zero_add,Int.one_mul]at this;omega
theorem w9{g e:Nat}{t:Λ}{k:Int}{cs:Λ}(h:di w g e sv al k cs)(f:aK .i64 w aN t):
  an x7 Km [Γ g,aN] w λv J=>v=ua al t cs/\Ext w J:=by
 refine aA func250 ?_;refine(BR h f).mono ?_;rintro _ aa _ ⟨rfl,U⟩;obtain⟨⟨bb,gs,q,hm,r⟩,_,V,s⟩:=h.ext U;unfold mq ua;cases hi:cn al t 0 with
 |none=>
  rw[bq,br];simp only[bA,am];exact⟨λ_=>⟨trivial,U⟩,λh=>by simp at h⟩
 |some n=>
  obtain⟨x,a⟩:=BS V s hi;rw[bq,br];simp only[bA,am];refine⟨λh=>absurd F h,λ_=>?_⟩;rw[aT cX.p 2 q F,
   gf x az.u av.i Ψ r.ls (x6 a)]
  refine⟨?_,U⟩;rw[u4,x6 a];rfl
def ub(al t:Λ)(k c:Int)(cs:Λ):Λ:=match cn al t 0 with
 |some n=>if ct c k then cs.set n.toNat c else cs
 |none=>cs
def BT(al t:Λ)(k c:Int):Int:=match cn al t 0 with
 |some _=>if ct c k then 0 else 3
 |none=>3
theorem Li{g e:Nat}{t:Λ}{k c:Int}{cs:Λ}(h:di w g e sv al k cs)(C:aK .i64 w aN t):
  an x7 JV [Γ g,aN,Δ c] w λv J=>v=Δ (BT al t k c)/\ai (λr=>r=e) w J/\di J g e sv al k (ub al t k c cs):=by
 refine aA func207 ?_;refine(BR h C).mono ?_;rintro _ aa _ ⟨rfl,U⟩;have h1:=h.ext U;obtain⟨⟨bb,gs,a,hm,f⟩,_,V,q⟩:=h1;unfold mq BT ub;cases hi:cn al t 0 with
 |none=>
  rw[bq,br];simp only[bA,am];exact⟨λ_=>⟨trivial,U.ac _,h.ext U⟩,λh=>by simp at h⟩
 |some n=>
  obtain⟨O,P⟩:=BS V q hi;rw[bq,br];simp only[bA,am];refine⟨λh=>absurd F h,λ_=>?_⟩;rw[aT cX.p 1 a F];refine k7.mono ?_;rintro _ ab _ ⟨rfl,s⟩;have y:=(h.ext U).ext s;by_cases z:ct c k
  .simp only[z,decide_true,bM,X2,a8,if_true];obtain⟨⟨bb,gs,a,hm,f⟩,⟨E,A⟩,V,q⟩:=y;have:=f;obtain⟨R,⟨rfl,S⟩|⟨cap,full,rfl,G,H,I,K,B⟩⟩:=f
   .omega
   .rw[aT cX.p 2 a F,
     Bx az.u av.i Ω Ω (λ_=>rfl)]
    refine bp av.i F rfl G Ω ?_;intro W x X L;refine⟨trivial,((U.trans s).ac _).trans x,⟨_,gs,a.ac x Ω,bw hm x (λr M N=>A.1 (N▸M)),?_⟩,⟨E,A⟩,V,by simp[q]⟩;refine⟨Ξ,.inr ⟨cap,full.set (0+n.toNat*1) (Δ c),?_,L,by simpa using H,I,by simpa using K,?_⟩⟩
    .simp
    .simp only[Z0,W0,U7]at B ⊢;rw[List.take_set,B,ints,ints,T0]
  .simp only[z,decide_false,bM,V8,bX,if_false];exact⟨trivial,(U.trans s).ac _,y⟩
def cB(b:Int):Bool:=decide (b=32\/b=9\/b=10\/b=13)
def bQ(b:Int):Bool:=decide (33<=b/\b<=126)
def pf:Nat->Λ->List (Λ)×Bool
 |0,_=>([],true)
 |n+1,p=>
  match p.dropWhile cB with
  |[]=>([],true)
  |b::q=>
   if bQ b then
    match(b::q).dropWhile bQ with
    |[]=>([(b::q).takeWhile bQ],true)
    |c::r=>if cB c then(((b::q).takeWhile bQ)::(pf n (c::r)).1,(pf n (c::r)).2)else([],false)
   else([],false)
def lex(p:Λ):List (Λ)×Bool:=pf (p.length+1) p
theorem qk(f:Int->Bool):∀(l:Λ),(l.dropWhile f).length<=l.length
 |[]=>o4 _
 |x::l=>by
  rw[List.dropWhile_cons];split
  .exact X3 (qk f l) (Nat.le_succ _)
  .exact o4 _
theorem uc{f:Int->Bool}{x:Int}(h:f x=true):((x::l).dropWhile f).length<=l.length:=by
 rw[List.dropWhile_cons,if_pos h];exact qk f l
theorem BU:∀{n m:Nat}{p:Λ},p.length<n->p.length<m->pf n p=pf m p
 |n+1,m+1,p,s,hm=>by
  unfold pf;have h1:=qk cB p;cases f:p.dropWhile cB with
  |nil=>rfl
  |cons b q=>
   rw[f]at h1;simp only;by_cases a:bQ b=true
   .rw[if_pos a,if_pos a];have e:=uc (l:=q) a;cases h:(b::q).dropWhile bQ with
    |nil=>rfl
    |cons c r=>
     rw[h]at e;simp only[b9]at h1 e;simp only;rw[BU (n:=n) (m:=m) (p:=c::r) (by rw[b9];omega) (by rw[b9];omega)]
   .rw[if_neg a,if_neg a]
theorem lQ(p:Λ):lex p=match p.dropWhile cB with
  |[]=>([],true)
  |b::q=>
   if bQ b then
    match(b::q).dropWhile bQ with
    |[]=>([(b::q).takeWhile bQ],true)
    |c::r=>if cB c then(((b::q).takeWhile bQ)::(lex (c::r)).1,(lex (c::r)).2)else([],false)
   else([],false):=by
 unfold lex
 conv=>lhs;unfold pf
 have h1:=qk cB p;cases f:p.dropWhile cB with
 |nil=>rfl
 |cons b q=>
  rw[f]at h1;simp only;by_cases a:bQ b=true
  .rw[if_pos a,if_pos a];have e:=uc (l:=q) a;cases h:(b::q).dropWhile bQ with
   |nil=>rfl
   |cons c r=>
    rw[h]at e;simp only[b9]at h1 e;simp only;rw[BU (n:=p.length) (m:=(c::r).length+1) (p:=c::r) (by rw[b9];omega) Ω]
  .rw[if_neg a,if_neg a]
theorem ql:∀(n:Nat)(p:Λ),p.length<=n->(lex p).1.length<=p.length
 |n,p,w=>by
  rw[lQ];have h1:=qk cB p;cases h:p.dropWhile cB with
  |nil=>simp
  |cons b q=>
   rw[h]at h1;simp only;by_cases a:bQ b=true
   .rw[if_pos a];have e:=uc (l:=q) a;cases s:(b::q).dropWhile bQ with
    |nil=>simp only[b9,List.length_nil]at h1 ⊢;omega
    |cons c r=>
     rw[s]at e;simp only[b9]at h1 e;simp only;by_cases f:cB c=true
     .rw[if_pos f]
      match n with
      |0=>omega
      |n+1=>
       have:=ql n (c::r) (by rw[b9];omega);simp only[b9]at this ⊢;omega
     .rw[if_neg f];simp
   .rw[if_neg a];simp
theorem ud:∀(n:Nat)(p:Λ),p.length<=n->∀w∈(lex p).1,w≠[]/\(∀b∈w,bQ b=true)/\w.length<=p.length
 |n,p,B,w,hw=>by
  rw[lQ]at hw;have h1:=qk cB p;cases e:p.dropWhile cB with
  |nil=>rw[e]at hw;simp at hw
  |cons b q=>
   rw[e]at h1 hw;simp only at hw;have A:(b::q).length<=p.length:=h1;by_cases a:bQ b=true
   .rw[if_pos a]at hw;have f:=uc (l:=q) a;have s:(b::q).takeWhile bQ≠[]/\(∀x∈(b::q).takeWhile bQ,bQ x=true)/\((b::q).takeWhile bQ).length<=p.length:=
     ⟨by rw[List.takeWhile_cons,if_pos a];simp,λx U=>List.all_takeWhile |> List.all_eq_true.1 |> λh=>h x U,X3 (List.takeWhile_sublist _).length_le A⟩
    cases y:(b::q).dropWhile bQ with
    |nil=>
     rw[y]at hw;simp only[j5]at hw;subst hw;exact s
    |cons c r=>
     rw[y]at f hw;simp only[b9]at h1 f;simp only at hw;by_cases z:cB c=true
     .rw[if_pos z]at hw;rcases V5.1 hw with rfl|hw
      .exact s
      .match n with
       |0=>omega
       |n+1=>
        have:=ud n (c::r) (by rw[b9];omega) w hw;exact⟨this.1,this.2.1,X3 this.2.2 (by rw[b9];omega)⟩
     .rw[if_neg z]at hw;simp at hw
   .rw[if_neg a]at hw;simp at hw
def aw:Int:=4611686018427387904
def gC(b:Int):Bool:=decide (48<=b/\b<=57)
def e8(n b:Int):Int:=min aw (10*n+(b-48))
def lR:Λ->Option Int
 |[]=>ν
 |l=>if l.all gC then σ (l.foldl e8 0)else ν
def gD:Λ->Option Int
 |45::l=>(lR l).map λn=>-n
 |l=>lR l
theorem Lj{n b:Int}(e:0<=n)(a:gC b=true):0<=e8 n b/\e8 n b<=aw:=by
 have a:=of_decide_eq_true a;unfold e8 aw;omega
theorem ue:∀{l:Λ}{n:Int},l.all gC=true->0<=n/\n<=aw->0<=l.foldl e8 n/\l.foldl e8 n<=aw
 |[],n,_,a=>a
 |b::l,n,h,a=>by
  rw[List.all_cons,V9]at h;exact ue (l:=l) h.2 (Lj a.1 h.1)
structure aG where
 toks:List (Λ)
 told:Int
 big:Bool
 shared:List (Λ×List (Λ×Int))
deriving DecidableEq
def dK(s:aG):Option (Λ×aG):=match s.toks with
 |[]=>ν
 |w::l=>σ (w,{s with toks:=l})
def bi(lo hi:Int)(s:aG):Option (Int×aG):=match dK s with
 |none=>ν
 |some (w,s)=>match gD w with
  |none=>ν
  |some n=>if lo<=n/\n<=hi then σ (n,s)else ν
def bc(b:Bool)(s:aG):aG:={s with big:=s.big||b}
def cP{α:Type}(f:List α->aG->Option (α×aG)):Nat->List α->aG->Option (List α×aG)
 |0,acc,s=>σ (acc,s)
 |n+1,acc,s=>match f acc s with
  |none=>ν
  |some (a,s)=>cP f n (acc++[a]) s
def eU(n:Int)(a:Nat)(s:aG):Option (Λ×aG):=cP (λacc s=>match bi 0 (n-1) s with
 |none=>ν
 |some (v,s)=>if v∈acc then ν else σ (v,s)) a [] s
def kE:Λ->Λ->aG->Option (Λ×aG)
 |[],acc,s=>σ (acc,s)
 |k::l,acc,s=>match bi 0 (k-1) s with
  |none=>ν
  |some (v,s)=>kE l (acc++[v]) s
def ez(sizes:Λ)(acc:List (Λ×Int))(s:aG):Option ((Λ×Int)×aG):=match kE sizes [] s with
 |none=>ν
 |some (t,s)=>match bi 0 aw s with
  |none=>ν
  |some (c,s)=>if t∈acc.map (·.1)then ν else σ ((t,c),s)
def dz(sizes:Λ)(s:aG):Option (List (Λ×Int)×aG):=match bi (-aw) aw s with
 |none=>ν
 |some (n,s)=>
  if n<0 then match s.shared[(-n-1).toNat]? with
   |none=>ν
   |some (z,l)=>if z=sizes then σ (l,s)else ν
  else cP (ez sizes) n.toNat [] (bc (decide (16384<min (s.told+n) aw)) {s with told:=min (s.told+n) aw})
def dn(sizes:Λ):Bool:=decide (4096<aR (sizes.map λk=>min k 4097))
structure cj where
 scope:Λ
 sizes:Λ
 other:Int
 lines:List (Λ×Int)
deriving DecidableEq
def dd(all:Λ)(s:aG):Option (cj×aG):=match bi (-aw) aw s with
 |none=>ν
 |some (a,s)=>match eU all.length a.natAbs s with
  |none=>ν
  |some (scope,s)=>
   let sizes:=scope.map λv=>all.getD v.toNat 0
   match bi 0 aw (bc (decide (6<a.natAbs)||dn sizes) s)with
   |none=>ν
   |some (other,s)=>match dz sizes s with
    |none=>ν
    |some (lines,s)=>σ (⟨scope,sizes,other,lines⟩,if a<0 then{s with shared:=s.shared++[(sizes,lines)]}else s)
def fQ(most:Int)(_:Λ)(s:aG):Option (Int×aG):=match bi 1 most s with
 |none=>ν
 |some (z,s)=>σ (z,bc (decide (32<z)) s)
structure b3 where
 name:Λ
 k:Int
 sizes:Λ
 funs:List cj
deriving DecidableEq
def iI(s:aG):Option (b3×aG):=match dK s with
 |none=>ν
 |some (name,s)=>match bi 1 aw (bc (decide (64<name.length)) s)with
  |none=>ν
  |some (n,s)=>match bi 1 aw (bc (decide (64<n)) s)with
   |none=>ν
   |some (most,s)=>match bi 0 aw s with
    |none=>ν
    |some (a,s)=>match bi 1 aw (bc (decide (256<a)) s)with
     |none=>ν
     |some (k,s)=>match cP (fQ most) n.toNat [] (bc (decide (2147483648<k)) s)with
      |none=>ν
      |some (sizes,s)=>match cP (λ_ s=>dd sizes s) a.toNat [] s with
       |none=>ν
       |some (funs,s)=>σ (⟨name,k,sizes,funs⟩,s)
def fR(p:Λ):Option b3:=if 65536<p.length then ν else match iI ⟨(lex p).1,0,false,[]⟩with
 |none=>ν
 |some (f,s)=>if s.toks=[]/\(lex p).2=true/\s.big=false then σ f else ν
def n3(n:Int)(a:Bool)(v:Int):Prop:=0<=n/\n<=4611686018427387909/\(a=true->v=aw)/\(a=false->v=min aw n)
theorem Lk{n b v:Int}{a:Bool}(h:n3 n a v)(r:48<=b/\b<=57):
  n3 (if a=true\/461168601842738790<n then n else 10*n+(b-48)) (a||decide (461168601842738790<n)) (e8 v b):=by
 obtain⟨h1,f,p,q⟩:=h;unfold e8 n3 aw at*;cases a with
 |true=>
  have:=p F;rw[if_pos (.inl F)];exact⟨h1,f,λ_=>Ω,λh=>by cases h⟩
 |false=>
  have:=q F;by_cases e:461168601842738790<n
  .rw[if_pos (.inr e),decide_eq_true e];exact⟨h1,f,λ_=>Ω,λh=>by cases h⟩
  .rw[if_neg (by simp[e]),decide_eq_false e];exact⟨Ω,Ω,(λh=>by cases h),λ_=>Ω⟩
theorem Ll:n3 0 false 0:=by unfold n3 aw;exact⟨Ω,Ω,(λh=>by cases h),λ_=>Ω⟩
theorem Lm{n v:Int}{a:Bool}(h:n3 n a v):v=if a=true\/4611686018427387904<n then 4611686018427387904 else n:=by
 obtain⟨h1,q,f,p⟩:=h;unfold aw at*;cases a with
 |true=>rw[if_pos (.inl F)];exact f F
 |false=>
  have:=p F;by_cases e:4611686018427387904<n
  .rw[if_pos (.inr e)];omega
  .rw[if_neg (by simp[e])];omega
structure Cell where
 v:Int
 st:Nat
structure mr where
 i:Nat
 c:Cell
structure uf where
 olds:Nat
 cells:Nat
 st:Nat
structure aD where
 cells:List Cell
 olds:List mr
 marks:List uf
 kF:Nat
def aD.bY(t:aD):Λ:=t.cells.map (·.v)
def aD.set(t:aD)(i:Nat)(x:Int):aD:=match t.cells[i]? with
 |none=>t
 |some c=>match t.marks.getLast? with
  |none=>{t with cells:=t.cells.set i ⟨x,c.st⟩}
  |some m=>if c.st<m.st/\i<m.cells then{t with olds:=t.olds++[⟨i,c⟩],cells:=t.cells.set i ⟨x,m.st⟩}else{t with cells:=t.cells.set i ⟨x,c.st⟩}
def aD.grow(t:aD)(n:Nat):aD:={t with cells:=t.cells++o8 n ⟨0,0⟩}
def back(os:List mr)(cs:List Cell):List Cell:=os.foldr (λo cs=>cs.set o.i o.c) cs
theorem rE:∀(os:List mr)(cs:List Cell),(back os cs).length=cs.length
 |[],_=>rfl
 |o::os,cs=>by
  have:=rE os cs;show((back os cs).set o.i o.c).length=_;rw[Z0,this]
theorem back_append(a b:List mr)(cs:List Cell):back (a++b) cs=back a (back b cs):=by unfold back;rw[List.foldr_append]
theorem xa:∀{os:List mr}{cs:List Cell}{n:Nat},(back os cs).take n=back (os.filter λo=>decide (o.i<n)) (cs.take n)
 |[],cs,n=>rfl
 |o::os,cs,n=>by
  show((back os cs).set o.i o.c).take n=_;by_cases h:o.i<n
  .rw[List.filter_cons_of_pos (by simpa using h),List.take_set,xa];rfl
  .rw[List.filter_cons_of_neg (by simpa using h),List.take_set_of_le Ω,xa]
theorem BV{os:List mr}{cs:List Cell}(h:∀o∈os,o.i<n):(back os cs).take n=back os (cs.take n):=by
 rw[xa,List.filter_eq_self.2 λo a=>by simpa using h o a]
theorem BW:∀{os:List mr}{cs a:List Cell}{i:Nat},cs.length=a.length->(∃o∈os,o.i=i)->(back os cs)[i]?=(back os a)[i]?
 |[],_,_,_,_,⟨_,h,_⟩=>by cases h
 |o::os,cs,a,i,e,hm=>by
  show((back os cs).set o.i o.c)[i]?=((back os a).set o.i o.c)[i]?;rw[X4,X4];by_cases h:o.i=i
  .rw[if_pos h,if_pos h,rE,rE,e]
  .rw[if_neg h,if_neg h];obtain⟨x,U,he⟩:=hm;rcases V5.1 U with rfl|U
   .exact absurd he h
   .exact BW e ⟨x,U,he⟩
theorem BX:∀{os:List mr}{cs a:List Cell}{i:Nat},cs[i]?=a[i]? ->cs.length=a.length->(back os cs)[i]?=(back os a)[i]?
 |[],_,_,_,h,_=>h
 |o::os,cs,a,i,h,e=>by
  show((back os cs).set o.i o.c)[i]?=((back os a).set o.i o.c)[i]?;rw[X4,X4,rE,rE,e,BX h e]
def iJ:aD->List aD->Prop
 |t,[]=>t.marks=[]/\t.olds=[]/\(∀c∈t.cells,c.st<=t.kF)/\t.kF<=1000000
 |t,s::h=>iJ s h/\(∀c∈t.cells,c.st<=t.kF)/\∃m new,t.marks=s.marks++[m]/\m.olds=s.olds.length/\m.cells=s.cells.length/\t.olds=s.olds++new/\m.cells<=t.cells.length/\(back new t.cells).take m.cells=s.cells/\
   (∀c∈s.cells,c.st<m.st)/\(∀c∈t.cells,c.st<=m.st)/\(∀(i:Nat)c,i<m.cells->t.cells[i]?=σ c->c.st=m.st->∃o∈new,o.i=i)/\(∀o∈new,o.i<m.cells)/\m.st<=t.kF/\s.kF<=t.kF
theorem iJ.grow{h:List aD}{t:aD}(hk:iJ t h):iJ (t.grow n) h:=by
 cases h with
 |nil=>
  refine⟨hk.1,hk.2.1,λc a=>?_,hk.2.2.2⟩;rcases p9.1 a with a|a
  .exact hk.2.2.1 c a
  .rw[(List.mem_replicate.1 a).2];exact X8 _
 |cons s h=>
  obtain⟨h1,p,m,new,q,r,a3,a4,a5,w,x,y,a9,e,z,A⟩:=hk;have f:∀{b:Nat},(∀c∈t.cells,c.st<=b)->∀c∈(t.grow n).cells,c.st<=b:=λB c a=>by
   rcases p9.1 a with a|a
   .exact B c a
   .rw[(List.mem_replicate.1 a).2];exact X8 _
  refine⟨h1,f p,m,new,q,r,a3,a4,by show m.cells<=(t.cells++_).length;rw[r8];omega,?_,x,f y,λi c hi a he=>?_,e,z,A⟩
  .show (back new (t.cells++_)).take m.cells=_;rw[BV e,List.take_append_of_le_length a5,<-BV e];exact w
  .have a:(t.cells++o8 n ⟨0,0⟩)[i]?=σ c:=a;rw[X0 Ω]at a;exact a9 i c hi a he
theorem Ln{s:aD}{m:uf}{l:List uf}(h:l=s.marks++[m]):l.getLast? =σ m:=by rw[h,List.getLast?_concat]
theorem iJ.set{h:List aD}{t:aD}{i:Nat}{x:Int}(hk:iJ t h):iJ (t.set i x) h:=by
 unfold aD.set;cases q:t.cells[i]? with
 |none=>exact hk
 |some c=>
  have F:=(x4.1 q).1;have y:=x5 q;have r:∀{b st:Nat},(∀c∈t.cells,c.st<=b)->st<=b->∀d∈t.cells.set i ⟨x,st⟩,d.st<=b:=λM B d a=>by
   rcases V4 a with a|rfl
   .exact M d a
   .exact B
  cases h with
  |nil=>
   obtain⟨h1,w,G,N⟩:=hk;simp only[h1,List.getLast?_nil];exact⟨rfl,w,r G (G c y),N⟩
  |cons s h=>
   obtain⟨h1,w,m,new,C,H,a3,a4,a5,I,J,z,a9,K,E,L⟩:=hk;simp only[Ln C];by_cases A:c.st<m.st/\i<m.cells
   .rw[if_pos A];refine⟨h1,r w E,m,new++[⟨i,c⟩],C,H,a3,by show t.olds++_=_;rw[a4,X6],by show m.cells<=(t.cells.set i _).length;rw[Z0];exact a5,?_,J,r z (o4 _),λj d e a he=>?_,λo p=>?_,E,L⟩
    .show (back (new++[⟨i,c⟩]) (t.cells.set i _)).take m.cells=_;rw[back_append];have:back [⟨i,c⟩] (t.cells.set i ⟨x,m.st⟩)=t.cells:=by
      show(t.cells.set i _).set i c=_;rw[List.set_set];refine Y9 λj=>?_;rw[X4];by_cases e:i=j
      .subst e;rw[if_pos rfl,if_pos F,q]
      .rw[if_neg e]
     rw[this];exact I
    .have a:(t.cells.set i ⟨x,m.st⟩)[j]?=σ d:=a;by_cases f:i=j
     .exact⟨⟨i,c⟩,Ξ,f⟩
     .rw[X4,if_neg f]at a;obtain⟨o,p,he⟩:=a9 j d e a he;exact⟨o,List.mem_append_left _ p,he⟩
    .rcases p9.1 p with p|p
     .exact K o p
     .rw[j5.1 p];exact A.2
   .rw[if_neg A];refine⟨h1,r w (w c y),m,new,C,H,a3,a4,by show m.cells<=(t.cells.set i _).length;rw[Z0];exact a5,?_,J,r z (z c y),λj d e a he=>?_,K,E,L⟩
    .rw[<-I];show(back new (t.cells.set i _)).take m.cells=_;refine Y9 λj=>?_;by_cases e:j<m.cells
     .rw[Y2 e,Y2 e];by_cases f:i=j
      .subst f;have B:c.st=m.st:=by
        have:=z c y;have:¬c.st<m.st:=λaC=>A ⟨aC,e⟩;omega
       exact BW (by rw[Z0]) (a9 i c e q B)
      .exact BX (by rw[X4,if_neg f]) (by rw[Z0])
     .rw[Z7 (by rw[j6];omega),Z7 (by rw[j6];omega)]
    .have a:(t.cells.set i ⟨x,c.st⟩)[j]?=σ d:=a;by_cases f:i=j
     .subst f;rw[X4,if_pos rfl,if_pos F]at a;cases a;exact a9 i c e q he
     .rw[X4,if_neg f]at a;exact a9 j d e a he
theorem aD.rF{t:aD}{i:Nat}{x:Int}:(t.set i x).bY=t.bY.set i x:=by
 unfold aD.set aD.bY;cases a:t.cells[i]? with
 |none=>rw[List.set_eq_of_length_le (by rw[r9];exact List.getElem?_eq_none_iff.1 a)]
 |some c=>
  simp only;cases t.marks.getLast? with
  |none=>simp only;rw[T0]
  |some m=>simp only;split<;>rw[T0]
theorem aD.Lo{t:aD}:(t.grow n).bY=t.bY++o8 n 0:=by
 unfold aD.grow aD.bY;rw[Z9,List.map_replicate]
end Go.Proofs.YtikkpokkcdocoabGreatDoor
namespace Go.Vc
open Go Go.RowKit
section
variable{P:W9}{w:x3}{m:Bool}{S R:ak}
theorem ug{b k l:Nat}{low high:Option x1}(p:P.underlying t=σ (.slice e))(hi:aS P e k b z)(ae:cf w k v n cs)(h1:ni low l)(q:nj high n h)(a:l<=h)(aC:h<=n)(r:∀f,cf w k f (h-l) ((cs.drop (l*k)).take ((h-l)*k))->K f):
  ad P (U5 t v low high ν) w K:=by
 have s:=ae;obtain⟨_,x,o,base,cap,rfl,y,_⟩:=ae;rw[ij p hi h1 q ff a Ω (o4 _)];exact r _ (cf.part s a aC Ω (o4 _))
theorem Lp{f:n9}{b i:Nat}(p:y=(i:Int))(q:P.underlying t=σ (.slice e))(hi:aS P e 1 b z)(h:aK k w v l)(r:i<=l.length)(s:∀a,aK k w a (l.drop i)->K a):ad P (U5 t v (σ (.int f y)) ν ν) w K:=by
 refine ug q hi h (o2 i y p) ky r (o4 _) λa a7=>s a (aK.of (n:=l.length-i) ?_);have x:((ints k l).drop (i*1)).take ((l.length-i)*1)=ints k (l.drop i):=by
  rw[Z2 Ξ,U7,ints,<-List.map_drop]
 rw[x]at a7;exact a7
theorem Lq{f:n9}{b i:Nat}(p:y=(i:Int))(q:P.underlying t=σ (.slice e))(hi:aS P e 1 b z)(h:aK k w v l)(r:i<=l.length)(s:∀a,aK k w a (l.take i)->K a):ad P (U5 t v ν (σ (.int f y)) ν) w K:=by
 refine ug q hi h kx (o3 i y p) (X8 _) r λa a7=>s a (aK.of (n:=i) ?_);have x:((ints k l).drop (0*1)).take ((i-0)*1)=ints k (l.take i):=by
  simp[ints,List.map_take]
 rw[x]at a7;exact a7
theorem pg{b:Nat}{parts:Array (Nat×x1)}{K:x1->x3->Prop}(a:P.underlying t=σ (.slice e))(hi:aS P e 1 b (Δ 0))(r:n<=100000)(f:l.length=n)(af:Instr.fill (λj=>σ (j*1,1)) ((Array.range (n*1)).map ((if n*1=0 then#[]else(U3 .i64 0).cells)[·% (if n*1=0 then#[]else(U3 .i64 0).cells).size]!)) parts.toList=σ (ints .i64 l).toArray)(h:∀v g J,g=w.heap.size->Ext w J->ay .i64 e J g v l->K v J):aF P (Y5 t n parts) w K:=
 lK a hi Ω af λg J p U q=>h _ g J p U (ay.of (b1.full (by simpa using q) (by simp[f]) (by simp[maxLen];omega)))
end
section
variable{P:W9}{w:x3}
theorem Lr{h p:p8}{q kn:n9}{b k cap:Nat}{base:Option Addr}{K:x1->x3->Prop}(x:y=(k:Int))(A:P.underlying t=σ (.slice e))(B:P.underlying h=σ (.int kn))(hi:aS P e 1 b z)(C:z.cells= #[z])(V:cf w 1 (.slice base n cap) n xs)(E:0<k)(r:cap<n+k)(F:(n+k)*b<=140737488355328)(G:n+k<=9223372036854775807)(H:∀v g J,g=w.heap.size->Ext w J->b1 J g e 1 v (n+k) (xs++o8 k z)->K v J):aF P (Z5 #[t,h] p #[.slice base n cap,.int q y]) w K:=by
 subst x;obtain⟨i,hi,I,rfl,L⟩:=hi;obtain⟨f,X,o,Y,Z,he,M,aa,N,O⟩:=V;cases he;have Q:(Z6.firstCells i.size n (.slice base n cap)).run P w.drew= .ok xs.toArray w.drew:=by
  rcases Q8 n with rfl|R
  .have:xs=[]:=b6 (by simpa using f);subst this;cases base with
   |none=>exact run_firstCells_none w.drew i.size 0 0 cap
   |some a=>exact run_firstCells_some w.drew i.size 0 a 0 cap [] Ξ Ξ
  .have:=N R;subst this;refine run_firstCells_some w.drew i.size n _ n cap xs (by rw[I];exact f) λj u hu=>?_;rw[T4];exact O j u hu
 have S:k*i.bytes<=281474976710656:=by
  have:k*i.bytes<=(n+k)*i.bytes:=V1 _ Ω;omega
 have T:=Lib.run_append_grow_zeros (P:=P) w t h p e i z q kn A B hi L base n cap xs Q k E Ω r Ω S (growslice_fits r F);have U:n+k<=grownCap w (n+k) cap e:=grownCap_ge w _ _ _;have W:grownCap w (n+k) cap e<=maxLen:=grownCap_le_maxLen w (n+k) cap e (by simpa[maxLen]using G);have s:∀m,Z6.zeroCells z.cells m=(o8 m z).toArray:=λm=>by
  rw[C];apply Array.ext
  .simp[size_zeroCells]
  .intro j h1 M;simp[Z6.zeroCells,Nat.mod_one]
 refine .of T ((q9 w _ (Nat.le_succ _)).trans (rb _ _)) (H _ w.heap.size _ rfl ((tb w _).trans (ra _ _)) ⟨by simp at f;simp[f],.inr ⟨_,xs++o8 k z++o8 (grownCap w (n+k) cap e-(n+k)) z,rfl,?_,U,W,?_,?_⟩⟩)
 .rw[s,s];have:=heap_alloc_new w.drew (.cells (xs.toArray++(o8 k z).toArray++(o8 (grownCap w (n+k) cap e-(n+k)) z).toArray) e);rw[List.append_toArray,List.append_toArray]at this ⊢;exact this
 .simp at f;simp[f];omega
 .simp at f;rw[List.take_append_of_le_length (by simp[f]),Z2 (by simp[f])]
theorem BY{a:p8}{base:Option Addr}(f:P.underlying t=σ (.slice e)):
  ad P (Z6.cap_ #[t] a #[.slice base n c]) w K=K (Δ c):=ad.of λJ _=>by simp[Z6.cap_,run_underlying f,goInt]
theorem Ls{g o k:Nat}(h:ah w g e cs)(hk:o+k<=cs.length)(a:k<=c)(f:c<=maxLen):cf w 1 (.slice (σ ⟨g,o,ν⟩) k c) k ((cs.drop o).take k):=by
 refine⟨Θ,g,o,_,c,F,a,f,λ_=>rfl,λj v ae=>?_⟩;have p:=(x4.1 ae).1;simp at p;rw[Y2 Ω,List.getElem?_drop]at ae;exact h.cell ae
theorem BZ{h p:p8}{q g o cap:Nat}{K:x1->x3->Prop}(s:P.underlying t=σ (.slice e))(hi:aS P e 1 q z)(x:z.cells= #[z])(h1:z.oneCell'=true)(a:ah w g p cs)(y:0<n)(F:o+n<=cs.length)(A:∀J,ai (λr=>r=g) w J->J.heap.size=w.heap.size->ah J g p (over cs o (o8 n z))->K (.tuple #[]) J):aF P (Z6.clear_ #[t] h #[.slice (σ ⟨g,o,ν⟩) n cap]) w K:=by
 obtain⟨i,hi,G,rfl,B⟩:=hi;have C:=Lib.run_clear_slice (P:=P) w t e h z s (λw=>by simp[zeroValue,typeInfo,hi,B]) x h1 g o n cap y
  (λj H=>by rw[a.cell (x6 (show o+j<cs.length by omega))];rfl) (λj _=>a.frozen _ _)
 obtain⟨E,f⟩:=o5 (o8 n z) cs o w a;exact .of C (f.cv a) (A _ f.ac f.size E)
end
section
variable{P:W9}{w:x3}
theorem iK{a:p8}{f:n9}{i b g:Nat}(p:y=(i:Int))(q:P.underlying t=σ (.slice e))(hi:aS P e 1 b z)(h:ay k a w g v l)(r:i<l.length):ad P (c9 t v (.int f y)) w K=K (.pointer (σ ⟨g,i,ν⟩)):=by
 subst p;obtain⟨_,⟨_,s⟩|⟨cap,cs,rfl,_⟩⟩:=h
 .omega
 .rw[fe q hi r (λ_=>rfl)];simp
theorem qm{a:n9}{i b:Nat}{x:Int}(f:y=(i:Int))(p:P.underlying t=σ (.slice e))(hi:aS P e 1 b z)(h:aK k w v l)(U:l[i]?=σ x)(q:∀b o,w.cell? ⟨b,o,ν⟩=σ (.int k x)->K (.pointer (σ ⟨b,o,ν⟩))):ad P (c9 t v (.int a y)) w K:=by
 subst f;have r:=(x4.1 U).1;obtain⟨_,_,_,_,_,rfl,_,_,s,A⟩:=h;rw[fe p hi r s,U7];exact q _ _ (A i _ (lL U))
theorem iL{a:p8}{i b g:Nat}{x:Int}{K:Unit->x3->Prop}(hi:aS P e 1 b z)(h:ay k a w g v l)(F:i<l.length)(q:∀J,ai (λr=>r=g) w J->J.heap.size=w.heap.size->ay k a J g v (l.set i x)->K () J):aF P (l9 e (.pointer (σ ⟨g,i,ν⟩)) (.int k x)) w K:=by
 obtain⟨G,⟨_,H⟩|⟨cap,full,rfl,s,y,A,f,p⟩⟩:=h
 .omega
 .have B:i<full.length:=by simp at f;omega
  refine bp hi rfl rfl s B λJ C V E=>q J C V ⟨Ξ,.inr ⟨cap,full.set i (.int k x),Ξ,E,by simpa using y,A,by simpa using f,?_⟩⟩;simp only[Z0,U7]at p ⊢;rw[List.take_set,p,ints,ints,T0]
theorem uh{b o:Nat}(a:k5 P t=true)(h:w.cell? ⟨b,o,ν⟩=σ v):cD P (u5 t (.pointer (σ ⟨b,o,ν⟩))) v w:=λJ U=>by
 have a7:=j1 U h;unfold k5 at a;cases hu:P.underlying t with
 |none=>rw[hu]at a;cases a
 |some d=>
  rw[hu]at a;cases d<;>first|(cases a;done)|simp[u5,Instr.sureAddr,loadVar,isAgg,run_underlying hu,a7]
theorem ji{S:ak}(h:aK k w v l)(U:ai S w J)(p:∀r,S r->∀a n c,v= .slice (σ a) n c->a.block≠r):aK k J v l:=by
 obtain⟨h1,b,o,base,cap,rfl,q,s,e,x⟩:=h;refine⟨h1,b,o,base,cap,F,q,s,e,?_⟩;rcases Q8 l.length with f|f
 .intro j u hu;have:=(x4.1 hu).1;simp at this;omega
 .have y:=e f;subst y;exact kw U (λh=>p _ h _ _ _ F rfl) x
end
end Go.Vc
namespace Go.Vc
open Go Go.RowKit Go.ChangeShapes Go.WideShapes
structure n4(P:W9)(t:p8)(α:Type)[au α](G:α->Prop):Prop where
 op:∀{H:Type}{enc:p8×x1->H}{w:x3}{base:Nat}{spare:Nat->Bool}{held:Bool}{fuel:Nat}{cs:List x1}{x:DataW H×List MemPlace},
  DataW.trod enc P w base spare held fuel t cs=σ x->∃a:α,Seen eL w cs a/\G a
section
variable{P:W9}{α β:Type}[au α][au β]
theorem B1{n:Int}(h:(Lit.int k n).wf=true):k.min<=n/\n<=k.max:=by simpa[Lit.wf]using h
theorem Lt(a:P.underlying t=σ (.int k)):n4 P t (nk k) λn=>k.min<=n.val/\n.val<=k.max:=⟨λh=>by
 obtain⟨n,rfl,_,hw⟩:=DataW.trod_int a h;exact⟨(n:Int),F,B1 hw⟩⟩
theorem ui(a:P.underlying t=σ (.int .i64)):n4 P t Int λn=>W5.min<=n/\n<=W5.max:=⟨λh=>by
 obtain⟨n,rfl,_,hw⟩:=DataW.trod_int a h;exact⟨n,F,B1 hw⟩⟩
theorem Lu(a:Addr)(m n:Nat):(a.add m).add n=a.add (m+n):=by
 unfold Addr.add;by_cases hm:m=0<;>by_cases e:n=0<;>simp[hm,e,Q1]
theorem Lv{base:Nat}{a:Addr}(h:w.cells? base a n=σ cs):cs.length=n/\∀j v,cs[j]?=σ v->w.cell? (a.add j)=σ v:=by
 unfold x3.cells? at h;split at h
 .have e:cs.length=n:=by
   have:=mapM_some_length h;simpa using this
  refine⟨e,λj v ae=>?_⟩;have f:=(x4.1 ae).1;have:=mapM_some_get h j j (List.getElem?_range Ω);rw[this,ae]
 .cases h
theorem Lw{G:α->Prop}(L:P.underlying t=σ (.slice e))(he:n4 P e α G)(M:P.cellsOf e=au.n α)(U:0<au.n α):n4 P t (List α) λl=>∀a∈l,G a:=by
 constructor;intro H enc w base V W fuel cs x h;rcases DataW.trod_slice L h with⟨rfl,_⟩|⟨a,len,cap,X,rest,n,_,rfl,rfl,Y,Z,hm,aa,N,_,_⟩
 .exact⟨[],iH,λ_ h=>by cases h⟩
 .
  have J:∀i,i<len->∃(c:List x1)(y:α),c.length=au.n α/\(∀j v,c[j]?=σ v->w.cell? (a.add (i*au.n α+j))=σ v)/\Seen eL w c y/\G y:=by
   intro i hi;have h1:=N i hi;rw[x6 Ω,M,Option.bind_eq_some_iff]at h1;obtain⟨c,q,r⟩:=h1;obtain⟨A,B⟩:=Lv q;obtain⟨y,C,O⟩:=he.op r;exact⟨c,y,A,λj v ae=>by have:=B j v ae;rwa [Lu]at this,C,O⟩
  have all:∀m,m<=len->∃(vs:List (List x1))(l:List α),vs.length=m/\l.length=m/\(∀c∈vs,c.length=au.n α)/\(∀(j:Nat)(v:x1),vs.flatten[j]?=σ v->w.cell? (a.add j)=σ v)/\
    (∀(i:Nat)(c:List x1)(y:α),vs[i]?=σ c->l[i]?=σ y->Seen eL w c y)/\∀y∈l,G y:=by
   intro m;induction m with
   |zero=>exact λ_=>⟨[],[],rfl,rfl,(λ_ h=>by cases h),(λj v h=>by simp at h),(λi c y h=>by simp at h),(λ_ h=>by cases h)⟩
   |succ m Q=>
    intro hm;obtain⟨vs,l,h1,q,r,A,B,C⟩:=Q Ω;obtain⟨c,y,g1,E,R,S⟩:=J m Ω;refine⟨vs++[c],l++[y],by simp[h1],by simp[q],λd f=>?_,λj v ae=>?_,λi d z f p=>?_,λz p=>?_⟩
    .rcases p9.1 f with f|f
     .exact r d f
     .simp at f;subst f;exact g1
    .have s:=rA r;rw[h1]at s;rw[List.flatten_append]at ae;by_cases T:j<m*au.n α
     .rw[X0 Ω]at ae;exact A j v ae
     .rw[X1 Ω,s]at ae;simp at ae;have:=E _ v ae;rwa [show m*au.n α+(j-m*au.n α)=j by omega]at this
    .by_cases hi:i<m
     .rw[X0 Ω]at f p;exact B i d z f p
     .have F:=(x4.1 f).1;simp[h1]at F;have F:i=m:=Ω
      subst F;rw[X1 Ω,h1]at f;rw[X1 Ω,q]at p;simp at f p;subst f p;exact R
    .rcases p9.1 p with p|p
     .exact C z p
     .simp at p;subst p;exact S
  obtain⟨vs,l,h1,q,r,A,B,C⟩:=all len (o4 _);have s:=rA r;rw[h1]at s;have K:0<len->a=⟨a.block,a.off,ν⟩:=λI=>by
   obtain⟨c,y,g1,E,_⟩:=J 0 Ω;have:=E 0 c[0] (x6 Ω);rw[Nat.zero_mul]at this;exact w3 this
  refine⟨l,⟨_,rfl,vs,0,λ_ _=>False,⟨λ_ _ h=>h.elim,(λh=>by cases h),(λh=>by cases h)⟩,⟨Ω,B⟩,⟨by rw[s,q],a.block,a.off,σ a,cap,by rw[q],Ω,hm,λI=>congrArg σ (K Ω),λ_=>.inr trivial,λj v ae=>?_⟩,λh=>by cases h⟩,C⟩;have:=A j v ae;have T:=(x4.1 ae).1;have I:0<len:=by
   rcases Q8 len with h|h
   .rw[h,Nat.zero_mul]at s;omega
   .exact h
  rw[K I,T4]at this;exact this
structure uj(P:W9)(fs:List Field)(off:Nat)(α:Type)[au α](G:α->Prop):Prop where
 op:∀{H:Type}{enc:p8×x1->H}{w:x3}{base:Nat}{spare:Nat->Bool}{held:Bool}{n:Nat}{cs:List x1},cs.length=off+au.n α->
  (∀f∈fs,∃x,DataW.trod enc P w base spare held n f.type ((cs.drop f.offset).take (P.cellsOf f.type))=σ x)->∃a:α,Seen eL w (cs.drop off) a/\G a
theorem Lx{f:Field}{e:Nat}{G:α->Prop}(h:n4 P f.type α G)(p:f.offset=e)(q:P.cellsOf f.type=au.n α):uj P [f] e α G:=by
 constructor;intro H enc w base s y n cs z af;obtain⟨x,U⟩:=af f (.head _);obtain⟨a,h1,r⟩:=h.op U;rw[p,q,Z2 Θ]at h1;exact⟨a,h1,r⟩
theorem uk{f:Field}{q:List Field}{e:Nat}{G:α->Prop}{r:β->Prop}(h:n4 P f.type α G)(s:f.offset=e)(y:P.cellsOf f.type=au.n α)(z:uj P q (e+au.n α) β r):
  uj P (f::q) e (α×β) λp=>G p.1/\r p.2:=by
 constructor;intro H enc w base F I n cs J af;obtain⟨x,U⟩:=af f (.head _);obtain⟨a,h1,A⟩:=h.op U;rw[s,y]at h1;have K:au.n (α×β)=au.n α+au.n β:=rfl;obtain⟨b,B,C⟩:=z.op Ω λg E=>af g (.tail _ E);refine⟨(a,b),⟨(cs.drop e).take (au.n α),cs.drop (e+au.n α),λ_=>False,λ_=>False,?_,λ_ h=>h,λ_ h=>h,(λh=>by cases h),h1,B⟩,A,C⟩;rw[<-List.drop_drop,List.take_append_drop]
theorem Ly{a:List Field}{G:α->Prop}(e:P.underlying t=σ (.struct a.toArray))(af:uj P a 0 α G)(y:P.cellsOf t=au.n α):n4 P t α G:=by
 constructor;intro H enc w base z A fuel cs x h;obtain⟨xs,n,_,rfl,B,p,q⟩:=DataW.trod_struct e h;have:=af.op (cs:=cs) Ω λf r=>by
  obtain⟨i,hi,rfl⟩:=List.mem_iff_getElem.1 r;have s:i<xs.length:=by simpa[p]using hi
  have:=q i a[i] (by simp[hi]);rw[x6 s]at this;exact⟨_,this⟩
 simpa using this
end
end Go.Vc
