/- own texts, made small by a tool (wip/ holds them as they were written): no statement of the seat. -/
import Derived.RangeFuncNested
import Derived.RangeFuncLeaves
import Derived.OrdersIn
import Derived.KernelRfl
import Derived.Deep.Upon
import Derived.RangeFuncBound
import Derived.Deep.MidRow
import Derived.Laws.Cover3
import Derived.Laws.Pointers
import Derived.Laws.StructEq
import Derived.Laws.Tables
import Derived.Below
import Derived.Laws.MakeOwn
import Derived.Lib.Overlaps
import Derived.Lib.AppendZerosOnto
import Derived.Lib.SliceRun
import Derived.OpenShut
import Derived.Lib.ConvBytes
import Derived.Laws.BytesArg
import Derived.Laws.Concat
import Derived.MapKept
import Derived.Carry
import Derived.WideKeyArr
import Derived.WideKeyMaps
import Derived.Laws.IdiomRangeMap
import Derived.Shelf.SlSortCmp.NoneTotal
import Derived.Shelf.SlSortCmp.WholeK
import Derived.Ground.SlsfProg
import Derived.WideKeyEntry
import Derived.WalkKit
import Derived.Test.YtikkpokkcdocoabGreatDoorProg
import Derived.Test.YtikkpokkcdocoabGreatDoorChecked
set_option linter.unusedVariables false
set_option linter.unusedSimpArgs false
set_option linter.unnecessarySimpa false
open Array renaming getElem?_eq_some_iff→l9,getElem?_toList→S6
open BitVec renaming ofInt→U9
open Bool renaming not_true→X1,not_false→W7,and_eq_true→V7,or_eq_false_iff→S5
open Decidable renaming not_not→Z9
open Go renaming Value→x1,World→x3,TypeId→p9,IntKind→o6,Builtin→Z3,Program→W5,Oper→T2,Operand→S2,FuncId→R5
open Go.Addr renaming add_mid→U7
open Go.Builtin renaming append_→Z0,len_→W9
open Go.Instr renaming loadAt→u5,fieldAt→u6,storeAt→o8,indexAt→c7,extract→Y0,buildSlice→Y4,sliceAt→V8
open Go.IntKind renaming i64→X5,u64→U5
open Go.Proofs.Tryz renaming prog→x7
open Go.Result renaming andThen→W3
open Go.Sem renaming run_bind→W0,run_pure→V1
open Go.Sort renaming Holds→S4
open Go.Value renaming int→V4
open Go.World renaming putObj_heap_other→R6
open Int renaming toNat_natCast→u7,eq_ofNat_of_zero_le→U8
open List renaming getElem?_eq_some_iff→x4,mem_of_getElem?→x5,getElem?_eq_getElem→x6,getElem?_map→x8,getD_eq_getElem?_getD→u4,take_add_one→u9,length_map→r8,length_append→r9,replicate→p8,mem_append→o5,take_length→o7,mem_singleton→o9,length_take→n9,mem_map→j4,eq_nil_of_length_eq_zero→j6,length_cons→c8,length_set→c9,take_of_length_le→b6,getElem?_set_self→b8,getElem?_eq_none→Z2,map_append→Z4,getElem?_take_of_lt→Z7,getElem?_set_ne→Y2,ext_getElem?→Y3,getElem?_append_left→Y5,getElem?_append_right→Y6,getElem?_set→Y9,range→X0,drop_eq_getElem_cons→X6,mem_or_eq_of_mem_set→X9,length_eq_one_iff→W6,append_nil→W8,append_assoc→V0,mem_cons→V3,map_set→U4,map_cons→U6,set_append_right→T4,mem_range→T6,getElem_mem→S0,foldl_cons→S1,mem_flatMap→S7
open Nat renaming le_refl→o4,le_trans→Y8,zero_add→X2,zero_le→X4,mul_le_mul_right→X8,mul_one→U1,add_mul→U2,sub_self→U3,beq→T7,add_assoc→R2,lt_of_lt_of_le→R7,eq_zero_or_pos→Q0
open Option renaming toList_some→j5,isNone_some→Z5,map_some→Z6,getD_some→V2,map→V5
open Option.some renaming inj→b9,injEq→Y1
open Prod.mk renaming injEq→T0
set_option maxHeartbeats 16000000
open Option renaming some→σ,none→ν
abbrev Λ:=List Int
namespace Go
theorem Ω{p:Prop}(h:p:=by omega):p:=h
theorem Ψ{p:Prop}(h:p:=by kernel_rfl):p:=h
theorem Φ{p:Prop}(h:p:=by decide):p:=h
theorem Ξ{p:Prop}(h:p:=by simp):p:=h
theorem Θ{p:Prop}(h:p:=by simp;omega):p:=h
abbrev Γ(n:Nat):Value:=.pointer (some ⟨n,0,none⟩)
abbrev Δ:Int→Value:=Value.int .i64
end Go
variable{a y:Int}{c h j n off:Nat}{w w':x3}{S:Nat->Prop}{aK f s1 sv v z:x1}{args cs vs xs:List x1}{K:x1->Prop}{ak l:Λ}{D:List Nat}{k:o6}{e t:p9}{cx cy:Bool}
namespace Go.Vc
open Go Go.RowKit
def fA:Obj->Bool
 | .loop _=>false
 | .deferred _=>false
 | .mapIter ..=>false
 |_=>true
def book:Obj->Bool
 | .loop _=>true
 | .deferred _=>true
 |_=>false
theorem yi{o:Obj}(h:book o=true):fA o=false:=by cases o<;>first|rfl|cases h
def rK:Obj->Bool
 | .mapIter ..=>true
 |_=>false
theorem Fs{o:Obj}(h:rK o=true):fA o=false:=by cases o<;>first|rfl|cases h
structure Ext(w w':x3):Prop where
 size:w.heap.size<=w'.heap.size
 aZ:∀(r:Nat)(o:Obj),w.heap[r]?=σ o->fA o=true->w'.heap[r]?=σ o
theorem Ext.refl(w:x3):Ext w w:=⟨o4 _,λ_ _ h _=>h⟩
theorem Ext.trans{a b c:x3}(h:Ext a b)(k:Ext b c):Ext a c:=
 ⟨Y8 h.size k.size,λr o e U=>k.aZ r o (h.aZ r o e U) U⟩
structure ai(S:Nat->Prop)(w w':x3):Prop where
 size:w.heap.size<=w'.heap.size
 aZ:∀(r:Nat)(o:Obj),w.heap[r]?=σ o->fA o=true->¬S r->w'.heap[r]?=σ o
theorem Ext.ab(S:Nat->Prop)(h:Ext w w'):ai S w w':=⟨h.size,λr o a U _=>h.aZ r o a U⟩
theorem ai.ext(h:ai S w w')(e:∀r,r<w.heap.size->¬S r):Ext w w':=
 ⟨h.size,λr o a U=>h.aZ r o a U (e r (l9.1 a).1)⟩
theorem ai.refl(S:Nat->Prop)(w:x3):ai S w w:=⟨o4 _,λ_ _ h _ _=>h⟩
theorem ai.trans{a b c:x3}(h:ai S a b)(k:ai S b c):ai S a c:=
 ⟨Y8 h.size k.size,λr o f U e=>k.aZ r o (h.aZ r o f U e) U e⟩
theorem ai.mono{T:Nat->Prop}{a b:x3}(h:ai S a b)(f:∀r,r<a.heap.size->S r->T r):ai T a b:=
 ⟨h.size,λr o e U p=>h.aZ r o e U λq=>p (f r (l9.1 e).1 q)⟩
theorem Ext.then{a b c:x3}(h:Ext a b)(k:ai S b c)(f:∀r,r<a.heap.size->¬S r):Ext a c:=
 ⟨Y8 h.size k.size,λr o e U=>k.aZ r o (h.aZ r o e U) U (f r (l9.1 e).1)⟩
def jF(w w':x3):Prop:=w'.tape=w.tape/\w.drawn<=w'.drawn
theorem jF.kh(h:w'.tape=w.tape:=by rfl)(k:w'.drawn=w.drawn:=by rfl):jF w w':=⟨h,Nat.le_of_eq k.symm⟩
theorem jF.trans{a b c:x3}(k:jF b c)(h:jF a b):jF a c:=⟨k.1.trans h.1,Y8 h.2 k.2⟩
structure cL(w w':x3):Prop where
 os:w'.os=w.os
 tape:jF w w'
 output:w'.output=w.output
 size:w.heap.size<=w'.heap.size
 aZ:∀(r:Nat)(o:Obj),w.heap[r]?=σ o->fA o=false->w'.heap[r]?=σ o
structure cz(n:Nat)(w w':x3):Prop where
 os:w'.os=w.os
 tape:jF w w'
 output:w'.output=w.output
 size:w.heap.size<=w'.heap.size
 aZ:∀(r:Nat)(o:Obj),w.heap[r]?=σ o->book o=true->w'.heap[r]?=σ o
 old:∀(r:Nat)(o:Obj),r<n->w.heap[r]?=σ o->fA o=false->w'.heap[r]?=σ o
theorem cL.b(h:cL w w'):cz n w w':=⟨h.os,h.tape,h.output,h.size,λr o a U=>h.aZ r o a (yi U),λr o _ a U=>h.aZ r o a U⟩
theorem cz.refl(n:Nat)(w:x3):cz n w w:=⟨rfl,.kh,rfl,o4 _,λ_ _ h _=>h,λ_ _ _ h _=>h⟩
theorem cz.trans{a b c:x3}(h:cz n a b)(k:cz n b c):cz n a c:=
 ⟨k.os.trans h.os,k.tape.trans h.tape,k.output.trans h.output,Y8 h.size k.size,λr o e U=>k.aZ r o (h.aZ r o e U) U,λr o f e U=>k.old r o f (h.old r o f e U) U⟩
theorem cz.ct(h:cz n w w')(e:w.heap.size<=n):cL w w':=
 ⟨h.os,h.tape,h.output,h.size,λr o a U=>h.old r o (R7 (l9.1 a).1 e) a U⟩
structure fB(n:Nat)(w w':x3):Prop where
 os:w'.os=w.os
 tape:jF w w'
 output:w'.output=w.output
 size:w.heap.size<=w'.heap.size
 old:∀(r:Nat)(o:Obj),r<n->w.heap[r]?=σ o->fA o=false->w'.heap[r]?=σ o
theorem cz.o(h:cz n w w'):fB n w w':=⟨h.os,h.tape,h.output,h.size,h.old⟩
theorem cL.o(h:cL w w'):fB n w w':=⟨h.os,h.tape,h.output,h.size,λr o _ a U=>h.aZ r o a U⟩
theorem fB.mono{m:Nat}(h:fB n w w')(hm:m<=n):fB m w w':=⟨h.os,h.tape,h.output,h.size,λr o a=>h.old r o (R7 a hm)⟩
theorem cz.yj{m:Nat}{a b c:x3}(h:cz n a b)(k:fB m b c)(hm:a.heap.size<=m):cz n a c:=
 ⟨k.os.trans h.os,k.tape.trans h.tape,k.output.trans h.output,Y8 h.size k.size,
  λr o e U=>k.old r o (R7 (l9.1 e).1 hm) (h.aZ r o e U) (yi U),
  λr o f e U=>k.old r o (R7 (l9.1 e).1 hm) (h.old r o f e U) U⟩
def eX(w w':x3):Prop:=∀(r:Nat)(o:Obj),w.heap[r]?=σ o->rK o=true->w'.heap[r]?=σ o
theorem eX.refl(w:x3):eX w w:=λ_ _ h _=>h
theorem eX.trans{a b c:x3}(h:eX a b)(k:eX b c):eX a c:=λr o e U=>k r o (h r o e U) U
theorem cL.ki(h:cL w w'):eX w w':=λr o a U=>h.aZ r o a (Fs U)
abbrev fC:=Bool×Nat
theorem cL.refl(w:x3):cL w w:=⟨rfl,.kh,rfl,o4 _,λ_ _ h _=>h⟩
theorem cL.trans{a b c:x3}(h:cL a b)(k:cL b c):cL a c:=
 ⟨k.os.trans h.os,k.tape.trans h.tape,k.output.trans h.output,Y8 h.size k.size,λr o e U=>k.aZ r o (h.aZ r o e U) U⟩
theorem rL(w:x3)(n:Nat):Ext w {w with drawn:=n}:=⟨o4 _,λ_ _ h _=>h⟩
theorem pV(w:x3)(n:Nat)(h:w.drawn<=n):cL w {w with drawn:=n}:=⟨rfl,⟨rfl,h⟩,rfl,o4 _,λ_ _ h _=>h⟩
theorem pW(w:x3)(o:Obj):Ext w {w with heap:=w.heap.push o}:=
 ⟨Ξ,λr o' h _=>by
  have a:=(l9.1 h).1;simp only[Array.getElem?_push];rw[if_neg Ω];exact h⟩
theorem pX(w:x3)(o:Obj):cL w {w with heap:=w.heap.push o}:=
 ⟨rfl,.kh,rfl,Ξ,λr o' h _=>by
  have a:=(l9.1 h).1;simp only[Array.getElem?_push];rw[if_neg Ω];exact h⟩
inductive ep where
 |v (x:x1)
 |b (c:Bool)
 |u
def ep.val:ep->x1
 | .v x=>x
 | .b c=>.bool c
 | .u=>undef
def ep.ofConst:x1->ep
 | .bool c=>.b c
 |x=>.v x
theorem ep.Ft(x:x1):(ep.ofConst x).val=x:=by cases x<;>rfl
abbrev Env:=List (Nat×ep)
def look:Env->Nat->Option ep
 |[],_=>ν
 |(s,x)::r,t=>bif T7 s t then σ x else look r t
def eB(e:Env):S2->Option ep
 | .tmp t=>look e t
 | .const x=>σ (ep.ofConst x)
 | .global g=>σ (.v (Γ g))
 | .func f=>σ (.v (.func (.func f) #[] #[]))
def cS(e:Env)(x:S2):x1:=
 match eB e x with
 |some y=>y.val
 |none=>undef
def known(e:Env):List S2->Bool
 |[]=>true
 |x::r=>(eB e x).isSome&&known e r
def S4(N:Nat)(e:Env)(a:Act):Prop:=
 a.tmps.size=N/\∀t x,look e t=σ x->a.tmps.getD t undef=x.val
theorem S4.eB{N:Nat}{e:Env}{a:Act}(h:S4 N e a){x:S2}{y:ep}(J:Vc.eB e x=σ y):a.eval x=y.val:=by
 cases x with
 |tmp t=>exact h.2 t y J
 |const v=>simp[Vc.eB]at J;subst J;simp[Act.eval,ep.Ft]
 |global g=>simp[Vc.eB]at J;subst J;rfl
 |func f=>simp[Vc.eB]at J;subst J;rfl
theorem S4.eval{N:Nat}{e:Env}{a:Act}(h:S4 N e a){x:S2}(J:(Vc.eB e x).isSome=true):a.eval x=cS e x:=by
 obtain⟨y,f⟩:=Option.isSome_iff_exists.1 J;rw[h.eB f];simp[cS,f]
theorem uA{e:Env}:∀{l:List S2},known e l=true->∀x∈l,(eB e x).isSome=true
 |[],_,_,J=>by cases J
 |y::r,h,x,J=>by
  simp only[known,V7]at h;cases J with
  |head=>exact h.1
  |tail _ J=>exact uA h.2 x J
def dU(e:Env)(d:Option Tmp)(x:ep):Env:=
 match d with
 |some t=>(t,x)::e
 |none=>e
def jG(N:Nat)(d:Option Tmp):Bool:=
 match d with
 |some t=>Nat.blt t N
 |none=>true
theorem S4.put{N:Nat}{e:Env}{a:Act}(h:S4 N e a){d:Option Tmp}(q:jG N d=true){x:ep}(ad:x.val=v):
  S4 N (dU e d x) (a.put d v):=by
 cases d with
 |none=>exact h
 |some t=>
  have r:t<N:=by simpa[jG,Nat.blt_eq]using q
  refine⟨by simp[Act.put,h.1],λs y U=>?_⟩;simp only[dU,look]at U;cases f:T7 t s with
  |true=>
   have p:t=s:=Nat.eq_of_beq_eq_true f;subst p;simp only[f,cond_true,Y1]at U;subst U;simp[Act.put,h.1,r,ad]
  |false=>
   have p:t≠s:=Nat.ne_of_beq_eq_false f;simp only[f,cond_false]at U;have:=h.2 s y U;simp only[Act.put,Array.getD_eq_getD_getElem?]at this ⊢;rw[Array.getElem?_setIfInBounds_ne p];exact this
def ei(r:Option Nat):Fence:={Fence.wide with round:=r}
theorem uB(r:Option Nat)(n:Nat):(ei r).depth.isSome=true->1<=n:=λh=>by simp[ei,Fence.wide]at h
theorem yk{r:Option Nat}{P:W5}{f:R5}{args:Array x1}{R:Ending->x3->Prop}(h:Calls P f args w R):CallsIn (ei r) n P f args w R:=by
 have:=(callsIn_wide (n:=n)).2 h;exact this
section
variable(P:W5)
def aD{α:Type}(s:Sem α)(w:x3)(K:α->x3->Prop):Prop:=∃v w',s.run P w= .ok v w'/\cL w w'/\K v w'
def rM{α:Type}(free:fC)(s:Sem α)(w:x3)(K:α->x3->Prop):Prop:=∃v w',s.run P w= .ok v w'/\(free.1=false->cz free.2 w w')/\K v w'
def Split(x:x1)(A B:Prop):Prop:=∃c,x= .bool c/\(c=true->A)/\(c=false->B)
def a6:Bool->S2
 |true=>.const (.bool true)
 |false=>.tmp 0
def oE:S2->Bool
 | .const _=>true
 |_=>false
theorem Fu(op:BinOp)(t:p9)(x y:S2)(a b:x1):eqGuard op t x y a b=eqGuard op t (a6 (oE x)) (a6 (oE y)) a b:=by
 cases x<;>cases y<;>rfl
def aM(op:BinOp)(t:p9)(cx cy:Bool)(a b:x1):Sem x1:=do eqGuard op t (a6 cx) (a6 cy) a b;binOp op t a b
def rN(s:Sem Next):Sem x1:=do
 match <-s with
 | .value v=>pure v
 |_=>stuck "no value"
def bO(x:x1):Sem x1:=rN (execOp (λ_=>x) {dst:=ν,op:=.nilCheck (.tmp 0),type:=0,pos:= "",after:=#[],guard:=ν})
def bT(a:S2->x1):List S2->List x1
 |[]=>[]
 |x::r=>a x::bT a r
theorem rO(a:S2->x1):∀l,bT a l=l.map a
 |[]=>rfl
 |x::r=>by simp[bT,rO a r]
theorem uC(a:S2->x1)(l:Array S2):(bT a l.toList).toArray=l.map a:=by
 apply Array.toList_inj.1;simp[rO]
def partsOf(a:S2->x1):List (Nat×S2)->List (Nat×x1)
 |[]=>[]
 |x::r=>(x.1,a x.2)::partsOf a r
theorem yl(a:S2->x1):∀l,partsOf a l=l.map λ(i,x)=>(i,a x)
 |[]=>rfl
 |x::r=>by simp[partsOf,yl a r]
theorem Fv(a:S2->x1)(l:Array (Nat×S2)):(partsOf a l.toList).toArray=l.map λ(i,x)=>(i,a x):=by
 apply Array.toList_inj.1;simp[yl]
def opsOf:Op->List S2
 | .alloc _| .ready _| .waits _=>[]
 | .move x| .assign x| .box _ x| .load _ x| .nilCheck x| .unOp _ _ x| .convert _ _ x| .sliceToArrayPointer _ x| .makeInterface _ x
 | .makeChan _ x| .fieldAddr _ x _| .field _ x _| .range _ x| .next x _| .entry x| .typeAssert x _ _ _| .extract x _| .panic x| .recv _ x _=>[x]
 | .pick c a b=>[c,a,b]
 | .build _ e| .buildSlice _ _ e=>e.toList.map (·.2)
 | .store _ a v| .binOp _ _ a v _| .makeSlice _ a v| .indexAddr _ a v| .index _ a v| .lookup _ a v _| .mapEntry _ a v| .send a v=>[a,v]
 | .makeFunc _ first p=>first.toList++p.toList
 | .makeMap _ r=>match r with
  |some x=>[x]
  |none=>[]
 | .slice _ x l h m=>x::((match l with
  |some y=>[y]
  |none=>[])++((match h with
  |some y=>[y]
  |none=>[])++(match m with
  |some y=>[y]
  |none=>[])))
 | .mapUpdate _ m k v| .entryStore _ m k v| .insert _ m k v=>[m,k,v]
 | .call c=>match c.callee with
  | .value f=>f::c.args.toList
  | .invoke r _=>r::c.args.toList
  | .builtin _=>c.args.toList
 | .go _| .defer _| .select ..=>[]
theorem Fw{op:Op}(h1:∀c,op≠ .go c)(a:∀c,op≠ .defer c)(e:∀cs b,op≠ .select cs b):∀x∈op.operands,x∈opsOf op:=by
 intro x J;cases op<;>simp only[Op.operands,opsOf]at J ⊢<;>try (first|(simp at J;done)|(simp at J ⊢;exact J))
 case go c=>exact absurd rfl (h1 c)
 case defer c=>exact absurd rfl (a c)
 case select cs b=>exact absurd rfl (e cs b)
 case makeMap t r=>cases r<;>simp at J ⊢<;>exact J
 case slice t y l h m=>cases l<;>cases h<;>cases m<;>simpa[or_assoc]using J
 case call c=>cases f:c.callee<;>simpa[Call.operands,f]using J
def pY(e:S2->x1):Op->Option (Sem x1)
 | .pick c a b=>σ (do pure (if <-asBool (e c)then e a else e b))
 | .alloc p=>σ (Instr.alloc p true (.tuple #[]))
 | .box p x=>σ (Instr.box p (e x))
 | .build t parts=>σ (Instr.build t (partsOf e parts.toList).toArray)
 | .buildSlice t len parts=>σ (Y4 t len (partsOf e parts.toList).toArray)
 | .load t a=>σ (u5 t (e a))
 | .nilCheck x=>σ (bO (e x))
 | .binOp op h9 x y _=>σ (aM op h9 (oE x) (oE y) (e x) (e y))
 | .unOp op _ x=>σ (Op.unary op (e x))
 | .convert src dst x=>σ (convert src dst (e x))
 | .makeInterface h9 x=>σ (Instr.makeInterface h9 (e x))
 | .makeFunc fn first q=>σ (Instr.makeFunc fn (bT e first.toList).toArray (bT e q.toList).toArray)
 | .makeMap t r=>σ (Instr.makeMap t (r.map e))
 | .makeSlice t l c=>σ (Instr.makeSlice t (e l) (e c))
 | .slice t x lo hi mx=>σ (V8 t (e x) (lo.map e) (hi.map e) (mx.map e))
 | .fieldAddr s x f=>σ (u6 s (e x) f)
 | .field h9 x f=>σ (Instr.field h9 (e x) f)
 | .indexAddr t x h=>σ (c7 t (e x) (e h))
 | .index h9 x h=>σ (Instr.index h9 (e x) (e h))
 | .lookup h9 x h ok=>σ (Instr.lookup h9 (e x) (e h) ok)
 | .mapEntry t m k=>σ (Instr.mapEntry t (e m) (e k))
 | .range h9 x=>σ (Instr.range h9 (e x))
 | .entry w=>σ (Instr.entry (e w))
 | .typeAssert x h9 z ok=>σ (Instr.typeAssert (e x) h9 z ok)
 | .extract t h=>σ (Y0 (e t) h)
 |_=>ν
def uD(e:S2->x1):Op->Option (Sem Unit)
 | .store t a x=>σ (o8 t (e a) (e x))
 | .mapUpdate t m k x=>σ (Instr.mapUpdate t (e m) (e k) (e x))
 | .insert t m k x=>σ (Instr.mapUpdate t (e m) (e k) (e x))
 | .entryStore t m s x=>σ (Instr.entryStore t (e m) (e s) (e x))
 |_=>ν
def oF(b:Z3)(ats:Array p9)(a:p9)(args:Array x1):Option (Sem x1):=
 match b with
 | .append=>σ (Z0 ats a args)
 | .cap=>σ (Z3.cap_ ats a args)
 | .clear=>σ (Z3.clear_ ats a args)
 | .copy=>σ (Z3.copy_ ats a args)
 | .delete=>σ (Z3.delete_ ats a args)
 | .len=>σ (W9 ats a args)
 | .max=>σ (Z3.max_ ats a args)
 | .min=>σ (Z3.min_ ats a args)
 |_=>ν
theorem Fx{s:Sem Next}(h:(rN s).run P w= .ok v w'):s.run P w= .ok (.value v) w':=by
 unfold rN at h;rw[W0]at h;cases U:s.run P w with
 |halt x V=>rw[U]at h;simp[W3]at h
 |ok x V=>
  rw[U]at h;cases x<;>simp_all [W3,stuck,V1]
theorem Fy(x:x1)(b:Bool)(t:p9):Instr.next x b 0=Instr.next x b t:=rfl
theorem uE{f:S2->x1}{o:T2}{s:Sem x1}(h:pY f o.op=σ s)(a:s.run P w= .ok v w'):
  (execOp f o).run P w= .ok (.value v) w':=by
 cases e:o.op with
 |nilCheck x=>
  rw[e]at h;cases h;have:=Fx P a;unfold execOp at this ⊢;simpa[e]using this
 |pick c x y=>
  rw[e]at h;cases h;unfold execOp;simp only[e,W0,V1]at a ⊢;cases p:(asBool (f c)).run P w with
  |halt x V=>rw[p]at a;simp[W3]at a
  |ok x V=>rw[p]at a;simp only[W3,Result.ok.injEq]at a ⊢;simp[a]
 |binOp op h9 x y q=>
  rw[e]at h;cases h;unfold execOp;simp only[e];unfold aM at a;rw[<-Fu]at a;simp only[W0,V1]at a ⊢;rw[a];rfl
 |_=>
  rw[e]at h
  first
   |(cases h;done)
   |(cases h;simp only[uC,Fv]at a;unfold execOp;simp only[e,W0,a,W3,V1])
   |(cases h;unfold execOp;simp only[e,W0,a,W3,V1])
theorem Fz{a:S2->x1}{o:T2}{s:Sem Unit}(h:uD a o.op=σ s){v:Unit}(f:s.run P w= .ok v w'):
  (execOp a o).run P w= .ok .skip w':=by
 cases e:o.op with
 |_=>
  rw[e]at h
  first
   |(cases h;done)
   |(cases h;unfold execOp;simp only[e,W0,f,W3,V1])
def Enters(f:R5):Prop:=∀args w,(callFunc f args).run P w= .ok (.enter f args) w
inductive am(f:R5)(args:List x1)(w:x3)(K:x1->x3->Prop):Prop
 |code (h1:Enters P f) (h2:Calls P f args.toArray w λe w'=>∃v,e= .returned v/\cL w w'/\K v w')
 |ext (v:x1) (w':x3) (h1:(callFunc f args.toArray).run P w= .ok (.value v) w') (h2:cL w w') (h3:K v w')
inductive gF(f:R5)(args:List x1)(w:x3)(K:x1->x3->Prop):Prop
 |code (h1:Enters P f) (h2:Calls P f args.toArray w λe w'=>∃v,e= .returned v/\K v w')
 |ext (v:x1) (w':x3) (h1:(callFunc f args.toArray).run P w= .ok (.value v) w') (h3:K v w')
theorem gF.calls{f:R5}{K:x1->x3->Prop}(h:gF P f args w K)(a:Enters P f):Calls P f args.toArray w λe w'=>∃v,e= .returned v/\K v w':=by
 cases h with
 |code _ h=>exact h
 |ext v w' h1=>rw[a]at h1;cases h1
def hQ(l:Nat)(args:List x1)(w:x3)(K:x1->x3->Prop):Prop:=
 YieldAt Fence.wide 0 P l args.toArray w λe w'=>∃v,e= .returned v/\K v w'
theorem hQ.mono{P:W5}{l:Nat}{K a:x1->x3->Prop}(h:hQ P l args w K)(e:∀v w',K v w'->a v w'):hQ P l args w a:=by
 obtain⟨fn,tmps,f,body,p,q⟩:=h;exact⟨fn,tmps,f,body,p,RoundIn.mono q λ_ w' ⟨v,h1,r⟩=>⟨v,h1,e v w' r⟩⟩
def rP(free:Bool)(f:x1)(args:List x1)(w:x3)(K:x1->x3->Prop):Prop:=
 match f with
 | .func (.func g) first cap=>bif free then gF P g (first.toList++args++cap.toList) w K else am P g (first.toList++args++cap.toList) w K
 | .func (.yield l) first _=>bif free then free=true/\hQ P l (first.toList++args) w K else hQ P l (first.toList++args) w λv w'=>cL w w'/\K v w'
 |_=>False
def ac(s:Sem x1)(w:x3)(K:x1->Prop):Prop:=∃v,(∀w',Ext w w'->s.run P w'= .ok v w')/\K v
def FA:List (Nat×Nat):=[(9,22),(22,22)]
def FB(s d:Nat):Bool:=FA.any λp=>T7 p.1 s&&T7 p.2 d
def ja(o:T2):Bool:=
 match o.op with
 | .convert s d _=>!FB s d
 | .move _| .assign _| .pick .. | .load .. | .nilCheck _| .binOp .. | .unOp .. | .makeInterface .. | .makeFunc .. | .slice .. | .fieldAddr .. | .field ..
 | .indexAddr .. | .index .. | .lookup .. | .extract .. | .build .. | .typeAssert ..=>true
 | .call c=>
  match c.callee with
  | .builtin .len| .builtin .cap| .builtin .min| .builtin .max=>true
  |_=>false
 |_=>false
def cA(s:Sem x1)(v:x1)(w':x3):Prop:=∀a,Ext w' a->s.run P a= .ok v a
def lK(o:T2)(e:Env)(w:x3)(K:Env->(x3->Prop)->Prop):Prop:=
 bif known e (opsOf o.op)then
  match o.op with
  | .move x| .assign x=>
   match eB e x with
   |some y=>K (dU e o.dst y) (λ_=>True)
   |none=>False
  | .pick c a b=>
   match eB e c with
   |some (.b true)=>(match eB e a with|some y=>K (dU e o.dst y) (λ_=>True)|none=>False)
   |some (.b false)=>(match eB e b with|some y=>K (dU e o.dst y) (λ_=>True)|none=>False)
   |some (.v x)=>Split x (K (dU e o.dst (.v (cS e a))) (λ_=>True)) (K (dU e o.dst (.v (cS e b))) (λ_=>True))
   |some .u=>False
   |none=>False
  | .call c=>
   match c.callee with
   | .builtin b=>
    match oF b c.argTypes o.type (bT (cS e) c.args.toList).toArray with
    |some s=>ac P s w λv=>K (dU e o.dst (.v v)) (cA P s v)
    |none=>False
   |_=>False
  |op=>
   match pY (cS e) op with
   |some s=>ac P s w λv=>K (dU e o.dst (.v v)) (cA P s v)
   |none=>False
 else False
def uF(free:fC)(o:T2)(e:Env)(w:x3)(K:Env->x3->Prop):Prop:=
 bif known e (opsOf o.op)then
  match o.op with
  | .call c=>
   match c.callee with
   | .builtin b=>
    match oF b c.argTypes o.type (bT (cS e) c.args.toList).toArray with
    |some s=>aD P s w λv w'=>K (dU e o.dst (.v v)) w'
    |none=>False
   | .value (.func f)=>
    bif free.1 then gF P f (bT (cS e) c.args.toList) w λv w'=>K (dU e o.dst (.v v)) w'
    else am P f (bT (cS e) c.args.toList) w λv w'=>K (dU e o.dst (.v v)) w'
   | .value x=>rP P free.1 (cS e x) (bT (cS e) c.args.toList) w λv w'=>K (dU e o.dst (.v v)) w'
   | .invoke _ _=>False
  | .next x str=>rM P free (Instr.next (cS e x) str 0) w λv w'=>K (dU e o.dst (.v v)) w'
  |op=>
   match pY (cS e) op with
   |some s=>aD P s w λv w'=>K (dU e o.dst (.v v)) w'
   |none=>
    match uD (cS e) op with
    |some s=>aD P s w λ_ w'=>K (dU e o.dst (.v undef)) w'
    |none=>False
 else False
def oG(free:fC)(o:T2)(e:Env)(w:x3)(K:Env->x3->Prop):Prop:=
 bif ja o then lK P o e w (λa _=>K a w)else uF P free o e w K
theorem Enters.of{f:R5}{fn:Func}{c:Code}(ag:P.funcs[f]?=σ fn)(a:fn.body=σ c)(e:(fn.name == "runtime.NumGoroutine")=false):Enters P f:=by
 intro args w;have h:fn.name≠ "runtime.NumGoroutine":=by simpa using e
 unfold callFunc;simp[W0,program,Sem.run,W3,ag,h,a,V1]
variable{P}
variable{N:Nat}{r:Option Nat}{o:T2}{e:Env}{a:Act}{w:x3}
theorem kj(f:S4 N e a)(hk:known e (opsOf o.op)=true)(U:∀cs b,o.op≠ .select cs b)(h:∀c,o.op≠ .go c:=by simp_all)(p:∀c,o.op≠ .defer c:=by simp_all):
  execOp a.eval o=execOp (cS e) o:=
 execOp_congr o U λx J=>f.eval (uA hk x (Fw h p U x J))
theorem pZ{next:Act->x3->Prop}{Q:Exit->Act->x3->Prop}(p:S4 N e a)(hk:known e (opsOf o.op)=true)(U:∀cs b,o.op≠ .select cs b)(f:∀c,o.op≠ .defer c){v:x1}{w':x3}(q:(execOp (cS e) o).run P w= .ok (.value v) w')(h:next (a.put o.dst v) w')(s:∀c,o.op≠ .go c:=by simp_all):o.wpIn (ei r) 0 P a w next Q:=by
 refine⟨λ_ _=>trivial,?_⟩;rw[T2.semAt_eq _ _ _ f,kj p hk U s f,q,T2.uponIn_value];exact h
theorem FC{next:Act->x3->Prop}{Q:Exit->Act->x3->Prop}(p:S4 N e a)(hk:known e (opsOf o.op)=true)(U:∀cs b,o.op≠ .select cs b)(f:∀c,o.op≠ .defer c){w':x3}(q:(execOp (cS e) o).run P w= .ok .skip w')(h:next (a.put o.dst undef) w')(s:∀c,o.op≠ .go c:=by simp_all):o.wpIn (ei r) 0 P a w next Q:=by
 refine⟨λ_ _=>trivial,?_⟩;rw[T2.semAt_eq _ _ _ f,kj p hk U s f,q,T2.uponIn_skip];exact h
def fe(N:Nat)(free:fC)(K:Env->x3->Prop)(o:T2)(a:Act)(w:x3)(a':Act)(w':x3):Prop:=
 ∃e v,K e w'/\S4 N e a'/\a'=a.put o.dst v/\(free.1=false->cz free.2 w w')
theorem fe.of{free:fC}{K:Env->x3->Prop}{x:ep}(f:K (dU e o.dst x) w')(h:S4 N e a)(p:jG N o.dst=true)(J:x.val=v)(q:free.1=false->cz free.2 w w'):fe N free K o a w (a.put o.dst v) w':=⟨_,v,f,h.put p J,rfl,q⟩
theorem ym{free:fC}{K:Env->x3->Prop}{Q:Exit->Act->x3->Prop}{f:R5}{args:Array x1}(q:S4 N e a)(s:jG N o.dst=true)(h:Calls P f args w λp w'=>∃v,p= .returned v/\(free.1=false->cz free.2 w w')/\K (dU e o.dst (.v v)) w'):
  o.uponIn (ei r) 0 P a (fe N free K o a w) Q (.ok (.enter f args) w):=by
 rw[T2.uponIn_enter];refine⟨uB _ _,CallsIn.mono (yk h) ?_⟩;rintro p w' ⟨v,rfl,x,y⟩;exact fe.of y q s rfl x
theorem lL{x:S2}{y:ep}(h:eB e x=σ y):cS e x=y.val:=by simp[cS,h]
theorem yn{l:List S2}{x:S2}(hk:known e l=true)(J:x∈l):∃y,eB e x=σ y:=Option.isSome_iff_exists.1 (uA hk x J)
theorem yo{K:Env->(x3->Prop)->Prop}(h:lK P o e w K)(A:S4 N e a)(L:jG N o.dst=true):
  ∃v,∃st:x3->Prop,(∀w',Ext w w'->(execOp a.eval o).run P w'= .ok (.value v) w')/\(∃B,K B st/\S4 N B (a.put o.dst v))/\(∀c,o.op≠ .defer c)/\
   (∀w',st w'->∀p,Ext w' p->(execOp a.eval o).run P p= .ok (.value v) p):=by
 unfold lK at h;cases hk:known e (opsOf o.op)with
 |false=>rw[hk]at h;exact h.elim
 |true=>
  rw[hk]at h;simp only[cond_true]at h;have put:∀{x:ep}{v:x1}{st:x3->Prop},K (dU e o.dst x) st->x.val=v->∃B,K B st/\S4 N B (a.put o.dst v):=λh1 C=>⟨_,h1,A.put L C⟩;cases f:o.op with
  |move x=>
   rw[f]at h;simp only at h;cases J:eB e x with
   |none=>rw[J]at h;exact h.elim
   |some y=>
    rw[J]at h;have all:∀w':x3,(execOp a.eval o).run P w'= .ok (.value y.val) w':=λw'=>by
     rw[kj A hk (by simp[f])];unfold execOp;simp only[f,V1,lL J]
    exact⟨y.val,_,λw' _=>all w',put h rfl,Ξ,λ_ _ p _=>all p⟩
  |assign x=>
   rw[f]at h;simp only at h;cases J:eB e x with
   |none=>rw[J]at h;exact h.elim
   |some y=>
    rw[J]at h;have all:∀w':x3,(execOp a.eval o).run P w'= .ok (.value y.val) w':=λw'=>by
     rw[kj A hk (by simp[f])];unfold execOp;simp only[f,V1,lL J]
    exact⟨y.val,_,λw' _=>all w',put h rfl,Ξ,λ_ _ p _=>all p⟩
  |pick c x y=>
   rw[f]at h;simp only at h;have F:=hk;rw[f]at F;obtain⟨Q,J⟩:=yn F (x:=x) (by simp[opsOf]);obtain⟨R,I⟩:=yn F (x:=y) (by simp[opsOf]);have E:∀(t:Bool)(w':x3),cS e c= .bool t->(execOp a.eval o).run P w'= .ok (.value (if t=true then cS e x else cS e y)) w':=by
    intro t w' G;rw[kj A hk (by simp[f])];unfold execOp;simp[f,G,asBool,V1]
   cases q:eB e c with
   |none=>rw[q]at h;exact h.elim
   |some M=>
    rw[q]at h;cases M with
    |b t=>
     cases t with
     |true=>
      simp only[J]at h;exact⟨_,_,λw' _=>E true w' (lL q),put h (by simp[lL J]),Ξ,λ_ _ w' _=>E true w' (lL q)⟩
     |false=>
      simp only[I]at h;exact⟨_,_,λw' _=>E false w' (lL q),put h (by simp[lL I]),Ξ,λ_ _ w' _=>E false w' (lL q)⟩
    |v z=>
     obtain⟨t,O,G,ag⟩:=h;have r:=λw'=>E t w' (by rw[lL q];exact O);cases t with
     |true=>exact⟨_,_,λw' _=>r w',put (G rfl) rfl,Ξ,λ_ _ w' _=>r w'⟩
     |false=>exact⟨_,_,λw' _=>r w',put (ag rfl) rfl,Ξ,λ_ _ w' _=>r w'⟩
    |u=>exact h.elim
  |call c=>
   rw[f]at h;simp only at h;cases q:c.callee with
   |builtin b=>
    rw[q]at h;simp only at h;rw[uC]at h;cases U:oF b c.argTypes o.type (c.args.map (cS e))with
    |none=>rw[U]at h;exact h.elim
    |some s=>
     rw[U]at h;obtain⟨v,r,H⟩:=h;have all:∀w':x3,s.run P w'= .ok v w'->(execOp a.eval o).run P w'= .ok (.value v) w':=λw' r=>by
      rw[kj A hk (by simp[f])];unfold execOp;cases b<;>simp only[oF]at U<;>first|(cases U;done)|(cases U;simp[f,q,resolve,invoke,builtin,r,W3])
     exact⟨v,_,λw' hw=>all w' (r w' hw),put H rfl,Ξ,λw' h1 p C=>all p (h1 p C)⟩
   |value x=>rw[q]at h;exact h.elim
   |invoke x m=>rw[q]at h;exact h.elim
  |_=>
   rw[f]at h
   first
    |(simp only[pY]at h;done)
    |(obtain⟨v,r,H⟩:=h
      refine⟨v,_,λw' hw=>?_,put H rfl,Ξ,λw' h1 p C=>?_⟩
      .rw[kj A hk (by simp[f])];exact uE P (by rw[f];rfl) (r w' hw)
      .rw[kj A hk (by simp[f])];exact uE P (by rw[f];rfl) (h1 p C))
theorem FD{free:fC}{K:Env->x3->Prop}{Q:Exit->Act->x3->Prop}(h:uF P free o e w K)(q:S4 N e a)(E:jG N o.dst=true):
  o.wpIn (ei r) 0 P a w (fe N free K o a w) Q:=by
 unfold uF at h;cases hk:known e (opsOf o.op)with
 |false=>rw[hk]at h;exact h.elim
 |true=>
  rw[hk]at h;simp only[cond_true]at h;cases p:o.op with
  |call c=>
   rw[p]at h;simp only at h;cases F:c.callee with
   |builtin b=>
    rw[F]at h;simp only at h;rw[uC]at h;cases U:oF b c.argTypes o.type (c.args.map (cS e))with
    |none=>rw[U]at h;exact h.elim
    |some s=>
     rw[U]at h;obtain⟨v,w',z,B,C⟩:=h;refine pZ q hk (by simp[p]) (by simp[p]) (v:=v) (w':=w') ?_ (fe.of C q E rfl λ_=>B.b);unfold execOp;cases b<;>simp only[oF]at U<;>first|(cases U;done)|(cases U;simp[p,F,resolve,invoke,builtin,z,W3])
   |value x=>
    rw[F]at h;have step:∀(d:Deferred)(y:x1),cS e x=y->Deferred.ofValue y (c.args.map (cS e))=pure d->
      (invoke d.target d.args).run P w=(execOp (cS e) o).run P w:=by
     intro d y A S;unfold execOp;simp only[p,F,resolve,A,S,W0,V1,W3]
    have I:∀(g:R5)(first cap:Array x1),cS e x= .func (.func g) first cap->
      (execOp (cS e) o).run P w=(callFunc g (first.toList++bT (cS e) c.args.toList++cap.toList).toArray).run P w:=by
     intro g first cap A
     rw[<-step {target:=.fn (.func g) cap,args:=first++c.args.map (cS e)} _ A rfl];simp only[invoke];have J:first++c.args.map (cS e)++cap=(first.toList++bT (cS e) c.args.toList++cap.toList).toArray:=by apply Array.toList_inj.1;simp[rO]
     rw[J]
    have enter:∀(g:R5)(first cap:Array x1),cS e x= .func (.func g) first cap->Enters P g->
      (execOp (cS e) o).run P w= .ok (.enter g (first.toList++bT (cS e) c.args.toList++cap.toList).toArray) w:=by
     intro g first cap A G
     rw[I g first cap A,G]
    have go:∀(g:R5)(first cap:Array x1),cS e x= .func (.func g) first cap->
      (bif free.1 then gF P g (first.toList++bT (cS e) c.args.toList++cap.toList) w λv w'=>K (dU e o.dst (.v v)) w'
       else am P g (first.toList++bT (cS e) c.args.toList++cap.toList) w λv w'=>K (dU e o.dst (.v v)) w')->
      o.wpIn (ei r) 0 P a w (fe N free K o a w) Q:=by
     intro g first cap A h
     obtain⟨fr,T⟩:=free;cases fr with
     |true=>
      rcases h with⟨G,L⟩|⟨v,w',z,C⟩
      .refine⟨λ_ _=>trivial,?_⟩;rw[T2.semAt_eq _ _ _ (by simp[p]),kj q hk (by simp[p])];rw[enter g first cap A G];exact ym q E (L.mono λH w' ⟨v,h1,M⟩=>⟨v,h1,(λh=>by cases h),M⟩)
      .rw[<-I g first cap A]at z;exact pZ q hk (by simp[p]) (by simp[p]) z (fe.of C q E rfl λh=>by cases h)
     |false=>
      rcases h with⟨G,L⟩|⟨v,w',z,B,C⟩
      .refine⟨λ_ _=>trivial,?_⟩;rw[T2.semAt_eq _ _ _ (by simp[p]),kj q hk (by simp[p])];rw[enter g first cap A G];exact ym q E (L.mono λH w' ⟨v,h1,B,M⟩=>⟨v,h1,λ_=>B.b,M⟩)
      .rw[<-I g first cap A]at z;exact pZ q hk (by simp[p]) (by simp[p]) z (fe.of C q E rfl λ_=>B.b)
    have O:rP P free.1 (cS e x) (bT (cS e) c.args.toList) w (λv w'=>K (dU e o.dst (.v v)) w')->
      o.wpIn (ei r) 0 P a w (fe N free K o a w) Q:=by
     intro h;unfold rP at h;split at h
     .rename_i g first cap A
      exact go g first cap A h
     .rename_i l first cap A
      obtain⟨fn,tmps,R,body,V,W⟩:hQ P l (first.toList++bT (cS e) c.args.toList) w λv w'=>(free.1=false->cz free.2 w w')/\K (dU e o.dst (.v v)) w':=by
       obtain⟨fr,T⟩:=free;cases fr with
       |true=>exact hQ.mono h.2 λv w' hk=>⟨(λh=>by cases h),hk⟩
       |false=>exact hQ.mono h λv w' hk=>⟨λ_=>hk.1.b,hk.2⟩
      refine⟨λ_ _=>trivial,?_⟩;rw[T2.semAt_eq _ _ _ (by simp[p]),kj q hk (by simp[p])];have:(execOp (cS e) o).run P w= .ok (.round l fn tmps R body) w:=by
       rw[<-step {target:=.fn (.yield l) cap,args:=first++c.args.map (cS e)} _ A rfl,<-V];have J:(first.toList++bT (cS e) c.args.toList).toArray=first++c.args.map (cS e):=by apply Array.toList_inj.1;simp[rO]
       rw[J];rfl
      rw[this,T2.uponIn_round];refine⟨uB _ _,?_⟩;have X:RoundIn (ei r) (0-1) P l fn tmps R body w λH w'=>∃v,H= .returned v/\(free.1=false->cz free.2 w w')/\K (dU e o.dst (.v v)) w':=W;refine RoundIn.mono X ?_;rintro H w' ⟨v,rfl,B,C⟩;exact fe.of C q E rfl B
     .exact h.elim
    cases x with
    |func f=>exact go f #[] #[] rfl (by simpa using h)
    |tmp t=>exact O h
    |const v=>exact O h
    |global g=>exact O h
   |invoke x m=>rw[F]at h;exact h.elim
  |next x str=>
   rw[p]at h;obtain⟨v,w',z,B,C⟩:=h;refine pZ q hk (by simp[p]) (by simp[p]) (v:=v) (w':=w') ?_ (fe.of C q E rfl B);rw[Fy _ _ o.type]at z;unfold execOp;simp only[p,W0,z,W3,V1]
  |_=>
   rw[p]at h
   first
    |(simp only[pY,uD]at h;done)
    |(obtain⟨v,w',z,B,C⟩:=h
      exact pZ q hk (by simp[p]) (by simp[p]) (uE P (by rw[p];rfl) z) (fe.of C q E rfl λ_=>B.b))
    |(obtain⟨v,w',z,B,C⟩:=h
      exact FC q hk (by simp[p]) (by simp[p]) (Fz P (by rw[p];rfl) z) (fe.of C q E rfl λ_=>B.b))
theorem rQ{free:fC}{K:Env->x3->Prop}{Q:Exit->Act->x3->Prop}(h:oG P free o e w K)(p:S4 N e a)(q:jG N o.dst=true):
  o.wpIn (ei r) 0 P a w (fe N free K o a w) Q:=by
 unfold oG at h;cases s:ja o with
 |false=>rw[s]at h;exact FD h p q
 |true=>
  rw[s]at h;have h:lK P o e w (λf _=>K f w):=h;obtain⟨v,st,x,⟨f,y,z⟩,A,_⟩:=yo h p q;refine⟨λ_ _=>trivial,?_⟩;rw[T2.semAt_eq _ _ _ A,x w (Ext.refl _),T2.uponIn_value];exact⟨f,v,y,z,rfl,λ_=>cz.refl _ _⟩
end
section
variable{P:W5}
def Still{α:Type}(P:W5)(s:Sem α):Prop:=∀w v V,s.run P w= .ok v V->V=w/\∀w',s.run P w'= .ok v w'
theorem Still.pure{α:Type}(a:α):Still P (Pure.pure a:Sem α):=λw v V h=>by
 rw[V1]at h;cases h;exact⟨rfl,λw'=>by rw[V1]⟩
theorem Still.bind{α β:Type}{s:Sem α}{f:α->Sem β}(U:Still P s)(ag:∀a,Still P (f a)):Still P (s >>= f):=λw v V h=>by
 rw[W0]at h;cases e:s.run P w with
 |halt x aa=>rw[e]at h;simp[W3]at h
 |ok a aa=>
  rw[e]at h;obtain⟨rfl,p⟩:=U w a aa e;obtain⟨rfl,q⟩:=ag a _ v V h;exact⟨rfl,λw'=>by rw[W0,p w'];exact q w'⟩
theorem Still.never{α:Type}{s:Sem α}(h:∀w v V,s.run P w≠ .ok v V):Still P s:=λw v V h'=>absurd h' (h w v V)
theorem Still.stuck{α:Type}(m:String):Still P (stuck m:Sem α):=.never λw v V h=>by simp[Go.stuck]at h
theorem Still.unsupported{α:Type}(m):Still P (unsupported m:Sem α):=.never λw v V h=>by simp[Go.unsupported]at h
theorem Still.program:Still P program:=λw v V h=>by cases h;exact⟨rfl,λ_=>rfl⟩
theorem Still.underlying(t:p9):Still P (underlying t):=Still.bind .program λp=>by
 cases p.underlying t with
 |some d=>exact Still.pure d
 |none=>exact Still.stuck _
theorem Still.typeInfo(t:p9):Still P (typeInfo t):=Still.bind .program λp=>by
 cases p.info? t with
 |some d=>exact Still.pure d
 |none=>exact Still.stuck _
theorem Still.sizeOf(t:p9):Still P (sizeOf t):=Still.bind (.typeInfo t) λ_=>Still.pure _
theorem Still.boundsPanic{α:Type}(k:o6)(x y:Int)(c:BoundsCode):Still P (boundsPanic k x y c:Sem α):=.never λw v V h=>by
 have e:∀(s:Sem Bool)(w:x3)(v:α)(V:x3),(s >>= λb=>(runtimePanic (.bounds (X5.wrap x) y b c):Sem α)).run P w≠ .ok v V:=by
  intro s w v V h;rw[W0]at h;cases f:s.run P w with
  |halt x aa=>rw[f]at h;simp[W3]at h
  |ok a aa=>rw[f]at h;simp[W3,Go.runtimePanic,Go.goPanic]at h
 unfold Go.boundsPanic at h;dsimp only at h;split at h
 .exact e _ _ _ _ h
 .exact e _ _ _ _ h
theorem Still.asIntOf(v:x1):Still P (asIntOf v):=by
 unfold Go.asIntOf;split
 .exact Still.pure _
 .exact Still.unsupported _
 .exact Still.stuck _
theorem Still.sureAddr(v:x1):Still P (Instr.sureAddr v):=by
 unfold Instr.sureAddr;split
 .exact Still.pure _
 .exact Still.stuck _
theorem Still.extract(v:x1)(i:Nat):Still P (Y0 v i):=by
 unfold Y0;split
 .split
  .exact Still.pure _
  .exact Still.stuck _
 .exact Still.stuck _
theorem Still.indexAt(t:p9)(x i:x1):Still P (c7 t x i):=by
 have tail:∀(t:p9)(k:o6)(i:Int)(base:Option Addr)(len:Nat)(e:p9),Still P (do
   let f:=len<=1&&(match <-Go.underlying t with| .array ..=>true|_=>false)
   match base with
   |some a=>
    if 0<=i/\i<len then Pure.pure (x1.pointer (σ (a.add (i.toNat*(<-Go.sizeOf e)))))
    else if f then Go.unsupported (.noEntry "op/indexAddr.an index out of range at an array of length 0 or 1 (ledger 616)")
    else Go.boundsPanic k i len .index
   |none=>Go.boundsPanic k i 0 .index):=by
  intro t k i base len e;refine .bind (.underlying t) λd=>?_;cases base with
  |none=>exact Still.boundsPanic _ _ _ _
  |some a=>
   dsimp only;split
   .exact .bind (.sizeOf e) λ_=>.pure _
   .split<;>split<;>first|exact Still.unsupported _|exact Still.boundsPanic _ _ _ _
 unfold c7;refine .bind (.asIntOf i) λh=>?_;refine .bind (.underlying t) λd=>?_;split
 .refine .bind (.sureAddr _) λb=>?_;refine .bind (.pure _) λy=>?_;exact tail _ _ _ _ _ _
 .refine .bind (.pure _) λy=>?_;exact tail _ _ _ _ _ _
 .refine .bind (.stuck _) λy=>?_;exact tail _ _ _ _ _ _
end
section
variable(P:W5)
def rR(free:fC)(ops:Array T2)(o:T2)(e:Env)(w:x3)(K:Env->x3->Prop):Prop:=
 match o.guard with
 |none=>oG P free o e w K
 |some (j,b)=>
  match(ops[j]?).bind (·.dst)with
  |none=>False
  |some s=>
   match look e s with
   |some (.b c)=>bif xor c b then K (dU e o.dst .u) w else oG P free o e w K
   |some (.v x)=>
    Split x (bif b then oG P free o ((s,.b true)::e) w K else K (dU ((s,.b true)::e) o.dst .u) w)
     (bif b then K (dU ((s,.b false)::e) o.dst .u) w else oG P free o ((s,.b false)::e) w K)
   |some .u=>K (dU e o.dst .u) w
   |none=>False
def oH(free:fC)(ops:Array T2):List T2->Env->x3->(Env->x3->Prop)->Prop
 |[],e,w,K=>K e w
 |o::l,e,w,K=>rR P free ops o e w λa w'=>oH free ops l a w' K
def uG(ops:Array T2)(o:T2)(e:Env)(w:x3)(K:Env->(x3->Prop)->Prop):Prop:=
 match o.guard with
 |none=>lK P o e w K
 |some (j,b)=>
  match(ops[j]?).bind (·.dst)with
  |none=>False
  |some s=>
   match look e s with
   |some (.b c)=>bif xor c b then K (dU e o.dst .u) (λ_=>True)else lK P o e w K
   |some (.v x)=>
    Split x (bif b then lK P o ((s,.b true)::e) w K else K (dU ((s,.b true)::e) o.dst .u) (λ_=>True))
     (bif b then K (dU ((s,.b false)::e) o.dst .u) (λ_=>True)else lK P o ((s,.b false)::e) w K)
   |some .u=>K (dU e o.dst .u) (λ_=>True)
   |none=>False
def lM(o:T2):Bool:=
 match o.op with
 | .move _| .assign _| .extract .. | .indexAddr ..=>true
 |_=>false
def mn(ops:Array T2):List Nat->Option Nat
 |[]=>ν
 |i::r=>match ops[i]? with
  |some o=>bif ja o then σ i else mn ops r
  |none=>mn ops r
def uH(p:Nat->Prop):List Nat->Prop
 |[]=>True
 |[i]=>p i
 |i::r=>p i/\uH p r
def kU(bs:Array Nat)(j k:Nat):Bool:=!(T7 k j)&&(!((bs.getD j 0).testBit k)&& !((bs.getD k 0).testBit j))
def p0(same:Bool)(q:Nat)(w:x3)(st:x3->Prop)(a:List (x3×List (Nat×(x3->Prop)))):List (x3×List (Nat×(x3->Prop))):=
 match same,a with
 |true,g::r=>(g.1,(q,st)::g.2)::r
 |_,a=>(w,[(q,st)])::a
def p1(bs:Array Nat)(j:Nat):List (Nat×(x3->Prop))->Bool
 |[]=>false
 |x::r=>kU bs j x.1||p1 bs j r
def oI(bs:Array Nat)(j:Nat)(w':x3):List (Nat×(x3->Prop))->Prop
 |[]=>True
 |x::r=>bif kU bs j x.1 then x.2 w'/\oI bs j w' r else oI bs j w' r
def nl(bs:Array Nat)(j:Nat)(w':x3)(C:Prop):List (x3×List (Nat×(x3->Prop)))->Prop
 |[]=>C
 |g::r=>bif p1 bs j g.2 then(Ext g.1 w'\/oI bs j w' g.2)/\nl bs j w' C r else nl bs j w' C r
def mo(free:fC)(ops:Array T2)(bs:Array Nat):Nat->Array Bool->Bool->List (x3×List (Nat×(x3->Prop)))->Env->x3->(Env->x3->Prop)->Prop
 |0,a,_,_,e,w,K=>match Region.ready .any ops a with|[]=>K e w|_=>False
 |fuel+1,a,same,f,e,w,K=>
  match Region.ready .any ops a with
  |[]=>K e w
  |i::r=>
   match mn ops (i::r)with
   |some q=>
    bif Region.free .any ops a q then
     match ops[q]? with
     |some o=>uG P ops o e w λh st=>
       bif lM o then mo free ops bs fuel (a.setIfInBounds q true) same f h w K
       else mo free ops bs fuel (a.setIfInBounds q true) true (p0 same q w st f) h w K
     |none=>False
    else False
   |none=>
    uH (λj=>match ops[j]? with
     |some o=>rR P free ops o e w λh w'=>nl bs j w' (mo free ops bs fuel (a.setIfInBounds j true) false f h w' K) f
     |none=>False) (i::r)
def uI(free:fC)(ops:Array T2)(e:Env)(w:x3)(K:Env->x3->Prop):Prop:=
 bif Region.noSelect ops then mo P free ops (Region.before ops) ops.size (Array.replicate ops.size false) false [] e w K else False
end
section
variable{P:W5}{N:Nat}{r:Option Nat}{free:fC}{ops:Array T2}
theorem FE{e:Env}{a:Act}(p:S4 N e a){s:Nat}{c:Bool}(q:(ops[j]?).bind (·.dst)=σ s){x:ep}(U:look e s=σ x)(J:x.val= .bool c):
  yielded ops a.tmps j=σ c:=by
 have h:=p.2 s x U;rw[J]at h;have r:a.tmps[s]?=σ (.bool c):=by
  rw[Array.getD_eq_getD_getElem?]at h;cases f:a.tmps[s]? with
  |none=>rw[f]at h;simp[undef]at h
  |some y=>rw[f]at h;simpa using h
 simp[yielded,q,r]
theorem rS{e:Env}{a:Act}(f:S4 N e a){o:T2}{s:Nat}{b c:Bool}(h:o.guard=σ (j,b))(p:(ops[j]?).bind (·.dst)=σ s){x:ep}(U:look e s=σ x)(J:x.val= .bool c):Region.wanted o (yielded ops a.tmps)= !(xor c b):=by
 simp only[Region.wanted,h,FE f p U J];cases c<;>cases b<;>rfl
theorem yp{e:Env}{a:Act}(p:S4 N e a){o:T2}{s:Nat}{b:Bool}(q:o.guard=σ (j,b))(r:(ops[j]?).bind (·.dst)=σ s)(U:look e s=σ .u):Region.wanted o (yielded ops a.tmps)=false:=by
 have h:=p.2 s .u U;have w:yielded ops a.tmps j=ν:=by
  rw[Array.getD_eq_getD_getElem?]at h;unfold yielded;rw[r];cases f:a.tmps[s]? with
  |none=>simp[f]
  |some y=>
   rw[f]at h;simp only[V2,ep.val]at h;subst h;simp[f,undef]
 simp[Region.wanted,q,w]
theorem S4.lit{e:Env}{a:Act}(h:S4 N e a){s:Nat}{x:ep}{c:Bool}(U:look e s=σ x)(J:x.val= .bool c):S4 N ((s,.b c)::e) a:=by
 refine⟨h.1,λt y f=>?_⟩;simp only[look]at f;cases p:T7 s t with
 |true=>
  have:s=t:=Nat.eq_of_beq_eq_true p;subst this;simp only[p,cond_true,Y1]at f;subst f;rw[h.2 s x U,J];rfl
 |false=>simp only[p,cond_false]at f;exact h.2 t y f
theorem yq{o:T2}{e:Env}{a:Act}{K:Env->x3->Prop}{Q:Exit->Act->x3->Prop}(h:rR P free ops o e w K)(f:S4 N e a)(p:jG N o.dst=true):
  (Region.wanted o (yielded ops a.tmps)=true/\o.wpIn (ei r) 0 P a w (fe N free K o a w) Q)\/
  (Region.wanted o (yielded ops a.tmps)=false/\fe N free K o a w (a.put o.dst undef) w):=by
 unfold rR at h;cases q:o.guard with
 |none=>rw[q]at h;exact .inl ⟨by simp[Region.wanted,q],rQ h f p⟩
 |some C=>
  obtain⟨j,b⟩:=C;rw[q]at h;simp only at h;cases z:(ops[j]?).bind (·.dst)with
  |none=>rw[z]at h;exact h.elim
  |some s=>
   rw[z]at h;simp only at h;cases U:look e s with
   |none=>rw[U]at h;exact h.elim
   |some x=>
    rw[U]at h;cases x with
    |b c=>
     simp only at h;have hw:=rS f q z U (c:=c) rfl;cases J:xor c b with
     |true=>
      rw[J]at h hw;exact .inr ⟨hw,fe.of h f p rfl λ_=>cz.refl _ _⟩
     |false=>
      rw[J]at h hw;exact .inl ⟨hw,rQ h f p⟩
    |v y=>
     simp only at h;obtain⟨c,rfl,A,ag⟩:=h;have hw:=rS f q z U (c:=c) rfl;have B:=f.lit U (c:=c) rfl;cases c with
     |true=>
      have A:=A rfl;cases b with
      |true=>exact .inl ⟨hw,rQ A B p⟩
      |false=>exact .inr ⟨hw,fe.of A B p rfl λ_=>cz.refl _ _⟩
     |false=>
      have ag:=ag rfl;cases b with
      |true=>exact .inr ⟨hw,fe.of ag B p rfl λ_=>cz.refl _ _⟩
      |false=>exact .inl ⟨hw,rQ ag B p⟩
    |u=>exact .inr ⟨yp f q z U,fe.of h f p rfl λ_=>cz.refl _ _⟩
def gG(D:List Nat)(a a':Act):Prop:=a'.defers=a.defers/\∀t,t∉D->a'.tmps.getD t undef=a.tmps.getD t undef
theorem gG.refl(D:List Nat)(a:Act):gG D a a:=⟨rfl,λ_ _=>rfl⟩
theorem gG.trans{a b c:Act}(h:gG D a b)(k:gG D b c):gG D a c:=⟨k.1.trans h.1,λt e=>(k.2 t e).trans (h.2 t e)⟩
theorem gG.put(a:Act){d:Option Tmp}(v:x1)(e:∀t,d=σ t->t∈D):gG D a (a.put d v):=by
 cases d with
 |none=>exact gG.refl _ _
 |some s=>
  refine⟨rfl,λt f=>?_⟩;have p:s≠t:=λh=>f (h▸e s rfl);simp only[Act.put,Array.getD_eq_getD_getElem?];rw[Array.getElem?_setIfInBounds_ne p]
def mp(N:Nat)(free:fC)(K:Env->x3->Prop)(D:List Nat)(a:Act)(w:x3)(a':Act)(w':x3):Prop:=
 ∃e,K e w'/\S4 N e a'/\gG D a a'/\(free.1=false->cz free.2 w w')
theorem mp.step{K:Env->x3->Prop}{a e a':Act}{V:x3}(h:mp N free K D e V a' w')(hk:gG D a e)(f:free.1=false->cz free.2 w V):
  mp N free K D a w a' w':=by
 obtain⟨p,h1,q,r,s⟩:=h;exact⟨p,h1,q,hk.trans r,λag=>(f ag).trans (s ag)⟩
def nn(N:Nat)(l:List T2):Bool:=l.all λo=>jG N o.dst
theorem FF{K:Env->x3->Prop}{Q:Exit->Act->x3->Prop}(A:∀o∈ops.toList,∀t,o.dst=σ t->t∈D)(x:nn N ops.toList=true):
  ∀(l:List T2)(k:Nat)(e:Env)(a:Act)(w:x3),(∀j,l[j]?=ops[k+j]?)->oH P free ops l e w K->S4 N e a->
   (∀a' w',mp N free K D a w a' w'->Q .normal a' w')->wpOpsIn (ei r) 0 P ops Q (List.range' k l.length) a w:=by
 intro l;induction l with
 |nil=>
  intro k e a w _ h f p;exact p a w ⟨e,h,f,gG.refl _ _,λ_=>cz.refl _ _⟩
 |cons o l B=>
  intro k e a w y h f p;have q:=y 0;simp only[List.getElem?_cons_zero,Nat.add_zero]at q;have z:o∈ops.toList:=by
   have:=q.symm;rw[<-S6]at this;exact x5 this
  have C:jG N o.dst=true:=by
   simp only[nn,List.all_eq_true]at x;exact x o z
  have E:∀j,l[j]?=ops[k+1+j]?:=λj=>by
   have:=y (j+1);rw[List.getElem?_cons_succ]at this;rw[this];congr 1;omega
  have next:∀s V,fe N free (λF w'=>oH P free ops l F w' K) o a w s V->wpOpsIn (ei r) 0 P ops Q (List.range' (k+1) l.length) s V:=by
   rintro s V ⟨G,v,H,I,rfl,L⟩;refine B (k+1) G _ V E H I λa' w' M=>p a' w' (M.step (gG.put a v λt O=>A o z t O) L)
  simp only[oH]at h;show wpOpsIn (ei r) 0 P ops Q (k::List.range' (k+1) l.length) a w;unfold wpOpsIn;rw[<-q];simp only;rcases yq (r:=r) (Q:=Q) h f C with⟨hw,J⟩|⟨hw,J⟩
  .rw[if_pos hw];exact T2.wpIn_mono next J
  .rw[hw];exact⟨λ_ _=>trivial,next _ _ J⟩
theorem FG{K:Env->x3->Prop}{Q:Exit->Act->x3->Prop}{id:Nat}{e:Env}{a:Act}(f:∀o∈ops.toList,∀t,o.dst=σ t->t∈D)(p:nn N ops.toList=true)(h:oH P free ops ops.toList e w K)(q:S4 N e a)(s:∀a' w',mp N free K D a w a' w'->Q .normal a' w'):
  (Code.region id ops false).wpIn (ei r) 0 P Q a w:=by
 refine wpIn_region ?_;have:=FF (r:=r) f p ops.toList 0 e a w (λj=>Ξ) h q s;rw[List.range_eq_range'];simpa using this
end
section
variable{P:W5}{N:Nat}{r:Option Nat}{free:fC}{ops:Array T2}{Q:Exit->Act->x3->Prop}
theorem FH(e:Option Nat)(o:T2)(U:∀cs b,o.op≠ .select cs b)(a:Act)(d:Option Tmp)(v:x1)(h:∀t,d=σ t->t∉o.looksAt ops):
  o.semAt e (a.put d v).eval=o.semAt e a.eval:=by
 have he:=execOp_put o U a d v h;unfold T2.semAt;split
 .rename_i l c f;have:resolve (a.put d v).eval c o.type=resolve a.eval c o.type:=resolve_congr c o.type λx J=>Act.eval_put λt p q=>h t p (by
   subst q;refine List.mem_append_left _ (List.mem_filterMap.2 ⟨.tmp t,?_,rfl⟩);rw[f];simpa[Op.operands]using J)
  rw[this]
 .exact he
def mq(o:T2)(w0:x3)(st:x3->Prop)(w':x3):Prop:=lM o=true\/Ext w0 w'\/∃V,st V/\Ext V w'
theorem mq.ext{o:T2}{w0:x3}{st:x3->Prop}(h:mq o w0 st w)(k:Ext w w'):mq o w0 st w':=by
 rcases h with h|h|⟨V,h1,a⟩
 .exact .inl h
 .exact .inr (.inl (h.trans k))
 .exact .inr (.inr ⟨V,h1,a.trans k⟩)
theorem FI{o:T2}(hm:lM o=true){a:S2->x1}(h:(execOp a o).run P w= .ok (.value v) w):(execOp a o).run P w'= .ok (.value v) w':=by
 unfold lM at hm;split at hm
 .rename_i x J;unfold execOp at h ⊢;simp only[J,V1,Result.ok.injEq,and_true]at h ⊢;exact h
 .rename_i x J;unfold execOp at h ⊢;simp only[J,V1,Result.ok.injEq,and_true]at h ⊢;exact h
 .rename_i x i J;unfold execOp at h ⊢;simp only[J]at h ⊢;exact((Still.bind (Still.extract _ _) λ_=>Still.pure _) _ _ _ h).2 _
 .rename_i t x i J;unfold execOp at h ⊢;simp only[J]at h ⊢;exact((Still.bind (Still.indexAt _ _ _) λ_=>Still.pure _) _ _ _ h).2 _
 .cases hm
def ia(P:W5)(ops:Array T2)(o:T2)(v:x1)(a:Act)(w0:x3->Prop):Prop:=
 (Region.wanted o (yielded ops a.tmps)=true/\(∀c,o.op≠ .defer c)/\∀w',w0 w'->(execOp a.eval o).run P w'= .ok (.value v) w')\/
 (Region.wanted o (yielded ops a.tmps)=false/\v=undef)
theorem ia.put{o e:T2}{a:Act}{w0:x3->Prop}(f:ia P ops o v a w0)(U:∀cs b,o.op≠ .select cs b)(h:∀t,e.dst=σ t->t∉o.looksAt ops)(u:x1):
  ia P ops o v (a.put e.dst u) w0:=by
 unfold ia at*;rw[execOp_put o U a e.dst u h,wanted_put o a e.dst u h];exact f
theorem ia.go{i:Nat}{e:T2}{a:Act}{w0:x3->Prop}(hi:ops[i]?=σ e)(f:ia P ops e v a w0)(hw:w0 w){K:Act->x3->Prop}(h:K (a.put e.dst v) w):
  wpOpIn (ei r) 0 P ops Q i K a w:=by
 unfold wpOpIn;simp only[hi];rcases f with⟨h1,p,q⟩|⟨h1,rfl⟩
 .rw[if_pos h1];refine⟨λ_ _=>trivial,?_⟩;rw[T2.semAt_eq _ _ _ p,q w hw,T2.uponIn_value];exact h
 .rw[h1];exact⟨λ_ _=>trivial,h⟩
theorem FJ{p s:T2}(B:ops[j]?=σ s)(C:p.apart ops s=true)(E:∀cs b,p.op≠ .select cs b)(F:∀cs b,s.op≠ .select cs b)(z:∀c a w,¬Q (.panic c) a w){K:Act->x3->Prop}{a:Act}{w:x3}{w0:x3->Prop}(q:ia P ops p v a w0)(h:wpOpIn (ei r) 0 P ops Q j K (a.put p.dst v) w):
  wpOpIn (ei r) 0 P ops Q j (λa' w'=>ia P ops p v a' w0/\K (a'.put p.dst v) w') a w:=by
 obtain⟨h1,y,G⟩:=T2.apart_spec C;have aZ:∀(a:Act),ia P ops p v a w0->∀u,ia P ops p v (a.put s.dst u) w0:=λa q u=>q.put E G u;have H:∀d,ia P ops p v {a with defers:=d::a.defers} w0:=λd=>q;unfold wpOpIn at*;simp only[B]at*;rw[wanted_put s a p.dst v h1]at h;split
 .rename_i hw;simp only[hw,if_true]at h;obtain⟨_,h⟩:=h;refine⟨λ_ _=>trivial,?_⟩;rw[FH _ s F a p.dst v h1]at h;generalize (s.semAt (ei r).round a.eval).run P w=res at*;cases res with
  |ok n w'=>
   cases n<;>simp only[T2.uponIn]at h ⊢
   case value u=>exact⟨aZ a q u,by rw[<-Act.put_comm a v u y];exact h⟩
   case skip=>exact⟨aZ a q _,by rw[<-Act.put_comm a v undef y];exact h⟩
   case defer d=>
    refine⟨aZ _ (H d) _,?_⟩;rw[<-Act.put_comm _ v undef y,<-Act.put_defers];exact h
   case enter f args=>
    refine⟨h.1,CallsIn.mono h.2 λe A he=>?_⟩;cases e with
    |returned u=>exact⟨aZ a q u,by rw[<-Act.put_comm a v u y];exact he⟩
    |panicked c=>exact absurd he (z _ _ _)
    |outgrown=>exact he
   case row row args=>exact⟨h.1,RowsIn.mono h.2 λu A he=>⟨aZ a q u,by rw[<-Act.put_comm a v u y];exact he⟩⟩
   case round l f tmps I body=>
    refine⟨h.1,RoundIn.mono h.2 λe A he=>?_⟩;cases e with
    |returned u=>exact⟨aZ a q u,by rw[<-Act.put_comm a v u y];exact he⟩
    |panicked c=>exact absurd he (z _ _ _)
    |outgrown=>exact he
  |halt x w'=>
   cases x<;>simp only[T2.uponIn]at h ⊢
   case panic u=>exact absurd h (z _ _ _)
 .rename_i hw;simp only[hw]at h;exact⟨λ_ _=>trivial,aZ a q _,by rw[<-Act.put_comm a v undef y];exact h.2⟩
def lN(ops:Array T2)(bs:Array Nat):Bool:=
 (X0 ops.size).all λj=>(X0 ops.size).all λk=>!((bs.getD j 0).testBit k)||
  (match ops[j]? with
   |some o=>o.after.any λe=>Region.binds .any e&&Nat.blt e.on j&&(T7 e.on k||(bs.getD e.on 0).testBit k)
   |none=>false)
def Down(ops:Array T2)(a:Array Bool):Prop:=
 ∀(x:Nat)(o:T2),ops[x]?=σ o->a.getD x false=true->∀e∈o.after,Region.binds .any e=true->a.getD e.on false=true
theorem yr{bs:Array Nat}(a:lN ops bs=true){k:Nat}(p:j<ops.size)(hk:k<ops.size)(h:(bs.getD j 0).testBit k=true):
  ∃o,ops[j]?=σ o/\∃e∈o.after,Region.binds .any e=true/\e.on<j/\(e.on=k\/(bs.getD e.on 0).testBit k=true):=by
 simp only[lN,List.all_eq_true,T6]at a;have:=a j p k hk;rw[h]at this;simp only[X1,Bool.false_or]at this;cases f:ops[j]? with
 |none=>rw[f]at this;cases this
 |some o=>
  rw[f]at this;obtain⟨e,he,J⟩:=Array.any_eq_true'.1 this;simp only[V7,Nat.blt_eq,Bool.or_eq_true]at J;exact⟨o,rfl,e,he,J.1.1,J.1.2,J.2.imp (λh=>Nat.eq_of_beq_eq_true h) id⟩
theorem FK{bs:Array Nat}{a:Array Bool}(p:lN ops bs=true)(q:Down ops a):∀(j k:Nat),j<ops.size->k<ops.size->a.getD j false=true->
  (bs.getD j 0).testBit k=true->a.getD k false=true:=by
 intro j;induction j using Nat.strongRecOn with
 |_ j r=>
  intro k s hk w h;obtain⟨o,x,e,he,y,z,h⟩:=yr p s hk h;have f:=q j o x w e he y;rcases h with rfl|h
  .exact f
  .exact r e.on z k Ω hk f h
theorem ys{bs:Array Nat}{a:Array Bool}(f:lN ops bs=true)(s:Down ops a){k:Nat}(hk:k<ops.size)(w:j∈Region.ready .any ops a)(h:(bs.getD j 0).testBit k=true):a.getD k false=true:=by
 obtain⟨_,o,p,x⟩:=mem_ready.1 w;have y:=(l9.1 p).1;obtain⟨o',q,e,he,z,A,h⟩:=yr f y hk h;rw[p]at q;cases q;have r:=x e he z;rcases h with rfl|h
 .exact r
 .exact FK f s e.on k Ω hk r h
theorem Down.set{a:Array Bool}(r:Down ops a){i:Nat}(s:i∈Region.ready .any ops a):Down ops (a.setIfInBounds i true):=by
 intro x o J f e he h;by_cases p:x=i
 .subst p;obtain⟨_,o',q,w⟩:=mem_ready.1 s;rw[J]at q;cases q;exact getD_set_true (w e he h)
 .rw[getD_set_ne false (Ne.symm p)]at f;exact getD_set_true (r x o J f e he h)
theorem uJ{a:Array Bool}{k:Nat}(h:a.getD k true=false):a.getD k false=false:=by
 rcases Nat.lt_or_ge k a.size with h'|h'
 .simpa[h']using h
 .simp[Array.getElem?_eq_none h']at h
def mr(ops:Array T2)(i:Nat):Bool:=match ops[i]? with
 |some o=>ja o
 |none=>false
def mu(bs:Array Nat)(a:List (x3×List (Nat×(x3->Prop))))(j:Nat)(w':x3):Prop:=∀g∈a,∀x∈g.2,kU bs j x.1=true->Ext g.1 w'\/x.2 w'
theorem uK{bs:Array Nat}{j:Nat}{w':x3}:∀{l:List (Nat×(x3->Prop))},oI bs j w' l->∀x∈l,kU bs j x.1=true->x.2 w'
 |[],_,_,h,_=>by cases h
 |y::l,h,x,J,hu=>by
  unfold oI at h;cases a:kU bs j y.1 with
  |true=>
   rw[a]at h;cases J with
   |head=>exact h.1
   |tail _ J=>exact uK h.2 x J hu
  |false=>
   rw[a]at h;cases J with
   |head=>rw[a]at hu;cases hu
   |tail _ J=>exact uK (show oI bs j w' l from h) x J hu
theorem yt{bs:Array Nat}{j:Nat}:∀{l:List (Nat×(x3->Prop))},p1 bs j l=false->∀x∈l,kU bs j x.1=false
 |[],_,_,h=>by cases h
 |y::l,h,x,J=>by
  simp only[p1,S5]at h;cases J with
  |head=>exact h.1
  |tail _ J=>exact yt h.2 x J
theorem uL{bs:Array Nat}{j:Nat}{w':x3}{C:Prop}:∀{q:List (x3×List (Nat×(x3->Prop)))},nl bs j w' C q->C/\mu bs q j w'
 |[],h=>⟨h,λg s=>by cases s⟩
 |g::r,h=>by
  unfold nl at h;cases hu:p1 bs j g.2 with
  |true=>
   rw[hu]at h;obtain⟨h1,f⟩:=uL h.2;refine⟨h1,λp a x J e=>?_⟩;cases a with
   |head=>exact h.1.imp id λh=>uK h x J e
   |tail _ a=>exact f p a x J e
  |false=>
   rw[hu]at h;obtain⟨h1,f⟩:=uL (show nl bs j w' C r from h);refine⟨h1,λp a x J e=>?_⟩;cases a with
   |head=>rw[yt hu x J]at e;cases e
   |tail _ a=>exact f p a x J e
def uM(ops:Array T2)(bs:Array Nat)(a:List (x3×List (Nat×(x3->Prop))))(j:Nat)(w w':x3):Prop:=(mr ops j=true->Ext w w')/\(mr ops j=false->mu bs a j w')
def iE(r:Option Nat)(P:W5)(ops:Array T2)(bs:Array Nat)(Q:Exit->Act->x3->Prop):Nat->Array Bool->List (x3×List (Nat×(x3->Prop)))->Act->x3->Prop
 |0,e,_,a,w=>Region.ready .any ops e=[]/\Q .normal a w
 |fuel+1,e,f,a,w=>(Region.ready .any ops e=[]->Q .normal a w)/\
  ∀i∈Region.ready .any ops e,wpOpIn (ei r) 0 P ops Q i (λa' w'=>uM ops bs f i w w'/\iE r P ops bs Q fuel (e.setIfInBounds i true) f a' w') a w
theorem iE.any{bs:Array Nat}:∀(fuel:Nat)(e:Array Bool)(f:List (x3×List (Nat×(x3->Prop))))(a:Act)(w:x3),iE r P ops bs Q fuel e f a w->wpAnyIn (ei r) 0 P .any ops Q fuel e a w
 |0,_,_,_,_,h=>h
 |fuel+1,_,_,_,_,h=>⟨h.1,λi hi=>wpOpIn_mono (λa' w' h'=>iE.any fuel _ _ a' w' h'.2) (h.2 i hi)⟩
theorem FL{bs:Array Nat}{a:Array Bool}(e:lN ops bs=true)(f:Down ops a){i:Nat}{r:T2}(hi:ops[i]?=σ r)(p:i∈Region.ready .any ops a)(q:j∈Region.ready .any ops a)(s:j≠i):kU bs j i=true:=by
 have w:=(l9.1 hi).1;obtain⟨x,B,y,_⟩:=mem_ready.1 q;have z:=(l9.1 y).1;have A:=(mem_ready.1 p).1;simp only[kU,V7,Bool.not_eq_true'];refine⟨?_,?_,?_⟩
 .cases h:T7 i j with
  |true=>exact absurd (Nat.eq_of_beq_eq_true h).symm s
  |false=>rfl
 .cases h:(bs.getD j 0).testBit i with
  |true=>have:=ys e f w q h;rw[uJ A]at this;cases this
  |false=>rfl
 .cases h:(bs.getD i 0).testBit j with
  |true=>have:=ys e f z p h;rw[uJ x]at this;cases this
  |false=>rfl
theorem iE.take{bs:Array Nat}(S:lN ops bs=true)(T:Region.noSelect ops=true)(U:∀c a w,¬Q (.panic c) a w){i:Nat}{p:T2}(hi:ops[i]?=σ p)(V:ja p=true){w0:x3}{A ev':List (x3×List (Nat×(x3->Prop)))}(G:∀j w',mu bs ev' j w'->mu bs A j w'){st:x3->Prop}(W:lM p=false->∀j w',kU bs j i=true->mu bs ev' j w'->Ext w0 w'\/st w'):
  ∀(fuel:Nat)(f:Array Bool)(a:Act)(w:x3),Down ops f->
   (∀j y,ops[j]?=σ y->j≠i->f.getD j true=false->(∀e∈y.after,Region.binds .any e=true->e.on≠i)->p.apart ops y=true)->
   i∈Region.ready .any ops f->ia P ops p v a (mq p w0 st)->mq p w0 st w->
   iE r P ops bs Q fuel (f.setIfInBounds i true) ev' (a.put p.dst v) w->iE r P ops bs Q (fuel+1) f A a w:=by
 have I:=Region.noSelect_spec T;have X:mr ops i=true:=by simp[mr,hi,V]
 have hR:∀(fuel:Nat)(f:Array Bool)(a:Act)(w:x3),iE r P ops bs Q fuel f ev' a w->iE r P ops bs Q fuel f A a w:=by
  intro fuel;induction fuel with
  |zero=>intro f a w h;exact h
  |succ fuel C=>intro f a w h;exact⟨h.1,λj s=>wpOpIn_mono (λa' w' h'=>⟨⟨h'.1.1,λE=>G _ _ (h'.1.2 E)⟩,C _ a' w' h'.2⟩) (h.2 j s)⟩
 have J:∀w,uM ops bs A i w w:=λw=>⟨λ_=>Ext.refl _,λh=>by rw[X]at h;cases h⟩;intro fuel;induction fuel with
 |zero=>
  intro f a w _ _ x B hw H;refine⟨λh=>(by rw[h]at x;cases x),λj s=>?_⟩;by_cases q:j=i
  .subst q;exact B.go hi hw ⟨J w,hR _ _ _ _ H⟩
  .have:=ready_mono s q;rw[H.1]at this;cases this
 |succ fuel C=>
  intro f a w K L x B hw H;refine⟨λh=>(by rw[h]at x;cases x),λj s=>?_⟩;by_cases q:j=i
  .subst q;exact B.go hi hw ⟨J w,hR _ _ _ _ H⟩
  .have h1:=H.2 j (ready_mono s q);have hu:=FL S K hi x s q;obtain⟨M,y,F,Y⟩:=mem_ready.1 s;have Z:∀e∈y.after,Region.binds .any e=true->e.on≠i:=λe he aa ab=>by
    have h1:=Y e he aa;rw[ab,uJ (mem_ready.1 x).1]at h1;cases h1
   have ac:=FJ F (L j y F q M Z) (λcs b=>I i p cs b hi) (λcs b=>I j y cs b F) U B h1;have ad:∀k ok,ops[k]?=σ ok->k≠i->(f.setIfInBounds j true).getD k true=false->
     (∀e∈ok.after,Region.binds .any e=true->e.on≠i)->p.apart ops ok=true:=λk ok hk ae N af=>by
    refine L k ok hk ae ?_ af;by_cases O:j=k
    .subst O;exact M
    .rw[getD_set_ne true O]at N;exact N
   refine wpOpIn_mono (λa' w' z=>⟨⟨z.2.1.1,λE=>G _ _ (z.2.1.2 E)⟩,C (f.setIfInBounds j true) a' w' (K.set s) ad (ready_mono x (Ne.symm q)) z.1 ?_ ?_⟩) ac
   .cases hm:lM p with
    |true=>exact .inl hm
    |false=>
     cases R:mr ops j with
     |true=>exact hw.ext (z.2.1.1 R)
     |false=>exact .inr ((W hm j w' hu (z.2.1.2 R)).imp id λh=>⟨w',h,Ext.refl _⟩)
   .rw[Array.setIfInBounds_comm _ _ q];exact z.2.2
theorem yu{p:Nat->Prop}:∀{l:List Nat},uH p l->∀i∈l,p i
 |[],_,_,h=>by cases h
 |[i],h,j,a=>by cases a with
  |head=>exact h
  |tail _ h=>cases h
 |i::k::l,h,j,a=>by
  obtain⟨h1,e⟩:=h;cases a with
  |head=>exact h1
  |tail _ a=>exact yu e j a
theorem uN:∀{l:List Nat}{q:Nat},mn ops l=σ q->q∈l/\∃o,ops[q]?=σ o/\ja o=true
 |[],q,h=>by cases h
 |i::l,q,h=>by
  simp only[mn]at h;cases a:ops[i]? with
  |none=>rw[a]at h;obtain⟨h1,e⟩:=uN h;exact⟨.tail _ h1,e⟩
  |some o=>
   rw[a]at h;simp only at h;cases f:ja o with
   |true=>rw[f]at h;simp only[cond_true,Y1]at h;subst h;exact⟨.head _,o,a,f⟩
   |false=>rw[f]at h;obtain⟨h1,e⟩:=uN h;exact⟨.tail _ h1,e⟩
theorem FM{o:T2}{e:Env}{a:Act}{K:Env->(x3->Prop)->Prop}(h:uG P ops o e w K)(f:S4 N e a)(C:jG N o.dst=true):
  ∃v st,ia P ops o v a (mq o w st)/\∃p,K p st/\S4 N p (a.put o.dst v):=by
 unfold uG at h;have z:∀{e:Env},S4 N e a->lK P o e w K->Region.wanted o (yielded ops a.tmps)=true->∃v st,ia P ops o v a (mq o w st)/\∃p,K p st/\S4 N p (a.put o.dst v):=λf h hw=>by
  obtain⟨v,st,h1,E,F,G⟩:=yo h f C;exact⟨v,st,.inl ⟨hw,F,λw' J=>J.elim (λhm=>FI hm (h1 w (Ext.refl w))) λh=>h.elim (h1 w') λ⟨V,H,I⟩=>G V H w' I⟩,E⟩
 have skip:∀{e:Env},S4 N e a->K (dU e o.dst .u) (λ_=>True)->Region.wanted o (yielded ops a.tmps)=false->∃v st,ia P ops o v a (mq o w st)/\∃p,K p st/\S4 N p (a.put o.dst v):=λf h hw=>
  ⟨undef,_,.inr ⟨hw,rfl⟩,_,h,f.put C rfl⟩
 cases q:o.guard with
 |none=>rw[q]at h;exact z f h (by simp[Region.wanted,q])
 |some L=>
  obtain⟨j,b⟩:=L;rw[q]at h;simp only at h;cases r:(ops[j]?).bind (·.dst)with
  |none=>rw[r]at h;exact h.elim
  |some s=>
   rw[r]at h;simp only at h;cases U:look e s with
   |none=>rw[U]at h;exact h.elim
   |some x=>
    rw[U]at h;cases x with
    |b c=>
     simp only at h;have hw:=rS f q r U (c:=c) rfl;cases J:xor c b with
     |true=>rw[J]at h hw;exact skip f h hw
     |false=>rw[J]at h hw;exact z f h hw
    |v y=>
     simp only at h;obtain⟨c,rfl,A,ag⟩:=h;have hw:=rS f q r U (c:=c) rfl;have B:=f.lit U (c:=c) rfl;cases c with
     |true=>
      have A:=A rfl;cases b with
      |true=>exact z B A hw
      |false=>exact skip B A hw
     |false=>
      have ag:=ag rfl;cases b with
      |true=>exact skip B ag hw
      |false=>exact z B ag hw
    |u=>exact skip f h (yp f q r U)
theorem uO:∀{l:List Nat},mn ops l=ν->∀j∈l,mr ops j=false
 |[],_,_,h=>by cases h
 |i::l,h,j,a=>by
  simp only[mn]at h;cases e:ops[i]? with
  |none=>
   rw[e]at h;cases a with
   |head=>simp[mr,e]
   |tail _ a=>exact uO h j a
  |some o=>
   rw[e]at h;simp only at h;cases f:ja o with
   |true=>rw[f]at h;cases h
   |false=>
    rw[f]at h;cases a with
    |head=>simp[mr,e,f]
    |tail _ a=>exact uO h j a
theorem FN{bs:Array Nat}{same:Bool}{q:Nat}{st:x3->Prop}{a:List (x3×List (Nat×(x3->Prop)))}(U:same=true->∃ks r,a=(w,ks)::r):
  (∀j w',mu bs (p0 same q w st a) j w'->mu bs a j w')/\(∀j w',kU bs j q=true->mu bs (p0 same q w st a) j w'->Ext w w'\/st w')/\∃ks r,p0 same q w st a=(w,ks)::r:=by
 cases same with
 |true=>
  obtain⟨ks,r,rfl⟩:=U rfl;refine⟨λj w' h g e x J hu=>?_,λj w' hu h=>h (w,(q,st)::ks) (.head _) (q,st) (.head _) hu,_,_,rfl⟩;cases e with
  |head=>exact h (w,(q,st)::ks) (.head _) x (.tail _ J) hu
  |tail _ e=>exact h g (.tail _ e) x J hu
 |false=>
  refine⟨λj w' h g e x J hu=>h g (.tail _ e) x J hu,λj w' hu h=>h (w,[(q,st)]) (.head _) (q,st) (.head _) hu,_,_,rfl⟩
theorem FO{K:Env->x3->Prop}{bs:Array Nat}(U:lN ops bs=true)(W:Region.noSelect ops=true)(X:∀c a w,¬Q (.panic c) a w)(M:∀o∈ops.toList,∀t,o.dst=σ t->t∈D)(Y:nn N ops.toList=true):
  ∀(fuel:Nat)(p:Array Bool)(same:Bool)(s:List (x3×List (Nat×(x3->Prop))))(e:Env)(a:Act)(w:x3),Down ops p->(same=true->∃ks r,s=(w,ks)::r)->
   mo P free ops bs fuel p same s e w K->S4 N e a->
   (∀a' w',mp N free K D a w a' w'->Q .normal a' w')->iE r P ops bs Q fuel p s a w:=by
 have F:∀{j:Nat}{o:T2},ops[j]?=σ o->o∈ops.toList:=λh=>by
  rw[<-S6]at h;exact x5 h
 have ok:∀{j:Nat}{o:T2},ops[j]?=σ o->jG N o.dst=true:=λh=>by
  simp only[nn,List.all_eq_true]at Y;exact Y _ (F h)
 intro fuel;induction fuel with
 |zero=>
  intro p same s e a w A O h C B;unfold mo at h;cases y:Region.ready .any ops p with
  |nil=>rw[y]at h;exact⟨y,B a w ⟨e,h,C,gG.refl _ _,λ_=>cz.refl _ _⟩⟩
  |cons i l=>rw[y]at h;exact h.elim
 |succ fuel R=>
  intro p same s e a w A O h C B;unfold mo at h;cases y:Region.ready .any ops p with
  |nil=>
   rw[y]at h;refine⟨λ_=>B a w ⟨e,h,C,gG.refl _ _,λ_=>cz.refl _ _⟩,λi hi=>?_⟩;rw[y]at hi;cases hi
  |cons i l=>
   rw[y]at h;simp only at h;cases G:mn ops (i::l)with
   |some q=>
    rw[G]at h;simp only at h;obtain⟨ae,o,f,Z⟩:=uN G;cases H:Region.free .any ops p q with
    |false=>rw[H]at h;exact h.elim
    |true=>
     rw[H,f]at h;simp only[cond_true]at h;obtain⟨v,st,aa,I,z,ab⟩:=FM h C (ok f);have L:q∈Region.ready .any ops p:=by rw[y];exact ae
     cases hm:lM o with
     |true=>
      rw[hm]at z;refine iE.take U W X f Z (w0:=w) (ev':=s) (λ_ _ h=>h) (λh=>by rw[hm]at h;cases h) fuel p a w A (Region.free_spec f H) L aa (.inr (.inl (Ext.refl _))) ?_;exact R _ same s I _ w (A.set L) O z ab λa' w' x=>B a' w' (x.step (gG.put a v λt E=>M o (F f) t E) λ_=>cz.refl _ _)
     |false=>
      rw[hm]at z;obtain⟨h1,af,ag⟩:=FN (bs:=bs) (q:=q) (st:=st) O;refine iE.take U W X f Z (w0:=w) (ev':=p0 same q w st s) h1 (λ_=>af) fuel p a w A (Region.free_spec f H) L aa (.inr (.inl (Ext.refl _))) ?_;exact R _ true _ I _ w (A.set L) (λ_=>ag) z ab λa' w' x=>B a' w' (x.step (gG.put a v λt E=>M o (F f) t E) λ_=>cz.refl _ _)
   |none=>
    rw[G]at h;simp only at h;refine⟨(λac=>by rw[y]at ac;cases ac),λj ad=>?_⟩;have S:=ad;rw[y]at S;have ah:=uO G j S;have x:=yu h j S;cases f:ops[j]? with
    |none=>rw[f]at x;exact x.elim
    |some o=>
     rw[f]at x;simp only at x;unfold wpOpIn;simp only[f];have next:∀T V,fe N free (λI w'=>nl bs j w' (mo P free ops bs fuel (p.setIfInBounds j true) false s I w' K) s) o a w T V->
       uM ops bs s j w V/\iE r P ops bs Q fuel (p.setIfInBounds j true) s T V:=by
      rintro T V ⟨ai,v,z,aj,rfl,ak⟩;obtain⟨z,al⟩:=uL z;exact⟨⟨λh=>(by rw[ah]at h;cases h),λ_=>al⟩,
       R _ false s ai _ V (A.set ad) (λh=>by cases h) z aj λa' w' x=>B a' w' (x.step (gG.put a v λt E=>M o (F f) t E) ak)⟩
     rcases yq (r:=r) (Q:=Q) x C (ok f)with⟨hw,J⟩|⟨hw,J⟩
     .rw[if_pos hw];exact T2.wpIn_mono next J
     .rw[hw];exact⟨λ_ _=>trivial,next _ _ J⟩
theorem FP(hm:P.follows .mixedOrders=true){K:Env->x3->Prop}{id:Nat}{e:Env}{a:Act}(q:lN ops (Region.before ops)=true)(s:∀c a w,¬Q (.panic c) a w)(y:∀o∈ops.toList,∀t,o.dst=σ t->t∈D)(z:nn N ops.toList=true)(h:∀w',Ext w w'->Ext w' w->cL w w'->uI P free ops e w' K)(A:S4 N e a)(B:∀a' w',mp N free K D a w a' w'->Q .normal a' w'):
  (Code.region id ops true).wpIn (ei r) 0 P Q a w:=by
 refine wpIn_region_any hm ?_;have h:=h {w with drawn:=w.drawn+1} (rL w _) ⟨o4 _,λ_ _ h _=>h⟩ (pV w _ (Nat.le_succ _));unfold uI at h;cases f:Region.noSelect ops with
 |false=>rw[f]at h;exact h.elim
 |true=>
  rw[f]at h;refine iE.any _ _ _ _ _ (FO q f s y z ops.size _ false [] e a _ ?_ (λh=>by cases h) h A λa' w' C=>B a' w' (C.step (gG.refl _ _) λ_=>(pV w _ (Nat.le_succ _)).b));intro x o _ p;rcases Nat.lt_or_ge x ops.size with h'|h'
  .simp[h']at p
  .simp[h']at p
end
def jb(t:Nat):List Nat->Bool
 |[]=>false
 |s::r=>bif T7 s t then true else jb t r
theorem uP{t:Nat}:∀{l:List Nat},jb t l=true↔t∈l
 |[]=>by simp[jb]
 |s::r=>by
  simp only[jb];cases h:T7 s t with
  |true=>simp[Nat.eq_of_beq_eq_true h]
  |false=>
   have:=Nat.ne_of_beq_eq_false h;simp[uP (l:=r),Ne.symm this]
def np:List T2->List Nat
 |[]=>[]
 |o::l=>match o.dst with
  |some d=>d::np l
  |none=>np l
def tmpsOf:List S2->List Nat
 |[]=>[]
 | .tmp t::l=>t::tmpsOf l
 |_::l=>tmpsOf l
def FQ(ops:Array T2)(o:T2):List Nat:=
 match o.guard with
 |some (j,_)=>match(ops[j]?).bind (·.dst)with
  |some s=>[s]
  |none=>[]
 |none=>[]
def rT(D:List Nat):List Nat->List Nat
 |[]=>[]
 |t::r=>bif jb t D then rT D r else t::rT D r
def uQ(D:List Nat):List Nat->List Nat
 |[]=>[]
 |t::r=>bif jb t D then t::uQ D r else uQ D r
def yv(ops:Array T2):List T2->List Nat->List Nat
 |[],_=>[]
 |o::l,D=>rT D (tmpsOf (opsOf o.op)++FQ ops o)++yv ops l (match o.dst with
  |some d=>d::D
  |none=>D)
def dy:Code->List Nat
 | .region _ ops _=>np ops.toList
 | .seq a b=>dy a++dy b
 | .cond _ a b=>dy a++dy b
 | .block _ c=>dy c
 | .loop c=>dy c
 | .scope c=>dy c
 |_=>[]
def jH(id:Nat):Code->Nat
 | .seq a b=>jH id a+jH id b
 | .cond _ a b=>jH id a+jH id b
 | .block _ c=>jH id c
 | .loop c=>jH id c
 | .scope c=>jH id c
 | .exit i=>bif T7 i id then 1 else 0
 | .rangeFunc _ _ _ b=>jH id b
 |_=>0
def FR(ops:Array T2):Bool:=
 let bs:=Region.before ops;let a:=λ(i:Nat)=>match ops[i]? with|some o=>!(ja o)|none=>false
 (X0 ops.size).any λj=>a j&&((X0 j).any λi=>a i&&(!((bs.getD j 0).testBit i)&& !((bs.getD i 0).testBit j)))
def kV:Code->Nat
 | .region _ ops e=>bif (e&&FR ops)||ops.any (·.guard.isSome)then 2 else 1
 | .seq a b=>bif T7 (kV a) 0 then 0 else kV b
 | .cond _ a b=>kV a+kV b
 | .block id c=>kV c+jH id c
 | .loop _=>0
 | .scope c=>kV c
 | .exit _=>0
 | .goto _=>0
 | .ret=>0
 | .refuse _=>0
 |_=>1
def lO:Code->List Nat
 | .region _ ops _=>np ops.toList
 | .seq a b=>lO a++lO b
 | .cond _ a b=>bif T7 (kV a) 0 then lO b else bif T7 (kV b) 0 then lO a else uQ (lO a) (lO b)
 | .block id c=>bif T7 (jH id c) 0 then lO c else[]
 | .scope c=>lO c
 |_=>[]
def reads:Code->List Nat
 | .region _ ops _=>yv ops ops.toList []
 | .seq a b=>reads a++rT (lO a) (reads b)
 | .cond c a b=>tmpsOf [c]++(reads a++reads b)
 | .block _ c=>reads c
 | .loop c=>reads c
 | .scope c=>reads c
 | .rangeFunc f _ a b=>tmpsOf [f]++(reads a++reads b)
 |_=>[]
def kk:Code->Bool
 | .seq a b=>kk a||kk b
 | .cond _ a b=>kk a||kk b
 | .block _ c=>kk c
 | .loop c=>kk c
 | .scope c=>kk c
 | .rangeFunc ..=>true
 |_=>false
def wf(N:Nat):Code->Bool
 | .region _ ops e=>nn N ops.toList&&(!e||lN ops (Region.before ops))
 | .seq a b=>wf N a&&wf N b
 | .cond _ a b=>wf N a&&wf N b
 | .block _ c=>wf N c
 | .loop c=>wf N c
 | .scope c=>wf N c
 | .rangeFunc _ f a b=>(f.toList.all λt=>Nat.blt t N)&&(wf N a&&wf N b)
 |_=>true
def nq:Nat->Type->Type
 |0,β=>β
 |n+1,β=>x1->nq n β
def app{β:Type}:(n:Nat)->nq n β->List x1->β
 |0,f,_=>f
 |n+1,f,[]=>app n (f undef) []
 |n+1,f,v::r=>app n (f v) r
def lam{β:Type}:(n:Nat)->(List x1->β)->nq n β
 |0,f=>f []
 |n+1,f=>λv=>lam n λr=>f (v::r)
def rU:(n:Nat)->nq n Prop->Prop
 |0,p=>p
 |n+1,p=>∀v,rU n (p v)
theorem rV{β:Type}:∀(n:Nat)(f:List x1->β)(vs:List x1),vs.length=n->app n (lam n f) vs=f vs
 |0,f,[],_=>rfl
 |n+1,f,v::r,h=>by
  simp only[app,lam];exact rV n _ r (by simpa using h)
theorem rW:∀(n:Nat)(p:nq n Prop)(vs:List x1),rU n p->app n p vs
 |0,_,_,h=>h
 |n+1,_,[],h=>rW n _ [] (h undef)
 |n+1,_,v::r,h=>rW n _ r (h v)
def FS(n:Nat)(vs:List x1)(w:x3)(B:List x1->x3->(List x1->x3->Prop)->Prop):Prop:=
 ∃(I:nq n (x3->Prop))(a:nq n (x3->Nat)),app n I vs w/\
  rU n (lam n λus=>∀w',app n I us w'->B us w' λe f=>app n I e f/\app n a e f<app n a us w')
def FT(w:x3)(B:x3->(x3->Prop)->Prop):Prop:=
 ∃(I:x3->Prop)(a:x3->Nat),I w/\∀w',I w'->B w' λe=>I e/\a e<a w'
def ck(a:x1)(w:x3)(B:x1->x3->(x1->x3->Prop)->Prop):Prop:=
 ∃(I:x1->x3->Prop)(e:x1->x3->Nat),I a w/\∀a w',I a w'->B a w' λa' f=>I a' f/\e a' f<e a w'
def cb(a b:x1)(w:x3)(B:x1->x1->x3->(x1->x1->x3->Prop)->Prop):Prop:=
 ∃(I:x1->x1->x3->Prop)(e:x1->x1->x3->Nat),I a b w/\∀a b w',I a b w'->B a b w' λa' f h=>I a' f h/\e a' f h<e a b w'
def nr(a b c:x1)(w:x3)(B:x1->x1->x1->x3->(x1->x1->x1->x3->Prop)->Prop):Prop:=
 ∃(I:x1->x1->x1->x3->Prop)(e:x1->x1->x1->x3->Nat),I a b c w/\
  ∀a b c w',I a b c w'->B a b c w' λa' f h p=>I a' f h p/\e a' f h p<e a b c w'
def rX(a b c d:x1)(w:x3)(B:x1->x1->x1->x1->x3->(x1->x1->x1->x1->x3->Prop)->Prop):Prop:=
 ∃(I:x1->x1->x1->x1->x3->Prop)(e:x1->x1->x1->x1->x3->Nat),I a b c d w/\
  ∀a b c d w',I a b c d w'->B a b c d w' λa' f h p q=>I a' f h p q/\e a' f h p q<e a b c d w'
def p2(a b c d e:x1)(w:x3)(B:x1->x1->x1->x1->x1->x3->(x1->x1->x1->x1->x1->x3->Prop)->Prop):Prop:=
 ∃(I:x1->x1->x1->x1->x1->x3->Prop)(f:x1->x1->x1->x1->x1->x3->Nat),I a b c d e w/\∀a b c d e w',I a b c d e w'->B a b c d e w' λa' h p q r s=>I a' h p q r s/\f a' h p q r s<f a b c d e w'
def FU(a b c d e f:x1)(w:x3)(B:x1->x1->x1->x1->x1->x1->x3->(x1->x1->x1->x1->x1->x1->x3->Prop)->Prop):Prop:=
 ∃(I:x1->x1->x1->x1->x1->x1->x3->Prop)(h:x1->x1->x1->x1->x1->x1->x3->Nat),I a b c d e f w/\∀a b c d e f w',I a b c d e f w'->B a b c d e f w' λa' p q r s x y=>I a' p q r s x y/\h a' p q r s x y<h a b c d e f w'
def cu{α:Type}(aA:α)(B:α->Prop):Prop:=B aA
def uR(n:Nat)(w:x3)(K:x3->Prop):Prop:=∀w',Ext w w'->Ext w' w/\fB n w w'->K w'
def Over(n:Nat)(w:x3)(K:x3->Prop):Prop:=∀w',Ext w w'->Ext w' w/\fB n w w'->eX w w'->K w'
def ej(w:x3)(K:x3->Prop):Prop:=∀w',Ext w w'->Ext w' w->cL w w'->K w'
def kl(e:Env):List Nat->Option (List x1)
 |[]=>σ []
 |t::r=>match look e t with
  |some x=>match kl e r with
   |some vs=>σ (x.val::vs)
   |none=>ν
  |none=>ν
def jc:List Nat->List x1->Env->Env
 |t::r,v::vs,e=>(t,.v v)::jc r vs e
 |_,_,e=>e
def lP(D:List Nat):Env->Env
 |[]=>[]
 |(t,x)::r=>bif jb t D then lP D r else(t,x)::lP D r
def p3(N:Nat)(D R:List Nat):List Nat:=(X0 N).filter λt=>jb t D&&jb t R
def p4(N:Nat)(D R:List Nat)(e:Env):List Nat:=(X0 N).filter λt=>jb t D&&((look e t).isSome&&jb t R)
def jd:Code->Bool
 | .seq a b=>jd a||jd b
 | .cond _ a b=>jd a||jd b
 | .block _ c=>jd c
 | .loop c=>jd c
 | .scope c=>jd c
 | .rangeFunc _ _ a b=>jd a||jd b
 | .ret=>true
 |_=>false
def FV(i:Nat)(l:List Nat):List Nat:=bif jb i l then l else i::l
def rY:List Nat->List Nat->List Nat
 |[],l=>l
 |i::r,l=>FV i (rY r l)
def uS(i:Nat):List Nat->List Nat
 |[]=>[]
 |j::r=>bif T7 i j then uS i r else j::uS i r
def jI:Code->List Nat
 | .seq a b=>rY (jI a) (jI b)
 | .cond _ a b=>rY (jI a) (jI b)
 | .block id c=>uS id (jI c)
 | .loop c=>jI c
 | .scope c=>jI c
 | .rangeFunc _ _ a b=>rY (jI a) (jI b)
 | .exit i=>[i]
 |_=>[]
def ns:List (Nat×(x3->Prop))->Nat->x3->Prop
 |[],_,_=>False
 |(j,k)::r,i,w=>(i=j/\k w)\/ns r i w
def uT(K:Nat->x3->Prop):List Nat->List (Nat×(x3->Prop))
 |[]=>[]
 |i::r=>(i,λw=>K i w)::uT K r
theorem yw{K:Nat->x3->Prop}:∀{l:List Nat}{i:Nat}{w:x3},ns (uT K l) i w->K i w
 |[],_,_,h=>h.elim
 |j::r,i,w,h=>by
  rcases h with⟨rfl,h⟩|h
  .exact h
  .exact yw h
section
variable(P:W5)
def oJ{a:Type}(G:Bool)(g:R5)(cap:List x1)(q:a)(r:a->Prop)(s:a->List x1->a->x3->Prop)(h:x3->Prop):Prop:=
 Enters P g/\∀(l:Nat)(aA e:a->x3->Prop)(w:x3),
  (∀k V aa,Ext V aa->cz w.heap.size V aa->aA k V->aA k aa)->(∀k V aa,Ext V aa->cz w.heap.size V aa->e k V->e k aa)->
  (∀k p vs w',h w'->s k vs p w'->aA k w'->hQ P l vs w' λv f=>(v= .bool true/\h f/\aA p f/\(G=true->cL w' f))\/(v= .bool false/\e k f))->
  h w->aA q w->gF P g (.func (.yield l) #[] #[]::cap) w λ_ w'=>(∃k,r k/\aA k w')\/∃k,e k w'
def uU(G:Bool)(g:R5)(cap:List x1)(n:Nat)(h:Nat->List x1->x3->Prop)(f:x3->Prop):Prop:=
 Enters P g/\∀(l:Nat)(aA a:Nat->x3->Prop)(w:x3),
  (∀k V aa,Ext V aa->cz w.heap.size V aa->aA k V->aA k aa)->(∀k V aa,Ext V aa->cz w.heap.size V aa->a k V->a k aa)->
  (∀k vs w',k<n->f w'->h k vs w'->aA k w'->hQ P l vs w' λv e=>(v= .bool true/\f e/\aA (k+1) e/\(G=true->cL w' e))\/(v= .bool false/\a k e))->
  f w->aA 0 w->gF P g (.func (.yield l) #[] #[]::cap) w λ_ w'=>aA n w'\/∃k,k<n/\a k w'
def p5{e:Type}(o G:Bool)(g:R5)(cap:List x1)(q:e)(s:e->Prop)(x:e->List x1->e->x3->Prop)(h:(Nat->Prop)->x3->Prop):Prop:=
 Enters P g/\∀(l:Nat)(aA f:(Nat->Prop)->e->x3->Prop)(w:x3),
  (∀D k V aa,ai (λr=>o=true/\w.heap.size<=r/\¬D r) V aa->fB w.heap.size V aa->aA D k V->aA D k aa)->
  (∀D k V aa,ai (λr=>o=true/\w.heap.size<=r/\¬D r) V aa->fB w.heap.size V aa->f D k V->f D k aa)->
  (∀D k p vs w',(∀r,D r->w.heap.size<=r/\r<w'.heap.size)->w.heap.size<=w'.heap.size->h D w'->x k vs p w'->aA D k w'->hQ P l vs w' λv a=>
   (v= .bool true/\(∃D',(∀r,D' r->D r\/w'.heap.size<=r/\r<a.heap.size)/\(∀r,D r->D' r)/\h D' a/\aA D' p a)/\(G=true\/o=true->cL w' a)/\w'.heap.size<=a.heap.size/\(o=true->ai (λr=>r<w.heap.size\/D r) w' a))\/(o=false/\v= .bool false/\f D k a))->
  (h (λ_=>False) w)->aA (λ_=>False) q w->gF P g (.func (.yield l) #[] #[]::cap) w λ_ w'=>(∃D k,s k/\aA D k w')\/∃D k,f D k w'
abbrev oK(g:R5)(cap:List x1)(n:Nat)(a:Nat->List x1->x3->Prop)(e:x3->Prop):Prop:=uU P false g cap n a e
def FW(z:x1)(q:Nat)(w:x3)(B:List x1->x3->(Exit->x3->Prop)->Prop)(A C:x3->Prop)(E:List (Nat×(x3->Prop))):Prop:=
 ∃(f:Type)(o G:Bool)(g:R5)(cap:Array x1)(x:f)(y:f->Prop)(s:f->List x1->f->x3->Prop)(e:(Nat->Prop)->x3->Prop)(I:(Nat->Prop)->f->x3->Prop)(h:(Nat->Prop)->f->Exit->x3->Prop),
  z= .func (.func g) #[] cap/\p5 P o G g cap.toList x y s e/\(∀k vs p w,s k vs p w->vs.length=q)/\
  (∀m w w',Ext w w'->e m w->e m w')/\(∀m k V aa,ai (λr=>o=true/\w.heap.size<=r/\¬m r) V aa->fB w.heap.size V aa->I m k V->I m k aa)/\(∀m k ex V aa,ai (λr=>o=true/\w.heap.size<=r/\¬m r) V aa->fB w.heap.size V aa->h m k ex V->h m k ex aa)/\
  e (λ_=>False) w/\I (λ_=>False) x w/\
  rU q (lam q λvs=>∀m k p w',(∀r,m r->w.heap.size<=r/\r<w'.heap.size)->w.heap.size<=w'.heap.size->e m w'->s k vs p w'->I m k w'->B vs w' λex a=>match ex with
   | .normal=>bif o then(∃cd,(∀r,cd r->m r\/w'.heap.size<=r/\r<a.heap.size)/\(∀r,m r->cd r)/\e cd a/\I cd p a)/\eX w' a/\ai (λr=>r<w.heap.size\/m r) w' a else e m a/\I m p a/\(G=true->eX w' a)
   |ex=>bif o then False else h m k ex a)/\
  (∀m k w',y k->I m k w'->A w')/\(∀m k w',h m k .ret w'->C w')/\(∀m k i w',h m k (.exit i) w'->ns E i w')
def jJ(z:x1)(w:x3)(B:x1->x3->(Exit->x3->Prop)->Prop)(A C:x3->Prop)(E:List (Nat×(x3->Prop))):Prop:=
 ∃(h:Type)(o G:Bool)(g:R5)(cap:Array x1)(x:h)(y:h->Prop)(s:h->List x1->h->x3->Prop)(f:(Nat->Prop)->x3->Prop)(I:(Nat->Prop)->h->x3->Prop)(p:(Nat->Prop)->h->Exit->x3->Prop),
  z= .func (.func g) #[] cap/\p5 P o G g cap.toList x y s f/\(∀k vs q w,s k vs q w->vs.length=1)/\
  (∀m w w',Ext w w'->f m w->f m w')/\(∀m k V aa,ai (λr=>o=true/\w.heap.size<=r/\¬m r) V aa->fB w.heap.size V aa->I m k V->I m k aa)/\(∀m k ex V aa,ai (λr=>o=true/\w.heap.size<=r/\¬m r) V aa->fB w.heap.size V aa->p m k ex V->p m k ex aa)/\
  f (λ_=>False) w/\I (λ_=>False) x w/\
  (∀a,∀m k q w',(∀r,m r->w.heap.size<=r/\r<w'.heap.size)->w.heap.size<=w'.heap.size->f m w'->s k [a] q w'->I m k w'->B a w' λex e=>match ex with
   | .normal=>bif o then(∃cd,(∀r,cd r->m r\/w'.heap.size<=r/\r<e.heap.size)/\(∀r,m r->cd r)/\f cd e/\I cd q e)/\eX w' e/\ai (λr=>r<w.heap.size\/m r) w' e else f m e/\I m q e/\(G=true->eX w' e)
   |ex=>bif o then False else p m k ex e)/\
  (∀m k w',y k->I m k w'->A w')/\(∀m k w',p m k .ret w'->C w')/\(∀m k i w',p m k (.exit i) w'->ns E i w')
def oL(z:x1)(w:x3)(B:x1->x1->x3->(Exit->x3->Prop)->Prop)(A C:x3->Prop)(E:List (Nat×(x3->Prop))):Prop:=
 ∃(h:Type)(o G:Bool)(g:R5)(cap:Array x1)(x:h)(y:h->Prop)(s:h->List x1->h->x3->Prop)(f:(Nat->Prop)->x3->Prop)(I:(Nat->Prop)->h->x3->Prop)(p:(Nat->Prop)->h->Exit->x3->Prop),
  z= .func (.func g) #[] cap/\p5 P o G g cap.toList x y s f/\(∀k vs q w,s k vs q w->vs.length=2)/\
  (∀m w w',Ext w w'->f m w->f m w')/\(∀m k V aa,ai (λr=>o=true/\w.heap.size<=r/\¬m r) V aa->fB w.heap.size V aa->I m k V->I m k aa)/\(∀m k ex V aa,ai (λr=>o=true/\w.heap.size<=r/\¬m r) V aa->fB w.heap.size V aa->p m k ex V->p m k ex aa)/\
  f (λ_=>False) w/\I (λ_=>False) x w/\
  (∀a b,∀m k q w',(∀r,m r->w.heap.size<=r/\r<w'.heap.size)->w.heap.size<=w'.heap.size->f m w'->s k [a,b] q w'->I m k w'->B a b w' λex e=>match ex with
   | .normal=>bif o then(∃cd,(∀r,cd r->m r\/w'.heap.size<=r/\r<e.heap.size)/\(∀r,m r->cd r)/\f cd e/\I cd q e)/\eX w' e/\ai (λr=>r<w.heap.size\/m r) w' e else f m e/\I m q e/\(G=true->eX w' e)
   |ex=>bif o then False else p m k ex e)/\
  (∀m k w',y k->I m k w'->A w')/\(∀m k w',p m k .ret w'->C w')/\(∀m k i w',p m k (.exit i) w'->ns E i w')
theorem uU.s{P:W5}{G:Bool}{g:R5}{cap:List x1}{f:Nat->List x1->x3->Prop}{a:x3->Prop}(h:uU P G g cap n f a):
  oJ P G g cap 0 (λk=>k=n) (λk vs p w=>k<n/\p=k+1/\f k vs w) a:=by
 refine⟨h.1,λl aA q w r x y ha z=>?_⟩;have:=h.2 l aA (λk w=>q k w) w r x (λk vs w' hk hA B C=>y k (k+1) vs w' hA ⟨hk,rfl,B⟩ C) ha z;cases this with
 |code h1 E=>exact .code h1 (E.mono λ_ _ ⟨v,F,e⟩=>⟨v,F,e.elim (λh=>.inl ⟨n,rfl,h⟩) (λ⟨k,_,h⟩=>.inr ⟨k,h⟩)⟩)
 |ext v w' h1 e=>exact .ext v w' h1 (e.elim (λh=>.inl ⟨n,rfl,h⟩) (λ⟨k,_,h⟩=>.inr ⟨k,h⟩))
theorem oJ.x{P:W5}{s:Type}{G:Bool}{g:R5}{cap:List x1}{E:s}{F:s->Prop}{H:s->List x1->s->x3->Prop}{y:x3->Prop}(h:oJ P G g cap E F H y):p5 P false G g cap E F H λ_=>y:=by
 refine⟨h.1,λl aA I w K L M hy N=>?_⟩;have:=h.2 l (λk w'=>w.heap.size<=w'.heap.size/\∃D,(∀r,D r->w.heap.size<=r/\r<w'.heap.size)/\aA D k w') (λk w'=>∃D,I D k w') w
  (λk V aa J A ⟨U,D,a,f⟩=>⟨Y8 U J.size,D,λr z=>⟨(a r z).1,R7 (a r z).2 J.size⟩,K D k V aa (J.ab _) A.o f⟩) (λk V aa J A ⟨D,f⟩=>⟨D,L D k V aa (J.ab _) A.o f⟩)
  (λk O vs w' hz R ⟨U,D,a,f⟩=>hQ.mono (M D k O vs w' a U hz R f) λv W S=>S.imp (λ⟨h1,⟨D',d1,_,p,B⟩,q,e,_⟩=>⟨h1,p,⟨Y8 U e,D',λr z=>(d1 r z).elim (λh=>⟨(a r h).1,R7 (a r h).2 e⟩) λh=>⟨Y8 U h.1,h.2⟩,B⟩,λT=>q (.inl T)⟩) λ⟨_,h1,p⟩=>⟨h1,D,p⟩) hy ⟨o4 _,_,λ_ h=>h.elim,N⟩
 cases this with
 |code h1 p=>exact .code h1 (p.mono λ_ _ ⟨v,B,q⟩=>⟨v,B,q.imp (λ⟨k,e,_,D,_,C⟩=>⟨D,k,e,C⟩) (λ⟨k,D,h⟩=>⟨D,k,h⟩)⟩)
 |ext v w' h1 q=>exact .ext v w' h1 (q.imp (λ⟨k,e,_,D,_,C⟩=>⟨D,k,e,C⟩) (λ⟨k,D,h⟩=>⟨D,k,h⟩))
theorem jJ.old{P:W5}{C:x1}{B:x1->x3->(Exit->x3->Prop)->Prop}{E F:x3->Prop}{H:List (Nat×(x3->Prop))}(h:∃(f:Type)(G:Bool)(g:R5)(cap:Array x1)(s:f)(y:f->Prop)(r:f->List x1->f->x3->Prop)(e:x3->Prop)(I:f->x3->Prop)(p:f->Exit->x3->Prop),
  C= .func (.func g) #[] cap/\oJ P G g cap.toList s y r e/\(∀k vs q w,r k vs q w->vs.length=1)/\
  (∀w w',Ext w w'->e w->e w')/\(∀k w w',Ext w w'->I k w->I k w')/\(∀k ex w w',Ext w w'->p k ex w->p k ex w')/\
  e w/\I s w/\
  (∀a,∀k q w',e w'->r k [a] q w'->I k w'->B a w' λex z=>match ex with
   | .normal=>e z/\I q z/\(G=true->eX w' z)
   |ex=>p k ex z)/\
  (∀k w',y k->I k w'->E w')/\(∀k w',p k .ret w'->F w')/\(∀k i w',p k (.exit i) w'->ns H i w')):jJ P C w B E F H:=by
 obtain⟨f,G,g,cap,s,y,r,e,I,p,h1,J,K,L,M,N,O,Q,R,S,T,U⟩:=h;exact⟨f,false,G,g,cap,s,y,r,λ_=>e,λ_=>I,λ_=>p,h1,J.x,K,λ_=>L,λ_ k V aa A _=>M k V aa (A.ext λ_ _ h=>nomatch h.1),λ_ k ex V aa A _=>N k ex V aa (A.ext λ_ _ h=>nomatch h.1),O,Q,
  λa _ k q w' _ _ he W X=>R a k q w' he W X,λ_=>S,λ_=>T,λ_=>U⟩
theorem oL.old{P:W5}{C:x1}{B:x1->x1->x3->(Exit->x3->Prop)->Prop}{E F:x3->Prop}{H:List (Nat×(x3->Prop))}(h:∃(f:Type)(G:Bool)(g:R5)(cap:Array x1)(s:f)(y:f->Prop)(r:f->List x1->f->x3->Prop)(e:x3->Prop)(I:f->x3->Prop)(p:f->Exit->x3->Prop),
  C= .func (.func g) #[] cap/\oJ P G g cap.toList s y r e/\(∀k vs q w,r k vs q w->vs.length=2)/\
  (∀w w',Ext w w'->e w->e w')/\(∀k w w',Ext w w'->I k w->I k w')/\(∀k ex w w',Ext w w'->p k ex w->p k ex w')/\
  e w/\I s w/\
  (∀a b,∀k q w',e w'->r k [a,b] q w'->I k w'->B a b w' λex z=>match ex with
   | .normal=>e z/\I q z/\(G=true->eX w' z)
   |ex=>p k ex z)/\
  (∀k w',y k->I k w'->E w')/\(∀k w',p k .ret w'->F w')/\(∀k i w',p k (.exit i) w'->ns H i w')):oL P C w B E F H:=by
 obtain⟨f,G,g,cap,s,y,r,e,I,p,h1,J,K,L,M,N,O,Q,R,S,T,U⟩:=h;exact⟨f,false,G,g,cap,s,y,r,λ_=>e,λ_=>I,λ_=>p,h1,J.x,K,λ_=>L,λ_ k V aa A _=>M k V aa (A.ext λ_ _ h=>nomatch h.1),λ_ k ex V aa A _=>N k ex V aa (A.ext λ_ _ h=>nomatch h.1),O,Q,
  λa b _ k q w' _ _ he W X=>R a b k q w' he W X,λ_=>S,λ_=>T,λ_=>U⟩
def er(N:Nat)(free:fC):Code->List Nat->Env->x3->(Exit->Env->x3->Prop)->Prop
 | .skip,_,e,w,K=>K .normal e w
 | .label _,_,e,w,K=>K .normal e w
 | .ret,_,e,w,K=>K .ret e w
 | .exit i,_,e,w,K=>K (.exit i) e w
 | .region _ ops q,_,e,w,K=>
  bif q then ej w λw'=>uI P free ops e w' (K .normal)
  else oH P free ops ops.toList e w (K .normal)
 | .seq x y,rd,e,w,K=>
  bif Nat.ble 2 (kV x)then
   cu (lam (p3 N (dy x) (reads y++rd)).length λvs=>λw'=>er N free y rd (jc (p3 N (dy x) (reads y++rd)) vs (lP (dy x) e)) w' K)
    λaA=>er N free x (reads y++rd) e w λex a w'=>match ex with
     | .normal=>match kl a (p3 N (dy x) (reads y++rd))with
      |some vs=>app (p3 N (dy x) (reads y++rd)).length aA vs w'
      |none=>False
     |ex=>K ex a w'
  else er N free x (reads y++rd) e w λex a w'=>match ex with
   | .normal=>er N free y rd a w' K
   |ex=>K ex a w'
 | .cond c x y,rd,e,w,K=>
  match eB e c with
  |some (.b true)=>er N free x rd e w K
  |some (.b false)=>er N free y rd e w K
  |some (.v v)=>Split v (er N free x rd e w K) (er N free y rd e w K)
  |some .u=>False
  |none=>False
 | .block id c,rd,e,w,K=>er N free c rd e w λex a w'=>match ex with
  | .exit i=>bif T7 i id then K .normal a w' else K (.exit i) a w'
  |ex=>K ex a w'
 | .loop c,rd,e,w,K=>
  match kl e (p4 N (dy c) (reads c++rd) e)with
  |some vs=>
   FS (p4 N (dy c) (reads c++rd) e).length vs w λus w' k=>
    er N free c (reads c++rd) (jc (p4 N (dy c) (reads c++rd) e) us (lP (dy c) e)) w' λex a h=>match ex with
     | .normal=>match kl a (p4 N (dy c) (reads c++rd) e)with
      |some r=>k r h
      |none=>False
     |ex=>K ex a h
  |none=>False
 | .scope c,rd,e,w,K=>er N free c rd e w K
 | .rangeFunc f p s body,_,e,w,K=>
  bif free.1 then False else
  match eB e f with
  |some z=>
   FW P z.val p.size w
    (λvs w' k=>er N free s (reads body) (jc p.toList.reverse vs.reverse e) w' λex a h=>match ex with
     | .normal=>Over w.heap.size h λA=>er N free body [] a A λex _ B=>k ex B
     |_=>False)
    (λw'=>K .normal e w') (bif jd body then λw'=>K .ret e w' else λ_=>False) (uT (λi w'=>K (.exit i) e w') (jI body))
  |none=>False
 | .goto _,_,_,_,_=>False
 | .refuse _,_,_,_,_=>False
end
theorem rZ{w0:x3}(h:cz n w0 w){l:Nat}(p:w0.heap.size<=l)(o:Obj):cz n w0 (w.putObj l o):=
 ⟨h.os,h.tape,h.output,by simpa using h.size,λr x a U=>by
  have e:=(l9.1 a).1;rw[R6 Ω];exact h.aZ r x a U,λr x f a U=>by
  have e:=(l9.1 a).1;rw[R6 Ω];exact h.old r x f a U⟩
theorem FX{w0:x3}(h:eX w0 w){l:Nat}{a:Obj}(f:w.heap[l]?=σ a)(p:rK a=false)(o:Obj):eX w0 (w.putObj l o):=λr x q U=>by
 have h1:=h r x q U;by_cases e:r=l
 .subst e;rw[f]at h1;cases h1;rw[p]at U;cases U
 .rw[R6 e];exact h1
theorem p6{l:Nat}{e:Obj}(h:w.heap[l]?=σ e)(p:fA e=false)(o:Obj):Ext w (w.putObj l o):=
 ⟨Ξ,λr x a U=>by
  by_cases f:r=l
  .subst f;rw[h]at a;cases a;rw[p]at U;cases U
  .rw[R6 f];exact a⟩
theorem yx{l:Nat}{o:Obj}(f:fA o=false):Ext (w.putObj l o) w:=
 ⟨Ξ,λr x a U=>by
  by_cases e:r=l
  .subst e;rcases Nat.lt_or_ge r w.heap.size with h|h
   .rw[x3.putObj_heap_same h]at a;cases a;rw[f]at U;cases U
   .rw[Array.getElem?_eq_none (by simpa using h)]at a;cases a
  .rw[R6 e]at a;exact a⟩
theorem oM(w:x3)(o:Obj):Ext w (w.alloc o):=pW w o
theorem oN(w:x3)(o:Obj):cL w (w.alloc o):=pX w o
def km(D:Nat):Deferred:={target:=.collected D,args:=#[]}
def lQ(w:x3)(e:List Deferred):Prop:=∃a:List Nat,e=a.map km/\a.Nodup/\∀D∈a,w.heap[D]?=σ (.deferred (σ []))
theorem lQ.ct{a:List Deferred}(h:lQ w a)(e:cz n w w'):lQ w' a:=by
 obtain⟨f,h1,p,q⟩:=h;exact⟨f,h1,p,λD r=>e.aZ D _ (q D r) rfl⟩
section
variable{P:W5}{N:Nat}
def FY(w:x3)(e f:List Deferred):Prop:=∃a:List Nat,f=a.map km++e/\∀D∈a,w.heap.size<=D
def gH(n:Nat)(w:x3)(e:List Deferred)(w':x3)(a:List Deferred):Prop:=cz n w w'/\lQ w' a/\FY w e a
theorem gH.refl{a:List Deferred}(h:lQ w a):gH n w a w a:=⟨cz.refl _ _,h,[],rfl,λ_ h=>by cases h⟩
theorem gH.trans{V:x3}{a e f:List Deferred}(h:gH n w a V e)(k:gH n V e w' f):gH n w a w' f:=by
 obtain⟨p,B,q,a3,a4⟩:=h;obtain⟨r,s,x,y,z⟩:=k;refine⟨p.trans r,s,x++q,by simp[y,a3],λD A=>?_⟩;rcases o5.1 A with h|h
 .exact Y8 p.size (z D h)
 .exact a4 D h
theorem gH.same{a:List Deferred}(h:lQ w a)(e:cz n w w'):gH n w a w' a:=⟨e,h.ct e,[],rfl,λ_ h=>by cases h⟩
def kW:Exit->Bool
 | .panic _=>false
 | .outgrown=>false
 | .goto _=>false
 |_=>true
def mv(N:Nat)(free:fC)(f:Bool)(K:Exit->Env->x3->Prop)(D:List Nat)(a:Act)(w:x3)(ex:Exit)(a':Act)(w':x3):Prop:=
 kW ex=true/\∃e,K ex e w'/\S4 N e a'/\(∀t,t∉D->a'.tmps.getD t undef=a.tmps.getD t undef)/\(f=true->a'.defers=a.defers)/\
  (free.1=false->gH free.2 w a.defers w' a'.defers)
theorem mv.step{free:fC}{f p:Bool}{K:Exit->Env->x3->Prop}{D':List Nat}{a e a':Act}{V:x3}{ex:Exit}(h:mv N free p K D' e V ex a' w')(r:∀t,t∈D'->t∈D)(hk:∀t,t∉D->e.tmps.getD t undef=a.tmps.getD t undef)(s:f=true->p=true)(ag:f=true->e.defers=a.defers)(x:free.1=false->gH free.2 w a.defers V e.defers):mv N free f K D a w ex a' w':=by
 obtain⟨y,z,h1,A,B,C,E⟩:=h;exact⟨y,z,h1,A,λt q=>(B t λh=>q (r t h)).trans (hk t q),λh=>(C (s h)).trans (ag h),λh=>(x h).trans (E h)⟩
theorem r0{D:List Nat}{t:Nat}{x:ep}:∀{e:Env},look (lP D e) t=σ x->look e t=σ x/\t∉D
 |[],h=>by cases h
 |(s,y)::r,h=>by
  simp only[lP]at h;cases hm:jb s D with
  |true=>
   rw[hm]at h;simp only[cond_true]at h;obtain⟨h1,f⟩:=r0 h;refine⟨?_,f⟩;simp only[look];cases a:T7 s t with
   |true=>exact absurd (uP.1 hm) (by rw[Nat.eq_of_beq_eq_true a];exact f)
   |false=>exact h1
  |false=>
   rw[hm]at h;simp only[cond_false,look]at h ⊢;cases a:T7 s t with
   |true=>
    rw[a]at h;refine⟨h,λp=>?_⟩;rw[<-Nat.eq_of_beq_eq_true a]at p;rw[uP.2 p]at hm;cases hm
   |false=>
    rw[a]at h;exact r0 h
theorem uV{a:Act}{e:Env}:∀{S:List Nat}{vs:List x1},S4 N e a->(∀p∈S.zip vs,a.tmps.getD p.1 undef=p.2)->S4 N (jc S vs e) a
 |[],_,h,_=>by simpa[jc]using h
 |t::r,[],h,_=>by simpa[jc]using h
 |t::r,v::vs,h,q=>by
  have w:=uV (S:=r) (vs:=vs) h λp y=>q p (by simp[y]);refine⟨w.1,λs x U=>?_⟩;simp only[jc,look]at U;cases f:T7 t s with
  |true=>
   rw[f]at U;simp only[cond_true,Y1]at U;subst U;rw[<-Nat.eq_of_beq_eq_true f];exact q (t,v) Ξ
  |false=>rw[f]at U;exact w.2 s x U
theorem r1{e:Env}{a:Act}(s:S4 N e a):∀{S:List Nat}{vs:List x1},kl e S=σ vs->vs.length=S.length/\∀p∈S.zip vs,a.tmps.getD p.1 undef=p.2
 |[],vs,h=>by simp[kl]at h;subst h;simp
 |t::r,vs,h=>by
  simp only[kl]at h;cases q:look e t with
  |none=>rw[q]at h;cases h
  |some x=>
   rw[q]at h;simp only at h;cases ad:kl e r with
   |none=>rw[ad]at h;cases h
   |some us=>
    rw[ad]at h;simp only[Y1]at h;subst h;obtain⟨h1,w⟩:=r1 s ad;refine⟨by simp[h1],λp f=>?_⟩;simp only[List.zip_cons_cons,V3]at f;rcases f with rfl|f
    .exact s.2 t x q
    .exact w p f
theorem FZ{a a':Act}{e f:Env}(p:S4 N e a)(q:S4 N f a')(hk:∀t,t∉D->a'.tmps.getD t undef=a.tmps.getD t undef):S4 N (lP D e) a':=
 ⟨q.1,λt x h=>by
  obtain⟨h1,r⟩:=r0 h;rw[hk t r];exact p.2 t x h1⟩
theorem F0{o:T2}{t:Nat}(a:o.dst=σ t)(l:List T2)(hm:o∈l):t∈np l:=by
 induction l with
 |nil=>cases hm
 |cons o' l e=>
  simp only[np];rcases V3.1 hm with h|h
  .rw[<-h,a];simp
  .have:=e h;cases o'.dst with
   |none=>exact this
   |some d=>exact .tail _ this
theorem yy{free:fC}{f:Bool}{K:Exit->Env->x3->Prop}{a a':Act}(p:free.1=false->lQ w a.defers)(h:mp N free (K .normal) D a w a' w'):
  mv N free f K D a w .normal a' w':=by
 obtain⟨q,h1,r,e,s⟩:=h;exact⟨rfl,q,h1,r,e.2,λ_=>e.1,λag=>by rw[e.1];exact gH.same (p ag) (s ag)⟩
theorem yz:∀(a:List Nat)(vs:List x1)(p:Nat)(v:x1)(e:Env),a.length=vs.length->jc (a++[p]) (vs++[v]) e=jc a vs ((p,.v v)::e)
 |[],[],_,_,_,_=>rfl
 |[],_::_,_,_,_,h=>by simp at h
 |_::_,[],_,_,_,h=>by simp at h
 |q::a,u::vs,p,v,e,h=>by
  simp only[List.cons_append,jc];rw[yz a vs p v e (by simpa using h)]
theorem yA:∀(a:List Nat)(vs:List x1)(iF:Array x1)(e:Env),a.length=vs.length->(a.all λt=>Nat.blt t N)=true->S4 N e {tmps:=iF,defers:=[]}->
  S4 N (jc a.reverse vs.reverse e) {tmps:=(a.zip vs).foldl (λiF (p:Nat×x1)=>iF.setIfInBounds p.1 p.2) iF,defers:=[]}
 |[],[],_,_,_,_,h=>h
 |[],_::_,_,_,h,_,_=>by simp at h
 |_::_,[],_,_,h,_,_=>by simp at h
 |p::a,v::vs,iF,e,r,f,h=>by
  have q:a.length=vs.length:=by simpa using r
  simp only[List.all_cons,V7]at f;simp only[List.zip_cons_cons,S1,List.reverse_cons];rw[yz _ _ _ _ _ (by simpa using q)];exact yA a vs _ _ q f.2 (h.put (d:=σ p) (x:=.v v) (v:=v) f.1 rfl)
def je(free:fC)(c:Code):Bool:=free.1|| !kk c
theorem yB:∀f a b:Bool,(f|| !(a||b))=true->(f|| !a)=true:=Φ
theorem yC:∀f a b:Bool,(f|| !(a||b))=true->(f|| !b)=true:=Φ
def exitCode:Exit->Option Code
 | .ret=>σ .ret
 | .exit id=>σ (.exit id)
 |_=>ν
end
section
variable{P:W5}{N:Nat}
def Sound(P:W5)(N:Nat)(c:Code):Prop:=
 ∀(free:fC)(r:Option Nat)(rd:List Nat)(e:Env)(a:Act)(w:x3)(K:Exit->Env->x3->Prop)(Q:Exit->Act->x3->Prop),
  wf N c=true->(∀l,r=σ l->free.1=false/\∃f,w.heap[l]?=σ (.loop f))->(free.1=false->lQ w a.defers)->
  er P N free c rd e w K->S4 N e a->(∀ex a' w',mv N free (je free c) K (dy c) a w ex a' w'->Q ex a' w')->(∀h a w,¬Q (.panic h) a w)->
  c.wpIn (ei r) 0 P Q a w
theorem F3{x y:Code}(J:Sound P N x)(aa:Sound P N y):Sound P N (.seq x y):=by
 intro free r rd e a w K Q E M ab h O R S;simp only[wf,V7]at E;have T:∀t,t∈dy x->t∈dy (.seq x y):=λt s=>by simp[dy,s]
 have ac:∀t,t∈dy y->t∈dy (.seq x y):=λt s=>by simp[dy,s]
 have U:je free (.seq x y)=true->je free x=true:=λh=>yB _ _ _ h;have ae:je free (.seq x y)=true->je free y=true:=λh=>yC _ _ _ h;refine wpIn_seq ?_;have W:∀(f:Env)(p:Act)(V:x3),er P N free y rd f V K->S4 N f p->(∀t,t∉dy x->p.tmps.getD t undef=a.tmps.getD t undef)->
   (je free (.seq x y)=true->p.defers=a.defers)->(free.1=false->gH free.2 w a.defers V p.defers)->y.wpIn (ei r) 0 P Q p V:=by
  intro f p V h1 z hk ag q;refine aa free r rd f p V K Q E.2 ?_ (λh=>(q h).2.1) h1 z ?_ S
  .intro l af;obtain⟨X,ah,C⟩:=M l af;exact⟨X,ah,(q X).1.aZ _ _ C rfl⟩
  .intro ex a' w' B;exact R ex a' w' (B.step ac (λt s=>hk t λh=>s (T t h)) ae ag q)
 have Y:∀(A:Exit->Env->x3->Prop),er P N free x (reads y++rd) e w A->
   (∀f p V,mv N free (je free x) A (dy x) a w .normal p V->S4 N f p->A .normal f V->(∀t,t∉dy x->p.tmps.getD t undef=a.tmps.getD t undef)->
    (je free (.seq x y)=true->p.defers=a.defers)->(free.1=false->gH free.2 w a.defers V p.defers)->y.wpIn (ei r) 0 P Q p V)->
   (∀ex f V,ex≠ .normal->A ex f V->K ex f V)->x.wpIn (ei r) 0 P (Exit.then (y.wpIn (ei r) 0 P Q) Q) a w:=by
  intro A ad q ai;refine J free r _ e a w A _ E.1 M ab ad O ?_ ?_
  .intro ex p V B;cases ex with
   |normal=>
    have aj:=B;obtain⟨C,f,h1,F,G,H,I⟩:=B;exact q f p V aj F h1 G (λh=>H (U h)) I
   |_=>
    obtain⟨C,f,h1,F,G,H,I⟩:=B;refine R _ p V ⟨C,f,ai _ f V Ξ h1,F,λt s=>G t λh=>s (T t h),λh=>H (U h),I⟩
  .intro ak a w al;exact S ak a w al
 simp only[er]at h;cases Z:Nat.ble 2 (kV x)with
 |false=>
  rw[Z]at h;refine Y _ h (λf p V _ z h1 hk ag q=>W f p V h1 z hk ag q) ?_;intro ex f V L h1;cases ex<;>first|exact absurd rfl L|exact h1
 |true=>
  rw[Z]at h;refine Y _ h (λf p V _ z h1 hk ag q=>?_) ?_
  .simp only at h1;cases ad:kl f (p3 N (dy x) (reads y++rd))with
   |none=>rw[ad]at h1;exact h1.elim
   |some vs=>
    rw[ad]at h1;obtain⟨am,an⟩:=r1 z ad;simp only at h1;rw[rV _ _ _ am]at h1;exact W _ p V h1 (uV (FZ O z hk) an) hk ag q
  .intro ex f V L h1;cases ex<;>first|exact absurd rfl L|exact h1
theorem F4{c:Code}(ac:Sound P N c):Sound P N (.loop c):=by
 intro free r rd e a w K Q T ae af h F ah ai;simp only[wf]at T;simp only[er]at h;generalize ay:p4 N (dy c) (reads c++rd) e=S at h;cases ad:kl e S with
 |none=>rw[ad]at h;exact h.elim
 |some vs=>
  rw[ad]at h;simp only at h;obtain⟨I,aj,s,ak⟩:=h;obtain⟨al,am⟩:=r1 F ad;let Inv:Act->x3->Prop:=λf V=>∃us,us.length=S.length/\app S.length I us V/\(∀p∈S.zip us,f.tmps.getD p.1 undef=p.2)/\f.tmps.size=N/\
   (∀t,t∉dy c->f.tmps.getD t undef=a.tmps.getD t undef)/\(je free c=true->f.defers=a.defers)/\(free.1=false->gH free.2 w a.defers V f.defers)
  let y:Act->List x1:=λf=>S.map λt=>f.tmps.getD t undef;have U:∀(f:Act)(us:List x1),us.length=S.length->(∀p∈S.zip us,f.tmps.getD p.1 undef=p.2)->y f=us:=by
   intro f us z A;apply List.ext_getElem
   .simp[y,z]
   .intro i h1 q;have hi:i<S.length:=by simpa[y]using h1
    have an:(S[i],us[i])∈S.zip us:=by
     have:=S0 (l:=S.zip us) (n:=i) (by simp[List.length_zip,z,hi]);simpa using this
    simpa[y]using A _ an
  refine wpIn_loop Inv (λf V=>app S.length aj (y f) V) ⟨vs,al,s,am,F.1,λ_ _=>rfl,λ_=>rfl,λag=>gH.refl (af ag)⟩ ?_;rintro f V ⟨us,z,ao,A,ap,hk,ag,B⟩;have C:=rW S.length _ us ak;rw[rV _ _ _ z]at C;have C:=C V ao;have aq:S4 N (jc S us (lP (dy c) e)) f:=by
   refine uV (a:=f) (e:=lP (dy c) e) ⟨ap,λt x E=>?_⟩ A;obtain⟨h1,q⟩:=r0 E;rw[hk t q];exact F.2 t x h1
  refine ac free r _ _ f V _ _ T ?_ (λh=>(B h).2.1) C aq ?_ ?_
  .intro l au;obtain⟨W,av,s⟩:=ae l au;exact⟨W,av,(B W).1.aZ _ _ s rfl⟩
  .intro ex G aa H;have X:∀t,t∉dy c->G.tmps.getD t undef=a.tmps.getD t undef:=by
    obtain⟨_,_,_,_,J,_,_⟩:=H;exact λt E=>(J t E).trans (hk t E)
   cases ex with
   |normal=>
    obtain⟨s,L,h1,q,J,M,O⟩:=H;simp only at h1;cases R:kl L S with
    |none=>rw[R]at h1;exact h1.elim
    |some Y=>
     rw[R]at h1;obtain⟨Z,ab⟩:=r1 q R;refine⟨⟨Y,Z,h1.1,ab,q.1,X,λh=>(M h).trans (ag h),λh=>(B h).trans (O h)⟩,?_⟩;rw[U f us z A,U G Y Z ab];exact h1.2
   |_=>
    obtain⟨s,L,h1,q,J,M,O⟩:=H;exact ah _ G aa ⟨s,L,h1,q,X,λh=>(M h).trans (ag h),λh=>(B h).trans (O h)⟩
  .intro aw a w ax;exact ai aw a w ax
theorem F5{o:Obj}(h:fA o=false):book o=true\/rK o=true:=by cases o<;>first|exact .inl rfl|exact .inr rfl|cases h
theorem F6{l:Nat}{f h:x3}{y z:Obj}(A:f.heap[l]?=σ y)(a:cz n f w)(e:cz n (w.putObj l z) h)(B:l<h.heap.size)(hi:eX f h):cL f (h.putObj l y):=
 ⟨e.os.trans a.os,jF.trans e.tape a.tape,e.output.trans a.output,by have h1:=a.size;have C:=e.size;simp at C ⊢;omega,λr x p U=>by
  by_cases s:r=l
  .subst s;rw[A]at p;cases p;exact x3.putObj_heap_same B
  .rw[R6 s];rcases F5 U with q|q
   .exact e.aZ r x (by rw[R6 s];exact a.aZ r x p q) q
   .exact hi r x p q⟩
theorem F7{f:S2}{V:Array Tmp}{Z body:Code}(be:Sound P N Z)(al:Sound P N body):Sound P N (.rangeFunc f V Z body):=by
 intro free r rd e a w K Q aN U ay h ae bf b1;simp only[wf,V7]at aN;obtain⟨bg,bh,bi⟩:=aN;simp only[er]at h;obtain⟨fr,b⟩:=free;cases fr with
 |true=>exact h.elim
 |false=>
  simp only[cond_false]at h;cases ag:eB e f with
  |none=>rw[ag]at h;exact h.elim
  |some b2=>
   rw[ag]at h;obtain⟨aO,o,G,g,cap,b3,b4,b5,am,I,az,bj,⟨aP,bk⟩,bl,haQ,an,aB,hbm,bn,bo,bp,bq,br⟩:=h;have bt:∀m k ex w',kW ex=true->ex≠ .normal->az m k ex w'->K ex e w':=by
    intro m k ex w' af aC J;cases ex with
    |normal=>exact absurd rfl aC
    |ret=>
     have:=bq m k w' J;cases U:jd body with
     |true=>rw[U]at this;exact this
     |false=>rw[U]at this;exact this.elim
    |exit i=>exact yw (br m k i w' J)
    |_=>cases af
   have bu:a.eval f= .func (.func g) #[] cap:=by rw[ae.eB ag];exact bj
   refine wpIn_rangeFunc ?_;intro fn _;obtain⟨D,mark,l,C,y,bw,E,aR,ao,R,aS,ap⟩:∃(D:Nat)(mark:List Deferred)(l:Nat)(C:x3)(y:LoopState->Option Code->Loop),
     (Instr.enterLoop fn a.tmps V Z body (ei r).round).run P w= .ok (l,mark) C/\
     y=(λst bx=>{state:=st,pending:=bx,fn,tmps:=a.tmps,params:=V,assign:=Z,body,defers:=D})/\
     C.heap[l]?=σ (.loop (y .ready ν))/\(mark=[]\/(mark=[km D]/\C.heap[D]?=σ (.deferred (σ []))/\w.heap.size<=D/\D≠l))/\Ext w C/\cL w C/\w.heap.size<=l:=by
    cases r with
    |none=>
     refine⟨w.heap.size,[km w.heap.size],w.heap.size+1,_,_,run_enterLoop_outer _ _ _ _ _,rfl,?_,.inr ⟨rfl,?_,o4 _,Ω⟩,?_,?_,Ω⟩
     .have:=x3.alloc_heap_new (w.alloc (.deferred (σ []))) (.loop {state:=.ready,pending:=ν,fn,tmps:=a.tmps,params:=V,assign:=Z,body,defers:=w.heap.size});rwa [x3.size_alloc]at this
     .exact (Below.heap_alloc _ _ _ Ξ).trans (x3.alloc_heap_new w _)
     .exact (oM w _).trans (oM _ _)
     .exact (oN w _).trans (oN _ _)
    |some bz=>
     obtain⟨_,bA,S⟩:=U bz rfl;exact⟨bA.defers,[],w.heap.size,_,_,run_enterLoop_inner S _ _ _ _ _,rfl,x3.alloc_heap_new w _,.inl rfl,oM _ _,oN _ _,o4 _⟩
   let T:x3->Prop:=λq=>mark=[]\/(mark=[km D]/\q.heap[D]?=σ (.deferred (σ []))/\w.heap.size<=D/\D≠l);have aD:∀{m:Nat}{A B:x3},cz m A B->T A->T B:=λF h=>h.imp id λ⟨h1,s,z⟩=>⟨h1,F.aZ _ _ s rfl,z⟩;have aq:∀{A:x3}(o:Obj),T A->T (A.putObj l o):=λo h=>h.imp id λ⟨h1,s,z,L⟩=>⟨h1,(R6 L).trans s,z,L⟩;have bB:cz b w C:=aS.b;have aT:=(l9.1 aR).1;have aU:∀{A B:x3},fB C.heap.size A B->T A->T B:=λF h=>h.imp id λ⟨h1,s,z⟩=>⟨h1,F.old _ _ (by
    rcases ao with hm|⟨_,ay,_⟩
    .rw[hm]at h1;cases h1
    .exact (l9.1 ay).1) s rfl,z⟩
   have ah:∀{A:x3}(o:Obj),fB w.heap.size A (A.putObj l o):=λ{A}o=>⟨rfl,.kh,rfl,Ξ,λr x U J _=>by rw[R6 Ω];exact J⟩;let aA:(Nat->Prop)->aO->x3->Prop:=λm k q=>I m k q/\q.heap[l]?=σ (.loop (y .ready ν))/\cz b w q/\T q;let aV:(Nat->Prop)->aO->x3->Prop:=λm k q=>∃ex c,kW ex=true/\exitCode ex=σ c/\az m k ex q/\q.heap[l]?=σ (.loop (y .done (σ c)))/\cz b w q/\T q;have own:∀{m:Nat->Prop}{A B:x3},ai (λr=>o=true/\C.heap.size<=r/\¬m r) A B->ai (λr=>o=true/\w.heap.size<=r/\¬m r) A B:=λh=>h.mono λr _ h=>⟨h.1,Y8 R.size h.2.1,h.2.2⟩;have aE:=bk l aA aV C (λm k A B he F ⟨h1,s,z,L⟩=>⟨an m k A B (own he) (F.mono R.size) h1,F.old _ _ aT s rfl,z.yj F R.size,aU F L⟩)
    (λm k A B he F ⟨ex,c,S,h1,s,z,L,aj⟩=>⟨ex,c,S,h1,aB m k ex A B (own he) (F.mono R.size) s,F.old _ _ aT z rfl,L.yj F R.size,aU F aj⟩) ?round (haQ _ _ _ R hbm) ⟨an _ _ _ _ (R.ab _) aS.o bn,aR,bB,ao⟩
   case round=>
    intro m k au vs q aW bC ham aX ⟨hi,av,bD,bE⟩;have aF:=bl k vs au q aX;have aY:=run_yield (P:=P) (args:=vs.toArray) av (by rw[E];simp[aF]);rw[E]at aY;refine⟨fn,_,Z,body,aY,roundIn_of_wpIn trivial ?_⟩;have bF:(V.zip vs.toArray).foldl (λtmps x=>match x with|(t,a)=>tmps.setIfInBounds t a) a.tmps=(V.toList.zip vs).foldl (λiF (p:Nat×x1)=>iF.setIfInBounds p.1 p.2) a.tmps:=by
     rw[<-Array.foldl_toList,Array.toList_zip]
    have a1:=yA (N:=N) V.toList vs a.tmps e (by simp[aF]) bg (show S4 N e {tmps:=a.tmps,defers:=[]}from⟨ae.1,ae.2⟩);rw[<-bF]at a1;have bG:q.heap[l]?=σ (.loop (y .ready ν)):=av;refine be (false,b) (σ l) _ _ _ q _ _ bh (λl' aG=>⟨rfl,by cases aG;exact⟨_,av⟩⟩) (λ_=>⟨[],rfl,List.nodup_nil,λD ao=>by cases ao⟩) (by have al:=rW _ _ vs bo;rw[rV _ _ _ aF]at al;exact al m k au q (λr U=>⟨Y8 R.size (aW r U).1,(aW r U).2⟩) (Y8 R.size bC) ham aX hi) a1 ?_ (λ_ _ _ h=>h);intro ex a2 H aH;obtain⟨S,b6,h1,s,z,L,aj⟩:=aH;obtain⟨W,bH,_⟩:=aj rfl;cases ex with
    |normal=>
     have aa:H.heap[l]?=σ (.loop (y .ready ν)):=W.aZ _ _ av rfl;have bI:=(l9.1 aa).1;refine⟨_,run_beginRound aa (by rw[E]),?_⟩;have bJ:Ext H (H.putObj l (.loop {y .ready ν with state:=.busy})):=p6 aa rfl _;have a6:(H.putObj l (.loop {y .ready ν with state:=.busy})).heap[l]?=σ (.loop {y .ready ν with state:=.busy}):=x3.putObj_heap_same bI;have bK:lQ (H.putObj l (.loop {y .ready ν with state:=.busy})) a2.defers:=by
      obtain⟨aw,ac,ad,ak⟩:=bH;refine⟨aw,ac,ad,λD' X=>?_⟩;have:=ak D' X;have aC:D'≠l:=λhe=>by rw[he,aa]at this;cases this
      rw[R6 aC];exact this
     have a7:cz b w (H.putObj l (.loop {y .ready ν with state:=.busy})):=rZ (bD.trans W) ap _;have a8:=aq (.loop {y .ready ν with state:=.busy}) (aD W bE);have bL:=h1 _ bJ ⟨yx rfl,ah _⟩ (FX (eX.refl _) aa rfl _);refine al (false,b) (σ l) _ _ a2 _ _ _ bi (λl' aG=>⟨rfl,by cases aG;exact⟨_,a6⟩⟩) (λ_=>bK) bL s ?_ (λ_ _ _ h=>h);intro bM b7 M aH;obtain⟨aI,b8,g1,b9,ca,cb,bN⟩:=aH;obtain⟨O,_,_⟩:=bN rfl;have aJ:M.heap[l]?=σ (.loop {y .ready ν with state:=.busy}):=O.aZ _ _ a6 rfl;have aK:=(l9.1 aJ).1;have ba:=λbO=>run_endRound (P:=P) bO aJ;have ax:∀(o:Obj),Ext M (M.putObj l o):=λo=>p6 aJ rfl o;have bb:∀(ex:Exit)(c:Code),kW ex=true->exitCode ex=σ c->(bif o then False else az m k ex M)->
       ∃v w',(Instr.endRound l (σ c)).run P M= .ok v w'/\∃aL,Ending.returned v= .returned aL/\((aL= .bool true/\(∃cd,(∀r,cd r->m r\/q.heap.size<=r/\r<w'.heap.size)/\(∀r,m r->cd r)/\am cd w'/\aA cd au w')/\(G=true\/o=true->cL q w')/\q.heap.size<=w'.heap.size/\(o=true->ai (λr=>r<C.heap.size\/m r) q w'))\/(o=false/\aL= .bool false/\aV m k w')):=by
      intro ex c af bP bc;cases o with
      |true=>exact bc.elim
      |false=>
       refine⟨_,_,ba (σ c),_,rfl,.inr ⟨rfl,rfl,ex,c,af,bP,aB m k ex _ _ ((ax _).ab _) (ah _) bc,?_,rZ (a7.trans O) ap _,aq _ (aD O a8)⟩⟩;rw[x3.putObj_heap_same aK,E];rfl
     cases bM with
     |normal=>
      have bQ:q.heap.size<=M.heap.size:=by
       have h1:=W.size;have s:=O.size;simp at s;omega
      obtain⟨⟨cd,d1,d2,ac,ad⟩,bR,bS⟩:(∃cd,(∀r,cd r->m r\/q.heap.size<=r/\r<M.heap.size)/\(∀r,m r->cd r)/\am cd M/\I cd au M)/\(G=true\/o=true->eX q M)/\(o=true->ai (λr=>r<C.heap.size\/m r) q M):=by
       cases o with
       |true=>exact⟨g1.1,λ_=>g1.2.1,λ_=>g1.2.2.mono λr _ h=>h.imp (λh=>R7 h R.size) id⟩
       |false=>exact⟨⟨m,λr h=>.inl h,λ_ h=>h,g1.1,g1.2.1⟩,λh=>g1.2.2 (h.elim id λh=>nomatch h),λh=>nomatch h⟩
      refine⟨_,_,ba ν,_,rfl,.inl ⟨rfl,⟨cd,by simpa using d1,d2,haQ _ _ _ (ax _) ac,an _ _ _ _ ((ax _).ab _) (ah _) ad,?_,rZ (a7.trans O) ap _,aq _ (aD O a8)⟩,λbT=>?_,?_,λbU=>(bS bU).trans ((ax _).ab _)⟩⟩
      .rw[x3.putObj_heap_same aK,E];rfl
      .have:=F6 bG W O aK (bR bT);subst E;exact this
      .simpa using bQ
     |ret=>exact bb .ret _ rfl rfl g1
     |exit id=>exact bb (.exit id) _ rfl rfl g1
     |goto t=>cases aI
     |panic bV=>cases aI
     |outgrown=>cases aI
    |_=>exact h1.elim
   have aE:=gF.calls P aE aP;refine⟨l,mark,C,{target:=.fn (.func g) cap,args:=#[.func (.yield l) #[] #[]]},C,g,#[.func (.yield l) #[] #[]]++cap,C,bw,?_,λ_ _=>trivial,?_,uB _ _,?_⟩
   .simp only[resolve,bu];simp[go_sem]
   .simp only[invoke];exact aP _ _
   .have bW:(#[.func (.yield l) #[] #[]]++cap:Array x1)=(x1.func (.yield l) #[] #[]::cap.toList).toArray:=by apply Array.toList_inj.1;simp
    rw[bW];refine CallsIn.mono (yk aE) ?_;rintro cc H ⟨v,rfl,bX⟩;have left:∀(Y:Loop)(ex:Exit),kW ex=true->H.heap[l]?=σ (.loop Y)->Y.state≠ .busy->cz b w H->T H->K ex e (H.putObj l (.loop {Y with state:=.exhausted}))->
      Q ex {a with defers:=mark++a.defers} (H.putObj l (.loop {Y with state:=.exhausted})):=by
     intro Y ex af aa ce W bd bY;have O:cz b w (H.putObj l (.loop {Y with state:=.exhausted})):=rZ W ap _;refine bf ex _ _ ⟨af,e,bY,⟨ae.1,ae.2⟩,λ_ _=>rfl,(λh=>by simp[je,kk]at h),λ_=>⟨O,?_,?_⟩⟩
     case refine_2=>
      rcases bd with hm|⟨hm,_,bZ,_⟩
      .exact⟨[],by simp[hm],λ_ h=>by cases h⟩
      .exact⟨[D],by simp[hm],λD' X=>by simp at X;omega⟩
     obtain⟨aw,ac,ad,ak⟩:=ay rfl;have aM:=aq (.loop {Y with state:=.exhausted}) bd;rcases aM with hm|⟨hm,aM,bZ,_⟩
     .exact⟨aw,by simp[hm,ac],ad,λD' X=>O.aZ _ _ (ak D' X) rfl⟩
     .refine⟨D::aw,by simp[hm,ac],List.nodup_cons.2 ⟨λb0=>?_,ad⟩,λD' X=>?_⟩
      .have:=(l9.1 (ak D b0)).1;omega
      .rcases V3.1 X with h|h
       .rw[h];exact aM
       .exact O.aZ _ _ (ak D' h) rfl
    rcases bX with⟨m,k,hk,h1,s,z,L⟩|⟨m,k,ex,c,S,h1,s,z,L,aj⟩
    .refine⟨ν,_,by have:=run_endLoop (P:=P) s (by rw[E];simp);rw[E]at this;exact this,?_⟩;have:=left (y .ready ν) .normal rfl s (by rw[E];simp) z L (bp m _ _ hk (an m _ _ _ ((p6 s rfl _).ab _) (ah _) h1));rw[E]at this;exact this
    .refine⟨σ c,_,by have:=run_endLoop (P:=P) z (by rw[E];simp);rw[E]at this;exact this,?_⟩;have:=left (y .done (σ c)) ex S z (by rw[E];simp) L aj (bt m k ex _ S (by intro he;rw[he]at h1;cases h1) (aB m _ _ _ _ ((p6 z rfl _).ab _) (ah _) s));rw[E]at this;cases ex with
     |normal=>cases h1
     |ret=>cases h1;exact wpIn_ret this
     |exit id=>cases h1;exact wpIn_exit this
     |goto t=>cases S
     |panic bV=>cases S
     |outgrown=>cases S
theorem r2{b:Frame}{a:Act}{k:List Item}{cs:List Frame}{c:Code}:
  step P (lone (b.atR a (.code (.scope c)::k)) cs w)= .next (lone (b.atR a (.code c:: .inScope c::k)) cs w):=
 step_lone_go (by simp[stepG,stepG.exec,Frame.atR])
theorem F8{b:Frame}{a:Act}{k:List Item}{cs:List Frame}{c:Code}:
  step P (lone (b.atR a (.inScope c::k)) cs w)= .next (lone (b.atR a k) cs w):=
 step_lone_go (by simp[stepG,stepG.exec,Frame.atR])
theorem F9{F:Fence}{c:Code}{Q:Exit->Act->x3->Prop}{a:Act}(h:c.wpIn F n P (λex a' w'=>kW ex=true/\Q ex a' w') a w):
  (Code.scope c).wpIn F n P Q a w:=by
 intro b k cs A q r;have f:(lone (b.atR a (.code (.scope c)::k)) cs w).fenced P F:=fenced_calm q r rfl;obtain⟨e,s,x,⟨y,z⟩,p⟩:=h b (.inScope c::k) cs A q r;have J:∀id,exitTo id (.inScope c::k)=exitTo id k:=λid=>by simp[exitTo]
 cases e with
 |normal=>exact⟨.normal,s,x,z,.head f r2 (StepsIn.trans p (.one (fenced_calm q r rfl) F8))⟩
 |exit id=>
  exact⟨.exit id,s,x,z,λB hk=>.head f r2 (p.1 B (by rw[J];exact hk)),
   λC hk=>let⟨E,h1,G⟩:=p.2 C (by rw[J];exact hk);⟨E,h1,.head f r2 G⟩⟩
 |ret=>exact⟨_,s,x,z,.of_steps (.one f r2) p⟩
 |goto l=>cases y
 |panic H=>cases y
 |outgrown=>cases y
theorem sound(hm:P.follows .mixedOrders=true)(c:Code):Sound P N c:=by
 induction c with
 |skip=>exact λfree r rd e a w K Q _ _ q h p A _=>wpIn_skip (A _ _ _ ⟨rfl,e,h,p,λ_ _=>rfl,λ_=>rfl,λag=>gH.refl (q ag)⟩)
 |label l=>exact λfree r rd e a w K Q _ _ q h p A _=>wpIn_label (A _ _ _ ⟨rfl,e,h,p,λ_ _=>rfl,λ_=>rfl,λag=>gH.refl (q ag)⟩)
 |ret=>exact λfree r rd e a w K Q _ _ q h p A _=>wpIn_ret (A _ _ _ ⟨rfl,e,h,p,λ_ _=>rfl,λ_=>rfl,λag=>gH.refl (q ag)⟩)
 |exit i=>exact λfree r rd e a w K Q _ _ q h p A _=>wpIn_exit (A _ _ _ ⟨rfl,e,h,p,λ_ _=>rfl,λ_=>rfl,λag=>gH.refl (q ag)⟩)
 |goto l=>exact λfree r rd e a w K Q _ _ q h p A _=>h.elim
 |refuse s=>exact λfree r rd e a w K Q _ _ q h p A _=>h.elim
 |region id ops aa=>
  intro free r rd e a w K Q B F q h p A G;simp only[wf,V7]at B;have W:∀o∈ops.toList,∀t,o.dst=σ t->t∈np ops.toList:=λo ab t L=>F0 L _ ab;simp only[er]at h;cases aa with
  |false=>exact FG W B.1 h p λa' w' C=>A _ _ _ (yy q C)
  |true=>
   simp only[X1,Bool.false_or]at B;exact FP hm B.2 G W B.1 (λw' h1 H I=>h w' h1 H I) p λa' w' C=>A _ _ _ (yy q C)
 |seq x y J S=>exact F3 J S
 |cond c x y J S=>
  intro free r rd e a w K Q B F q h p A G;simp only[wf,V7]at B;have X:∀ex a' w',mv N free (je free x) K (dy x) a w ex a' w'->Q ex a' w':=λex a' w' C=>A ex a' w' (by
   obtain⟨R,M,h1,H,I,O,T⟩:=C;exact⟨R,M,h1,H,λt L=>I t λh=>L (by simp[dy,h]),(λh=>O (yB _ _ _ h)),T⟩)
  have Y:∀ex a' w',mv N free (je free y) K (dy y) a w ex a' w'->Q ex a' w':=λex a' w' C=>A ex a' w' (by
   obtain⟨R,M,h1,H,I,O,T⟩:=C;exact⟨R,M,h1,H,λt L=>I t λh=>L (by simp[dy,h]),(λh=>O (yC _ _ _ h)),T⟩)
  simp only[er]at h;cases E:eB e c with
  |none=>rw[E]at h;exact h.elim
  |some v=>
   rw[E]at h;cases v with
   |b t=>
    cases t with
    |true=>exact wpIn_cond (t:=true) (p.eB E) (J free r rd e a w K Q B.1 F q h p X G)
    |false=>exact wpIn_cond (t:=false) (p.eB E) (S free r rd e a w K Q B.2 F q h p Y G)
   |v z=>
    obtain⟨t,ac,L,ag⟩:=h;refine wpIn_cond (t:=t) ((p.eB E).trans ac) ?_;cases t with
    |true=>exact J free r rd e a w K Q B.1 F q (L rfl) p X G
    |false=>exact S free r rd e a w K Q B.2 F q (ag rfl) p Y G
   |u=>exact h.elim
 |block id c E=>
  intro free r rd e a w K Q B F q h p A G;simp only[wf]at B;simp only[er]at h;refine wpIn_block (E free r rd e a w _ _ B F q h p ?_ λZ a w U=>G Z a w U);intro ex a' w' C;obtain⟨R,M,h1,H,I,O⟩:=C;cases ex with
  |exit i=>
   simp only[Exit.inBlock];simp only at h1;by_cases hi:i=id
   .rw[if_pos hi];rw[hi,Nat.beq_refl]at h1;exact A _ _ _ ⟨rfl,M,h1,H,I,O⟩
   .rw[if_neg hi];have:T7 i id=false:=by
     cases V:T7 i id with
     |true=>exact absurd (Nat.eq_of_beq_eq_true V) hi
     |false=>rfl
    rw[this]at h1;exact A _ _ _ ⟨rfl,M,h1,H,I,O⟩
  |_=>exact A _ _ _ ⟨R,M,h1,H,I,O⟩
 |loop c E=>exact F4 E
 |scope c E=>
  intro free r rd e a w K Q B F q h p A G;exact F9 (E free r rd e a w K (λex a' w'=>kW ex=true/\Q ex a' w') B F q h p (λex a' w' C=>⟨C.1,A ex a' w' C⟩) λZ a w U=>by cases U.1)
 |rangeFunc f ae af body ad V=>exact F7 ad V
def kX:Nat->List x1->Env
 |_,[]=>[]
 |i,v::r=>(i,.v v)::kX (i+1) r
def nt(P:W5)(e:Env)(w:x3):List ResultVar->(List x1->Prop)->Prop
 |[],K=>K []
 | .tmp t::r,K=>match look e t with
  |some x=>nt P e w r λvs=>K (x.val::vs)
  |none=>False
 | .cell a t::r,K=>match look e a with
  |some x=>ac P (do loadVar t (<-asAddr x.val)) w λv=>nt P e w r λvs=>K (v::vs)
  |none=>False
def r3:List x1->x1
 |[v]=>v
 |vs=>.tuple vs.toArray
def lR(P:W5)(a:List ResultVar)(marks:Bool)(n:Nat)(Q:x1->x3->Prop):Exit->Env->x3->Prop
 | .normal,e,w| .ret,e,w=>nt P e w a λvs=>bif marks then uR n w λw'=>Q (r3 vs) w' else Q (r3 vs) w
 |_,_,_=>False
def mw:List ResultVar->List Nat
 |[]=>[]
 | .tmp t::r=>t::mw r
 | .cell a _::r=>a::mw r
theorem yD:∀(vs:List x1)(i t:Nat)(x:ep),look (kX i vs) t=σ x->∃j v,t=i+j/\vs[j]?=σ v/\x= .v v
 |[],_,_,_,h=>by cases h
 |v::r,i,t,x,h=>by
  simp only[kX,look]at h;cases a:T7 i t with
  |true=>
   rw[a]at h;simp only[cond_true,Y1]at h;exact⟨0,v,by rw[Nat.eq_of_beq_eq_true a];rfl,rfl,h.symm⟩
  |false=>
   rw[a]at h;obtain⟨j,u,h1,e,f⟩:=yD r (i+1) t x h;exact⟨j+1,u,Ω,by simpa using e,f⟩
theorem uW(vs:List x1)(h:vs.length<=n):S4 n (kX 0 vs) {tmps:=vs.toArray++Array.replicate (n-vs.toArray.size) undef,defers:=[]}:=by
 refine⟨Θ,λt x J=>?_⟩;obtain⟨j,v,h1,a,rfl⟩:=yD vs 0 t x J;have h1:t=j:=Ω
 subst h1;have e:t<vs.length:=(x4.1 a).1;rw[Array.getD_eq_getD_getElem?,Array.getElem?_append_left (by simpa using e)];simp[a,ep.val]
def r4(iF:Array x1):ResultVar->Sem x1
 | .tmp t=>pure (iF.getD t undef)
 | .cell b t=>do loadVar t (<-asAddr (iF.getD b undef))
theorem Ga(fn:Func)(iF:Array x1):results fn iF=(do let vs <-fn.results.mapM (r4 iF);pure (if h:vs.size=1 then vs[0]else .tuple vs)):=by
 unfold results;congr 2
theorem uX{e:Env}{a:Act}{w:x3}(p:S4 N e a):∀(q:List ResultVar)(K:List x1->Prop),nt P e w q K->
  ∃vs,K vs/\vs.length=q.length/\∀w',Ext w w'->(q.mapM (r4 a.tmps)).run P w'= .ok vs w'
 |[],K,h=>⟨[],h,rfl,λw' _=>by simp[V1]⟩
 | .tmp t::r,K,h=>by
  simp only[nt]at h;cases f:look e t with
  |none=>rw[f]at h;exact h.elim
  |some x=>
   rw[f]at h;obtain⟨vs,h1,s,y⟩:=uX p r _ h;refine⟨x.val::vs,h1,by simp[s],λw' hw=>?_⟩;rw[List.mapM_cons];simp only[r4,W0,V1,W3,y w' hw,p.2 t x f]
 | .cell b t::r,K,h=>by
  simp only[nt]at h;cases f:look e b with
  |none=>rw[f]at h;exact h.elim
  |some x=>
   rw[f]at h;obtain⟨v,ad,h⟩:=h;obtain⟨vs,h1,s,y⟩:=uX p r _ h;refine⟨v::vs,h1,by simp[s],λw' hw=>?_⟩;rw[List.mapM_cons];have:=ad w' hw;rw[<-p.2 b x f]at this;rw[r4,W0,this];simp only[W3,W0,y w' hw,V1]
theorem uY{fn:Func}{e:Env}{a:Act}(p:S4 N e a){K:List x1->Prop}(h:nt P e w fn.results.toList K):
  ∃vs,K vs/\∀w',Ext w w'->(results fn a.tmps).run P w'= .ok (r3 vs) w':=by
 obtain⟨vs,h1,q,f⟩:=uX p _ _ h;refine⟨vs,h1,λw' hw=>?_⟩;have f:=f w' hw;rw[Ga,W0,Array.mapM_eq_mapM_toList,map_eq_pure_bind,W0,f];simp only[W3,V1];cases vs with
 |nil=>rfl
 |cons v r=>
  cases r with
  |nil=>rfl
  |cons u r=>simp[r3]
theorem yE{fn:Func}{tmps:Array x1}{R:Ending->x3->Prop}:∀(a:List Nat)(w:x3),a.Nodup->(∀D∈a,w.heap[D]?=σ (.deferred (σ [])))->
  (∀w',Ext w w'->Ext w' w->w'.os=w.os->jF w w'->w'.output=w.output->w.heap.size=w'.heap.size->
   (∀r,r∉a->w'.heap[r]?=w.heap[r]?)->∃v,(results fn tmps).run P w'= .ok v w'/\R (.returned v) w')->
  LeavesInM Fence.wide 0 P fn tmps R (a.map km) .returning w
 |[],w,_,_,h=>by
  obtain⟨v,h1,e⟩:=h w (Ext.refl _) (Ext.refl _) rfl .kh rfl rfl λ_ _=>rfl;exact⟨v,h1,e⟩
 |D::a,w,f,p,h=>by
  rw[List.nodup_cons]at f;have q:=p D (.head _);refine⟨Ξ,.inl ⟨D,_,rfl,run_takeDeferred q,?_⟩⟩;refine yE a _ f.2 (λD' s=>?_) λw' h1 e y z A B C=>?_
  .rw[R6 (λhe=>f.1 (by rw[<-he];exact s))];exact p D' (.tail _ s)
  .refine h w' ((p6 q rfl _).trans h1) (e.trans (yx rfl)) y z A (by simpa using B) λr x=>?_;rw[C r λhm=>x (.tail _ hm),R6 λhe=>x (by rw[he];exact .head _)]
theorem am.enter(hm:P.follows .mixedOrders=true){f:R5}{fn:Func}{c:Code}(ag:P.funcs[f]?=σ fn)(z:fn.body=σ c)(A:(fn.name == "runtime.NumGoroutine")=false)(M:wf fn.ntmps c=true){args:List x1}(N:Nat.ble args.length fn.ntmps=true){w:x3}{Q:x1->x3->Prop}(h:er P fn.ntmps (false,w.heap.size) c (mw fn.results.toList) (kX 0 args) w (lR P fn.results.toList true w.heap.size Q)):am P f args w Q:=by
 refine .code (Enters.of P ag z A) (callsIn_wide (n:=0).1 (callsIn_of_wp_marks ag z trivial ?_));have O:=uW (n:=fn.ntmps) args (Nat.le_of_ble_eq_true N);refine wpIn_mono (Q:=λex a' w'=>kW ex=true/\bodyPostM Fence.wide 0 P fn (λe w'=>∃v,e= .returned v/\cL w w'/\Q v w') ex a' w') ?_ λ_ _ _ h=>h.2;refine sound hm c (false,w.heap.size) ν _ _ _ w _ _ M (λl R=>by cases R) (λ_=>⟨[],rfl,List.nodup_nil,λD s=>by cases s⟩) h O ?_ (λ_ _ _ h=>by cases h.1)
 .intro ex a' w' S;obtain⟨T,V,p,W,_,_,U⟩:=S;obtain⟨a,⟨x,B,X,s⟩,Y,Z,ab⟩:=U rfl;have C:∀D∈x,w.heap.size<=D:=by
   intro D ac;have h1:km D∈Y.map km:=by
    have:km D∈x.map km:=j4.2 ⟨D,ac,rfl⟩;rw[<-B,Z]at this;simpa using this
   obtain⟨E,y,ad⟩:=j4.1 h1;have:E=D:=by simpa[km]using ad
   exact this▸ab E y
  have F:lR P fn.results.toList true w.heap.size Q .ret V w'->LeavesInM Fence.wide 0 P fn a'.tmps (λe G=>∃v,e= .returned v/\cL w G/\Q v G) a'.defers .returning w':=by
   intro p;rw[B];obtain⟨vs,h1,y⟩:=uY (fn:=fn) W p;refine yE x w' X s λaa g1 ae H I J K L=>⟨_,y aa g1,_,rfl,?_,h1 aa g1 ⟨ae,H,I,J,Nat.le_of_eq K,λr o A q _=>by rw[L r λhm=>by have:=C r hm;omega];exact q⟩⟩;have a:=a.ct (o4 _);refine⟨H.trans a.os,I.trans a.tape,J.trans a.output,by rw[<-K];exact a.size,λr o q af=>?_⟩;have ah:=(l9.1 q).1;rw[L r λhm=>by have:=C r hm;omega];exact a.aZ r o q af
  cases ex with
  |normal=>exact⟨rfl,F p⟩
  |ret=>exact⟨rfl,F p⟩
  |exit id=>exact p.elim
  |_=>cases T
theorem am.Gb(hm:P.follows .mixedOrders=true){f:R5}{fn:Func}{c:Code}(ag:P.funcs[f]?=σ fn)(p:fn.body=σ c)(s:(fn.name == "runtime.NumGoroutine")=false)(x:wf fn.ntmps c=true){args:List x1}(y:Nat.ble args.length fn.ntmps=true)(aB:kk c=false){w:x3}{Q:x1->x3->Prop}(h:er P fn.ntmps (false,w.heap.size) c (mw fn.results.toList) (kX 0 args) w (lR P fn.results.toList false 0 Q)):am P f args w Q:=by
 refine .code (Enters.of P ag p s) (callsIn_wide (n:=0).1 (callsIn_of_wp ag p trivial ?_));have z:=uW (n:=fn.ntmps) args (Nat.le_of_ble_eq_true y);refine wpIn_mono (Q:=λex a' w'=>kW ex=true/\bodyPost P fn (λe w'=>∃v,e= .returned v/\cL w w'/\Q v w') ex a' w') ?_ λ_ _ _ h=>h.2;refine sound hm c (false,w.heap.size) ν _ _ _ w _ _ x (λl A=>by cases A) (λ_=>⟨[],rfl,List.nodup_nil,λD B=>by cases B⟩) h z ?_ (λ_ _ _ h=>by cases h.1);intro ex a' w' C;obtain⟨E,F,a,G,_,H,U⟩:=C;have I:a'.defers=[]:=H (by simp[je,aB]);have q:lR P fn.results.toList false 0 Q .ret F w'->a'.defers=[]/\∃v,(results fn a'.tmps).run P w'= .ok v w'/\∃r,Ending.returned v= .returned r/\cL w w'/\Q r w':=by
  intro a;obtain⟨vs,h1,J⟩:=uY (fn:=fn) G a;exact⟨I,_,J w' (Ext.refl _),_,rfl,(U rfl).1.ct (o4 _),h1⟩
 cases ex with
 |normal=>exact⟨rfl,q a⟩
 |ret=>exact⟨rfl,q a⟩
 |exit id=>exact a.elim
 |_=>cases E
theorem gF.enter(hm:P.follows .mixedOrders=true){f:R5}{fn:Func}{c:Code}(ag:P.funcs[f]?=σ fn)(p:fn.body=σ c)(s:(fn.name == "runtime.NumGoroutine")=false)(x:wf fn.ntmps c=true){args:List x1}(y:Nat.ble args.length fn.ntmps=true){w:x3}{Q:x1->x3->Prop}(h:er P fn.ntmps (true,0) c (mw fn.results.toList) (kX 0 args) w (lR P fn.results.toList false 0 Q)):gF P f args w Q:=by
 refine .code (Enters.of P ag p s) (callsIn_wide (n:=0).1 (callsIn_of_wp ag p trivial ?_));have z:=uW (n:=fn.ntmps) args (Nat.le_of_ble_eq_true y);refine wpIn_mono (Q:=λex a' w'=>kW ex=true/\bodyPost P fn (λe w'=>∃v,e= .returned v/\Q v w') ex a' w') ?_ λ_ _ _ h=>h.2;refine sound hm c (true,0) ν _ _ _ w _ _ x (λl A=>by cases A) (λh=>by cases h) h z ?_ (λ_ _ _ h=>by cases h.1);intro ex a' w' B;obtain⟨C,E,a,F,_,G,U⟩:=B;have H:a'.defers=[]:=G rfl;have q:lR P fn.results.toList false 0 Q .ret E w'->a'.defers=[]/\∃v,(results fn a'.tmps).run P w'= .ok v w'/\∃r,Ending.returned v= .returned r/\Q r w':=by
  intro a;obtain⟨vs,h1,I⟩:=uY (fn:=fn) F a;exact⟨H,_,I w' (Ext.refl _),_,rfl,h1⟩
 cases ex with
 |normal=>exact⟨rfl,q a⟩
 |ret=>exact⟨rfl,q a⟩
 |exit id=>exact a.elim
 |_=>cases C
end
def p7(l:List S2)(d:Nat):Nat:=
 match l with
 |[]=>d
 | .tmp t::r=>p7 r (Nat.lor d (Nat.shiftLeft 1 t))
 |_::r=>p7 r d
def oO:List T2->Nat->Option T2
 |[],_=>ν
 |o::_,0=>σ o
 |_::l,n+1=>oO l n
def yF(a b:Nat):Nat:=Nat.xor a (Nat.land a b)
def qa(m t:Nat):Bool:=T7 (Nat.land (Nat.shiftRight m t) 1) 1
def ko(m t:Nat):Nat:=Nat.lor m (Nat.shiftLeft 1 t)
def Gc(ops:List T2)(o:T2):Nat:=
 match o.guard with
 |none=>0
 |some (j,_)=>match oO ops j with
  |some ⟨σ d,_,_,_,_,_⟩=>Nat.shiftLeft 1 d
  |_=>0
def r5:List T2->Nat->Nat
 |[],d=>d
 |⟨σ t,_,_,_,_,_⟩::l,d=>r5 l (ko d t)
 |_::l,d=>r5 l d
def yG(ops:List T2):List T2->Nat->Nat->Nat
 |[],_,r=>r
 |o::l,d,r=>yG ops l (match o.dst with|some t=>ko d t|none=>d) (Nat.lor r (yF (p7 (opsOf o.op) (Gc ops o)) d))
def r6:List Nat->Nat->Nat
 |[],_=>0
 |x::_,0=>x
 |_::l,n+1=>r6 l n
def yH(e:Edge):Bool:=
 match e.ground with
 | .textOnly _=>false
 | .gcOnly _=>false
 |_=>true
def yI(bs:List Nat):List Edge->Nat->Nat
 |[],s=>s
 |e::r,s=>yI bs r (bif yH e then Nat.lor (ko s e.on) (r6 bs e.on)else s)
def uZ:List T2->List Nat->List Nat
 |[],bs=>bs
 |o::l,bs=>uZ l (bs++[yI bs o.after.toList 0])
def yJ:List T2->Bool
 |[]=>false
 |⟨_,_,_,_,_,σ _⟩::_=>true
 |_::l=>yJ l
def u0(bs:List Nat)(j k:Nat):Bool:=!(T7 k j)&&(!(qa (r6 bs j) k)&& !(qa (r6 bs k) j))
def yK(bs:List Nat)(j:Nat):Nat->List T2->Bool
 |_,[]=>false
 |i,o::l=>bif Nat.ble j i then false else(!(ja o)&&u0 bs j i)||yK bs j (Nat.succ i) l
def yL(ops:List T2)(bs:List Nat):Nat->List T2->Bool
 |_,[]=>false
 |j,o::l=>(!(ja o)&&yK bs j 0 ops)||yL ops bs (Nat.succ j) l
def lS:Code->Nat
 | .region _ ops e=>bif (e&&yL ops.toList (uZ ops.toList []) 0 ops.toList)||yJ ops.toList then 2 else 1
 | .seq a b=>bif T7 (lS a) 0 then 0 else lS b
 | .cond _ a b=>Nat.add (lS a) (lS b)
 | .block id c=>Nat.add (lS c) (jH id c)
 | .loop _=>0
 | .scope c=>lS c
 | .exit _=>0
 | .goto _=>0
 | .ret=>0
 | .refuse _=>0
 |_=>1
def ib:Code->Nat
 | .region _ ops _=>r5 ops.toList 0
 | .seq a b=>Nat.lor (ib a) (ib b)
 | .cond _ a b=>Nat.lor (ib a) (ib b)
 | .block _ c=>ib c
 | .loop c=>ib c
 | .scope c=>ib c
 |_=>0
def lT:Code->Nat
 | .region _ ops _=>r5 ops.toList 0
 | .seq a b=>Nat.lor (lT a) (lT b)
 | .cond _ a b=>bif T7 (lS a) 0 then lT b else bif T7 (lS b) 0 then lT a else Nat.land (lT a) (lT b)
 | .block id c=>bif T7 (jH id c) 0 then lT c else 0
 | .scope c=>lT c
 |_=>0
def gl:Code->Nat
 | .region _ ops _=>yG ops.toList ops.toList 0 0
 | .seq a b=>Nat.lor (gl a) (yF (gl b) (lT a))
 | .cond c a b=>p7 [c] (Nat.lor (gl a) (gl b))
 | .block _ c=>gl c
 | .loop c=>gl c
 | .scope c=>gl c
 | .rangeFunc f _ a b=>p7 [f] (Nat.lor (gl a) (gl b))
 |_=>0
def my:Nat->Nat->Nat->List Nat
 |0,_,_=>[]
 |n+1,k,m=>bif T7 m 0 then[]else bif T7 (Nat.land m 1) 1 then k::my n (Nat.succ k) (Nat.shiftRight m 1)else my n (Nat.succ k) (Nat.shiftRight m 1)
def qb(e:Env):List Nat->List Nat
 |[]=>[]
 |t::r=>match look e t with
  |some _=>t::qb e r
  |none=>qb e r
structure mz(B S aW:Type) where
 kY:{x:x1}->x1
 tup:List x1->x1
 no:B
 kZ:B
 and:B->B->B
 or:B->B->B
 ext:x3->x3->B
 stays:S->x1->x3->B
 split:x1->B->B->B
 u1:S->x3->(x1->B)->B
 yM:S->x3->(x1->x3->B)->B
 yN:aW->x3->(x3->B)->B
 runN:{fr:Bool}->{n:Nat}->S->x3->(x1->x3->B)->B
 yO:{f:R5}->List x1->x3->(x1->x3->B)->B
 yP:{f:R5}->List x1->x3->(x1->x3->B)->B
 yQ:{fr:Bool}->x1->List x1->x3->(x1->x3->B)->B
 drew:x3->(x3->B)->B
 again:{n:Nat}->x3->(x3->B)->B
 over:{n:Nat}->x3->(x3->B)->B
 da:(x3->B)->((x3->B)->B)->B
 aV:(x1->x3->B)->((x1->x3->B)->B)->B
 ic:(x1->x1->x3->B)->((x1->x1->x3->B)->B)->B
 yR:(x1->x1->x1->x3->B)->((x1->x1->x1->x3->B)->B)->B
 yS:(x1->x1->x1->x1->x3->B)->((x1->x1->x1->x1->x3->B)->B)->B
 yT:(x1->x1->x1->x1->x1->x3->B)->((x1->x1->x1->x1->x1->x3->B)->B)->B
 yU:x3->(x3->(x3->B)->B)->B
 yV:x1->x3->(x1->x3->(x1->x3->B)->B)->B
 yW:x1->x1->x3->(x1->x1->x3->(x1->x1->x3->B)->B)->B
 yX:x1->x1->x1->x3->(x1->x1->x1->x3->(x1->x1->x1->x3->B)->B)->B
 yY:x1->x1->x1->x1->x3->(x1->x1->x1->x1->x3->(x1->x1->x1->x1->x3->B)->B)->B
 yZ:x1->x1->x1->x1->x1->x3->(x1->x1->x1->x1->x1->x3->(x1->x1->x1->x1->x1->x3->B)->B)->B
 y0:x1->x1->x1->x1->x1->x1->x3->(x1->x1->x1->x1->x1->x1->x3->(x1->x1->x1->x1->x1->x1->x3->B)->B)->B
 y1:x1->x3->(x1->x3->(Exit->x3->B)->B)->(x3->B)->(x3->B)->List (Nat×(x3->B))->B
 y2:x1->x3->(x1->x1->x3->(Exit->x3->B)->B)->(x3->B)->(x3->B)->List (Nat×(x3->B))->B
 loadVar:{t:p9}->x1->S
 alloc:{t:p9}->S
 box:{t:p9}->x1->S
 build:{t:p9}->List (Nat×x1)->S
 buildSlice:{t:p9}->{n:Nat}->List (Nat×x1)->S
 load:{t:p9}->x1->S
 nil:x1->S
 bin:{op:BinOp}->{t:p9}->Bool->Bool->x1->x1->S
 un:{op:UnOp}->x1->S
 conv:{s d:p9}->x1->S
 y3:{t:p9}->x1->S
 y4:{f:Fn}->List x1->List x1->S
 y5:{t:p9}->Option x1->S
 y6:{t:p9}->x1->x1->S
 slice:{t:p9}->x1->Option x1->Option x1->Option x1->S
 y7:{t:p9}->x1->{f:Nat}->S
 field:{t:p9}->x1->{f:Nat}->S
 y8:{t:p9}->x1->x1->S
 index:{t:p9}->x1->x1->S
 lookup:{t:p9}->x1->x1->{ok:Bool}->S
 y9:{t:p9}->x1->x1->S
 range:{t:p9}->x1->S
 entry:x1->S
 assert:{t a:p9}->x1->{ok:Bool}->S
 extract:x1->{i:Nat}->S
 next:x1->{b:Bool}->S
 append:{ats:Array p9}->{t:p9}->List x1->S
 cap:{ats:Array p9}->{t:p9}->List x1->S
 clear:{ats:Array p9}->{t:p9}->List x1->S
 copy:{ats:Array p9}->{t:p9}->List x1->S
 delete:{ats:Array p9}->{t:p9}->List x1->S
 len:{ats:Array p9}->{t:p9}->List x1->S
 max:{ats:Array p9}->{t:p9}->List x1->S
 min:{ats:Array p9}->{t:p9}->List x1->S
 store:{t:p9}->x1->x1->aW
 u2:{t:p9}->x1->x1->x1->aW
 za:{t:p9}->x1->x1->x1->aW
section
variable{B S aW:Type}(A:mz B S aW)
def ep.g:ep->x1
 | .v x=>x
 | .b c=>.bool c
 | .u=>A.kY (x:=undef)
def nu(e:Env):S2->ep
 | .tmp t=>match look e t with
  |some x=>x
  |none=>.u
 | .const (.bool c)=>.b c
 | .const x=>.v (A.kY (x:=x))
 | .global g=>.v (A.kY (x:=Γ g))
 | .func f=>.v (A.kY (x:=.func (.func f) #[] #[]))
def c0(e:Env)(x:S2):x1:=(nu A e x).g A
def nv(e:Env):List S2->List x1
 |[]=>[]
 |x::r=>c0 A e x::nv e r
def r7(e:Env):Option S2->Option x1
 |none=>ν
 |some x=>σ (c0 A e x)
def u3(e:Env):List (Nat×S2)->List (Nat×x1)
 |[]=>[]
 |(i,x)::r=>(i,c0 A e x)::u3 e r
def Gd(b:Z3)(ats:Array p9)(t:p9)(l:List x1)(K:S->B):B:=
 match b with
 | .append=>K (A.append (ats:=ats) (t:=t) l)
 | .cap=>K (A.cap (ats:=ats) (t:=t) l)
 | .clear=>K (A.clear (ats:=ats) (t:=t) l)
 | .copy=>K (A.copy (ats:=ats) (t:=t) l)
 | .delete=>K (A.delete (ats:=ats) (t:=t) l)
 | .len=>K (A.len (ats:=ats) (t:=t) l)
 | .max=>K (A.max (ats:=ats) (t:=t) l)
 | .min=>K (A.min (ats:=ats) (t:=t) l)
 |_=>A.no
def zb(e:Env)(t:p9)(K:S->B)(p:aW->B):Op->B
 | .alloc t=>K (A.alloc (t:=t))
 | .box t x=>K (A.box (t:=t) (c0 A e x))
 | .build t q=>K (A.build (t:=t) (u3 A e q.toList))
 | .buildSlice t n q=>K (A.buildSlice (t:=t) (n:=n) (u3 A e q.toList))
 | .load t x=>K (A.load (t:=t) (c0 A e x))
 | .nilCheck x=>K (A.nil (c0 A e x))
 | .binOp op t x y _=>K (A.bin (op:=op) (t:=t) (oE x) (oE y) (c0 A e x) (c0 A e y))
 | .unOp op _ x=>K (A.un (op:=op) (c0 A e x))
 | .convert s d x=>K (A.conv (s:=s) (d:=d) (c0 A e x))
 | .makeInterface t x=>K (A.y3 (t:=t) (c0 A e x))
 | .makeFunc f a b=>K (A.y4 (f:=f) (nv A e a.toList) (nv A e b.toList))
 | .makeMap t r=>K (A.y5 (t:=t) (r7 A e r))
 | .makeSlice t l c=>K (A.y6 (t:=t) (c0 A e l) (c0 A e c))
 | .slice t x l h m=>K (A.slice (t:=t) (c0 A e x) (r7 A e l) (r7 A e h) (r7 A e m))
 | .fieldAddr t x f=>K (A.y7 (t:=t) (c0 A e x) (f:=f))
 | .field t x f=>K (A.field (t:=t) (c0 A e x) (f:=f))
 | .indexAddr t x i=>K (A.y8 (t:=t) (c0 A e x) (c0 A e i))
 | .index t x i=>K (A.index (t:=t) (c0 A e x) (c0 A e i))
 | .lookup t x i ok=>K (A.lookup (t:=t) (c0 A e x) (c0 A e i) (ok:=ok))
 | .mapEntry t m k=>K (A.y9 (t:=t) (c0 A e m) (c0 A e k))
 | .range t x=>K (A.range (t:=t) (c0 A e x))
 | .entry x=>K (A.entry (c0 A e x))
 | .typeAssert x t a ok=>K (A.assert (t:=t) (a:=a) (c0 A e x) (ok:=ok))
 | .extract x i=>K (A.extract (c0 A e x) (i:=i))
 | .call ⟨.builtin b,args,ats⟩=>Gd A b ats t (nv A e args.toList) K
 | .store t a x=>p (A.store (t:=t) (c0 A e a) (c0 A e x))
 | .mapUpdate t m k x=>p (A.u2 (t:=t) (c0 A e m) (c0 A e k) (c0 A e x))
 | .insert t m k x=>p (A.u2 (t:=t) (c0 A e m) (c0 A e k) (c0 A e x))
 | .entryStore t m k x=>p (A.za (t:=t) (c0 A e m) (c0 A e k) (c0 A e x))
 |_=>A.no
def ho(e:Env)(d:Option Tmp)(x:ep):Env:=
 match d with
 |some t=>(t,x)::e
 |none=>e
def zc(o:T2)(e:Env)(w:x3)(K:Env->(x3->B)->B):B:=
 match o with
 |⟨d,.move x,_,_,_,_⟩=>K (ho e d (nu A e x)) (λ_=>A.kZ)
 |⟨d,.assign x,_,_,_,_⟩=>K (ho e d (nu A e x)) (λ_=>A.kZ)
 |⟨d,.pick c a b,_,_,_,_⟩=>
  match nu A e c with
  | .b true=>K (ho e d (nu A e a)) (λ_=>A.kZ)
  | .b false=>K (ho e d (nu A e b)) (λ_=>A.kZ)
  | .v x=>A.split x (K (ho e d (.v (c0 A e a))) (λ_=>A.kZ)) (K (ho e d (.v (c0 A e b))) (λ_=>A.kZ))
  | .u=>A.no
 |⟨d,op,t,_,_,_⟩=>zb A e t (λs=>A.u1 s w λv=>K (ho e d (.v v)) (A.stays s v)) (λ_=>A.no) op
def Ge(fr:Bool)(n:Nat)(o:T2)(e:Env)(w:x3)(K:Env->x3->B):B:=
 match o with
 |⟨d,.call ⟨.value (.func f),args,_⟩,_,_,_,_⟩=>
  bif fr then A.yP (f:=f) (nv A e args.toList) w λv w'=>K (ho e d (.v v)) w'
  else A.yO (f:=f) (nv A e args.toList) w λv w'=>K (ho e d (.v v)) w'
 |⟨d,.call ⟨.value x,args,_⟩,_,_,_,_⟩=>A.yQ (fr:=fr) (c0 A e x) (nv A e args.toList) w λv w'=>K (ho e d (.v v)) w'
 |⟨d,.next x b,_,_,_,_⟩=>A.runN (fr:=fr) (n:=n) (A.next (c0 A e x) (b:=b)) w λv w'=>K (ho e d (.v v)) w'
 |⟨d,op,t,_,_,_⟩=>zb A e t (λs=>A.yM s w λv w'=>K (ho e d (.v v)) w') (λu=>A.yN u w λw'=>K (ho e d (.v (A.kY (x:=undef)))) w') op
def zd(fr:Bool)(n:Nat)(o:T2)(e:Env)(w:x3)(K:Env->x3->B):B:=
 bif ja o then zc A o e w (λa _=>K a w)else Ge A fr n o e w K
def va(ops:List T2)(o:T2)(e:Env)(D N:Env->B):B:=
 match o.guard with
 |none=>D e
 |some (j,b)=>
  match oO ops j with
  |some ⟨σ s,_,_,_,_,_⟩=>
   match look e s with
   |some (.b c)=>bif xor c b then N e else D e
   |some (.v x)=>A.split x (bif b then D ((s,.b true)::e)else N ((s,.b true)::e)) (bif b then N ((s,.b false)::e)else D ((s,.b false)::e))
   |some .u=>N e
   |none=>A.no
  |_=>A.no
def vb(fr:Bool)(n:Nat)(ops:List T2):List T2->Env->x3->(Env->x3->B)->B
 |[],e,w,K=>K e w
 |o::l,e,w,K=>va A ops o e (λe=>zd A fr n o e w λa w'=>vb fr n ops l a w' K) (λe=>vb fr n ops l (ho e o.dst .u) w K)
def ze:List Edge->Nat->Bool
 |[],_=>true
 |e::r,a=>(bif yH e then qa a e.on else true)&&ze r a
def sa(a:Nat):Nat->List T2->List Nat
 |_,[]=>[]
 |i,o::l=>bif qa a i then sa a (Nat.succ i) l else bif ze o.after.toList a then i::sa a (Nat.succ i) l else sa a (Nat.succ i) l
def zf(ops:List T2):List Nat->Option Nat
 |[]=>ν
 |i::r=>match oO ops i with
  |some o=>bif ja o then σ i else zf ops r
  |none=>ν
def zg(p:Nat->B):List Nat->B
 |[]=>A.kZ
 |[i]=>p i
 |i::r=>A.and (p i) (zg p r)
def zh(same:Bool)(q:Nat)(w:x3)(st:x3->B)(a:List (x3×List (Nat×(x3->B)))):List (x3×List (Nat×(x3->B))):=
 match same,a with
 |true,g::r=>(g.1,(q,st)::g.2)::r
 |_,a=>(w,[(q,st)])::a
def zi(bs:List Nat)(j:Nat):List (Nat×(x3->B))->Bool
 |[]=>false
 |(i,_)::r=>u0 bs j i||zi bs j r
def vc(bs:List Nat)(j:Nat)(w':x3):List (Nat×(x3->B))->B
 |[]=>A.kZ
 |(i,p)::r=>bif u0 bs j i then A.and (p w') (vc bs j w' r)else vc bs j w' r
def sb(bs:List Nat)(j:Nat)(w':x3)(C:B):List (x3×List (Nat×(x3->B)))->B
 |[]=>C
 |(w,l)::r=>bif zi bs j l then A.and (A.or (A.ext w w') (vc A bs j w' l)) (sb bs j w' C r)else sb bs j w' C r
def nw(fr:Bool)(n:Nat)(ops:List T2)(bs:List Nat):Nat->Nat->Bool->List (x3×List (Nat×(x3->B)))->Env->x3->(Env->x3->B)->B
 |0,_,_,_,e,w,K=>K e w
 |fuel+1,f,same,a,e,w,K=>
  match sa f 0 ops with
  |[]=>K e w
  |i::r=>
   match zf ops (i::r)with
   |some q=>
    match oO ops q with
    |some o=>va A ops o e
      (λe=>zc A o e w λh st=>
       bif lM o then nw fr n ops bs fuel (ko f q) same a h w K
       else nw fr n ops bs fuel (ko f q) true (zh same q w st a) h w K)
      (λe=>bif lM o then nw fr n ops bs fuel (ko f q) same a (ho e o.dst .u) w K
       else nw fr n ops bs fuel (ko f q) true (zh same q w (λ_=>A.kZ) a) (ho e o.dst .u) w K)
    |none=>A.no
   |none=>
    zg A (λj=>match oO ops j with
     |some o=>va A ops o e (λe=>zd A fr n o e w λh w'=>sb A bs j w' (nw fr n ops bs fuel (ko f j) false a h w' K) a)
       (λe=>sb A bs j w (nw fr n ops bs fuel (ko f j) false a (ho e o.dst .u) w K) a)
     |none=>A.no) (i::r)
def sd(e:Env):List Nat->List x1
 |[]=>[]
 |t::r=>(match look e t with|some x=>x.g A|none=>A.kY (x:=undef))::sd e r
def vd(l:List Nat)(vs:List x1)(e:Env):Env:=
 match l,vs with
 |t::r,v::vs=>(t,.v v)::vd r vs e
 |_,_=>e
def se(d:Nat):Env->Env
 |[]=>[]
 |(t,x)::r=>bif qa d t then se d r else(t,x)::se d r
def Gf(l:List Nat)(aA:List x1->x3->B)(e:(List x1->x3->B)->B):B:=
 match l with
 |[]=>A.da (λw=>aA [] w) λk=>e λ_ w=>k w
 |[_]=>A.aV (λa w=>aA [a] w) λk=>e λvs w=>match vs with
  |[a]=>k a w
  |_=>A.no
 |[_,_]=>A.ic (λa b w=>aA [a,b] w) λk=>e λvs w=>match vs with
  |[a,b]=>k a b w
  |_=>A.no
 |[_,_,_]=>A.yR (λa b c w=>aA [a,b,c] w) λk=>e λvs w=>match vs with
  |[a,b,c]=>k a b c w
  |_=>A.no
 |[_,_,_,_]=>A.yS (λa b c d w=>aA [a,b,c,d] w) λk=>e λvs w=>match vs with
  |[a,b,c,d]=>k a b c d w
  |_=>A.no
 |[_,_,_,_,_]=>A.yT (λa b c d f w=>aA [a,b,c,d,f] w) λk=>e λvs w=>match vs with
  |[a,b,c,d,f]=>k a b c d f w
  |_=>A.no
 |_=>A.no
def Gg(us:List x1)(w:x3)(e:List x1->x3->(List x1->x3->B)->B):B:=
 match us with
 |[]=>A.yU w λw k=>e [] w λ_ w=>k w
 |[a]=>A.yV a w λa w k=>e [a] w λvs w=>match vs with
  |[a]=>k a w
  |_=>A.no
 |[a,b]=>A.yW a b w λa b w k=>e [a,b] w λvs w=>match vs with
  |[a,b]=>k a b w
  |_=>A.no
 |[a,b,c]=>A.yX a b c w λa b c w k=>e [a,b,c] w λvs w=>match vs with
  |[a,b,c]=>k a b c w
  |_=>A.no
 |[a,b,c,d]=>A.yY a b c d w λa b c d w k=>e [a,b,c,d] w λvs w=>match vs with
  |[a,b,c,d]=>k a b c d w
  |_=>A.no
 |[a,b,c,d,f]=>A.yZ a b c d f w λa b c d f w k=>e [a,b,c,d,f] w λvs w=>match vs with
  |[a,b,c,d,f]=>k a b c d f w
  |_=>A.no
 |[a,b,c,d,f,g]=>A.y0 a b c d f g w λa b c d f g w k=>e [a,b,c,d,f,g] w λvs w=>match vs with
  |[a,b,c,d,f,g]=>k a b c d f g w
  |_=>A.no
 |_=>A.no
def ve(K:Nat->x3->B):List Nat->List (Nat×(x3->B))
 |[]=>[]
 |i::r=>(i,λw=>K i w)::ve K r
def hS(fr:Bool)(n:Nat):Code->Nat->Env->x3->(Exit->Env->x3->B)->B
 | .skip,_,e,w,K=>K .normal e w
 | .label _,_,e,w,K=>K .normal e w
 | .ret,_,e,w,K=>K .ret e w
 | .exit i,_,e,w,K=>K (.exit i) e w
 | .region _ ops E,_,e,w,K=>
  bif E then A.drew w λw'=>nw A fr n ops.toList (uZ ops.toList []) (ops.toList.length) 0 false [] e w' (K .normal)
  else vb A fr n ops.toList ops.toList e w (K .normal)
 | .seq x y,rd,e,w,K=>
  bif Nat.ble 2 (lS x)then
   Gf A (my 1000 0 (Nat.land (ib x) (Nat.lor (gl y) rd))) (λvs w'=>hS fr n y rd (vd (my 1000 0 (Nat.land (ib x) (Nat.lor (gl y) rd))) vs (se (ib x) e)) w' K)
    λaA=>hS fr n x (Nat.lor (gl y) rd) e w λex h w'=>match ex with
     | .normal=>aA (sd A h (my 1000 0 (Nat.land (ib x) (Nat.lor (gl y) rd)))) w'
     |ex=>K ex h w'
  else hS fr n x (Nat.lor (gl y) rd) e w λex h w'=>match ex with
   | .normal=>hS fr n y rd h w' K
   |ex=>K ex h w'
 | .cond c x y,rd,e,w,K=>
  match nu A e c with
  | .b true=>hS fr n x rd e w K
  | .b false=>hS fr n y rd e w K
  | .v v=>A.split v (hS fr n x rd e w K) (hS fr n y rd e w K)
  | .u=>A.no
 | .block id c,rd,e,w,K=>hS fr n c rd e w λex h w'=>match ex with
  | .exit i=>bif T7 i id then K .normal h w' else K (.exit i) h w'
  |ex=>K ex h w'
 | .loop c,rd,e,w,K=>
  Gg A (sd A e (qb e (my 1000 0 (Nat.land (ib c) (Nat.lor (gl c) rd))))) w λus w' k=>
   hS fr n c (Nat.lor (gl c) rd) (vd (qb e (my 1000 0 (Nat.land (ib c) (Nat.lor (gl c) rd)))) us (se (ib c) e)) w' λex h r=>match ex with
    | .normal=>k (sd A h (qb e (my 1000 0 (Nat.land (ib c) (Nat.lor (gl c) rd))))) r
    |ex=>K ex h r
 | .scope c,rd,e,w,K=>hS fr n c rd e w K
 | .rangeFunc f F C body,_,e,w,K=>
  match F.toList with
  |[p]=>A.y1 (c0 A e f) w
    (λa w' k=>hS fr n C (gl body) ((p,.v a)::e) w' λex h r=>match ex with
     | .normal=>A.over (n:=w.heap.size) r λs=>hS fr n body 0 h s λex _ z=>k ex z
     |_=>A.no)
    (λw'=>K .normal e w') (bif jd body then λw'=>K .ret e w' else λ_=>A.no) (ve (λi w'=>K (.exit i) e w') (jI body))
  |[p,q]=>A.y2 (c0 A e f) w
    (λa b w' k=>hS fr n C (gl body) ((q,.v b)::(p,.v a)::e) w' λex h r=>match ex with
     | .normal=>A.over (n:=w.heap.size) r λs=>hS fr n body 0 h s λex _ z=>k ex z
     |_=>A.no)
    (λw'=>K .normal e w') (bif jd body then λw'=>K .ret e w' else λ_=>A.no) (ve (λi w'=>K (.exit i) e w') (jI body))
  |_=>A.no
 | .goto _,_,_,_,_=>A.no
 | .refuse _,_,_,_,_=>A.no
def zj:Nat->List x1->Env
 |_,[]=>[]
 |i,v::r=>(i,.v (A.kY (x:=v)))::zj (i+1) r
def sf(e:Env)(w:x3):List ResultVar->(List x1->B)->B
 |[],K=>K []
 | .tmp t::r,K=>sf e w r λvs=>K ((match look e t with|some x=>x.g A|none=>A.kY (x:=undef))::vs)
 | .cell a t::r,K=>A.u1 (A.loadVar (t:=t) (match look e a with|some x=>x.g A|none=>A.kY (x:=undef))) w λv=>sf e w r λvs=>K (v::vs)
def sg(vs:List x1)(K:x1->B):B:=
 match vs with
 |[v]=>K v
 |vs=>K (A.tup vs)
def vf:List ResultVar->Nat->Nat
 |[],s=>s
 | .tmp t::r,s=>vf r (ko s t)
 | .cell a _::r,s=>vf r (ko s a)
def Gh(a:List ResultVar)(marks:Bool)(n:Nat)(Q:x1->x3->B):Exit->Env->x3->B
 | .normal,e,w=>sf A e w a λvs=>bif marks then A.again (n:=n) w λw'=>sg A vs λv=>Q v w' else sg A vs λv=>Q v w
 | .ret,e,w=>sf A e w a λvs=>bif marks then A.again (n:=n) w λw'=>sg A vs λv=>Q v w' else sg A vs λv=>Q v w
 |_,_,_=>A.no
def vg(fr marks:Bool)(fn:Func)(c:Code)(args:List x1)(w:x3)(Q:x1->x3->B):B:=
 hS A fr n c (vf fn.results.toList 0) (zj A 0 args) w (Gh A fn.results.toList marks n Q)
end
def oP(P:W5):mz Prop (Sem x1) (Sem Unit) where
 kY {x}:=x
 tup l:=.tuple l.toArray
 no:=False
 kZ:=True
 and:=And
 or:=Or
 ext:=Ext
 stays:=cA P
 split:=Split
 u1:=ac P
 yM:=aD P
 yN u w K:=aD P u w λ_ w'=>K w'
 runN {fr n}:=rM P (fr,n)
 yO {f}:=am P f
 yP {f}:=gF P f
 yQ {fr}:=rP P fr
 drew:=ej
 again {n}:=uR n
 over {n}:=Over n
 da:=cu
 aV:=cu
 ic:=cu
 yR:=cu
 yS:=cu
 yT:=cu
 yU:=FT
 yV:=ck
 yW:=cb
 yX:=nr
 yY:=rX
 yZ:=p2
 y0:=FU
 y1:=jJ P
 y2:=oL P
 loadVar {t} x:=do loadVar t (<-asAddr x)
 alloc {t}:=Instr.alloc t true (.tuple #[])
 box {t} x:=Instr.box t x
 build {t} l:=Instr.build t l.toArray
 buildSlice {t n} l:=Y4 t n l.toArray
 load {t} x:=u5 t x
 nil x:=bO x
 bin {op t} a b x y:=aM op t a b x y
 un {op} x:=Op.unary op x
 conv {s d} x:=convert s d x
 y3 {t} x:=Instr.makeInterface t x
 y4 {f} a b:=Instr.makeFunc f a.toArray b.toArray
 y5 {t} x:=Instr.makeMap t x
 y6 {t} l c:=Instr.makeSlice t l c
 slice {t} x l h m:=V8 t x l h m
 y7 {t} x {f}:=u6 t x f
 field {t} x {f}:=Instr.field t x f
 y8 {t} x i:=c7 t x i
 index {t} x i:=Instr.index t x i
 lookup {t} x i {ok}:=Instr.lookup t x i ok
 y9 {t} m k:=Instr.mapEntry t m k
 range {t} x:=Instr.range t x
 entry x:=Instr.entry x
 assert {t a} x {ok}:=Instr.typeAssert x t a ok
 extract x {i}:=Y0 x i
 next x {b}:=Instr.next x b 0
 append {ats t} l:=Z0 ats t l.toArray
 cap {ats t} l:=Z3.cap_ ats t l.toArray
 clear {ats t} l:=Z3.clear_ ats t l.toArray
 copy {ats t} l:=Z3.copy_ ats t l.toArray
 delete {ats t} l:=Z3.delete_ ats t l.toArray
 len {ats t} l:=W9 ats t l.toArray
 max {ats t} l:=Z3.max_ ats t l.toArray
 min {ats t} l:=Z3.min_ ats t l.toArray
 store {t} a x:=o8 t a x
 u2 {t} m k x:=Instr.mapUpdate t m k x
 za {t} m k x:=Instr.entryStore t m k x
end Go.Vc
namespace Go.Proofs.YtikkpokkcdocoabGreatDoor
open Go Go.Vc Go.RowKit Go.Proofs Go.Proofs.Tryz
set_option maxRecDepth 100000
theorem mixed:x7.follows .mixedOrders=true:=Ψ
def zk:Nat:=5
def Gi:Nat:=7
def Gj:Nat:=8
def Gk:Nat:=9
def Gl:Nat:=11
def Gm:Nat:=13
def Gn:Nat:=15
def Gp:Nat:=16
def zl:Nat:=17
def Gq:Nat:=18
def Gr:Nat:=19
def vh:Nat:=20
def Gs:Nat:=21
def Gt:Nat:=22
def Gu:Nat:=23
def Gv:Nat:=24
def Gw:Nat:=25
def Gx:Nat:=26
def zm:Nat:=27
def zn:Nat:=28
def Gy:Nat:=29
def Gz:Nat:=32
def GA:Nat:=40
def GB:Nat:=41
def zo:Nat:=43
def GC:Nat:=44
def GD:Nat:=45
def GF:Nat:=46
def zp:Nat:=47
def GG:Nat:=48
def GH:Nat:=49
def GI:Nat:=50
def zq:Nat:=51
def vi:Nat:=53
def GJ:Nat:=54
def GK:Nat:=55
def GL:Nat:=56
def GM:Nat:=57
def zr:Nat:=58
def GN:Nat:=59
def GO:Nat:=60
def GP:Nat:=61
def GQ:Nat:=62
def RY:Nat:=63
def vj:Nat:=64
def GR:Nat:=65
def GS:Nat:=66
def GU:Nat:=67
def GV:Nat:=68
def GW:Nat:=69
def GX:Nat:=70
def GY:Nat:=71
def zs:Nat:=72
def GZ:Nat:=73
def G0:Nat:=74
def G1:Nat:=75
def qc:Nat:=76
def G2:Nat:=77
def G3:Nat:=78
def G4:Nat:=79
def G5:Nat:=81
def cmp_isNaN_int:Nat:=82
def zt:Nat:=83
def G6:Nat:=84
def G7:Nat:=86
def G8:Nat:=87
def G9:Nat:=88
def Ha:Nat:=89
def Hb:Nat:=90
def Hc:Nat:=91
def Hd:Nat:=92
def He:Nat:=93
def Hf:Nat:=94
def iG:Nat:=95
def Hg:Nat:=96
def Hh:Nat:=97
def Hi:Nat:=98
def lU:Nat:=99
def Hj:Nat:=100
def Hk:Nat:=101
def Hl:Nat:=102
def Hm:Nat:=103
def zu:Nat:=104
def zv:Nat:=105
def qd:Nat:=106
def nx:Nat:=107
def k0:Nat:=108
def zw:Nat:=109
def vk:Nat:=110
def ny:Nat:=111
def zx:Nat:=112
def vl:Nat:=113
def Hn:Nat:=114
def Ho:Nat:=115
def sh:Nat:=116
def lV:Nat:=117
def zy:Nat:=118
def nz:Nat:=119
def Hp:Nat:=120
def Hq:Nat:=121
def Hr:Nat:=122
def Hs:Nat:=123
def zz:Nat:=124
def Ht:Nat:=125
def Hu:Nat:=126
def zA:Nat:=127
def zB:Nat:=128
def Hv:Nat:=129
def Hw:Nat:=130
def Hx:Nat:=131
def Hy:Nat:=132
def vm:Nat:=133
def Hz:Nat:=134
def HA:Nat:=135
def HB:Nat:=136
def HC:Nat:=137
def HD:Nat:=138
def HE:Nat:=139
def HF:Nat:=140
def HG:Nat:=141
def nA:Nat:=142
def nB:Nat:=143
def HH:Nat:=144
def HI:Nat:=145
def HJ:Nat:=146
def HK:Nat:=147
def HL:Nat:=148
def HM:Nat:=149
def HN:Nat:=150
def HO:Nat:=151
def HP:Nat:=152
def HQ:Nat:=153
def HR:Nat:=154
def RZ:Nat:=155
def HS:Nat:=156
def HT:Nat:=157
def HU:Nat:=158
def zC:Nat:=159
def HV:Nat:=160
def HW:Nat:=161
def R1:Nat:=162
def HX:Nat:=172
def HY:Nat:=173
def HZ:Nat:=174
def H0:Nat:=175
def H1:Nat:=176
def H2:Nat:=177
def H3:Nat:=178
def H4:Nat:=179
def H5:Nat:=180
def zD:Nat:=181
def H6:Nat:=182
def H7:Nat:=183
def H8:Nat:=184
def H9:Nat:=185
def Ia:Nat:=186
def oQ:Nat:=187
def Ib:Nat:=188
def Ic:Nat:=189
def si:Nat:=190
def Ie:Nat:=191
def If:Nat:=192
def zE:Nat:=193
def zF:Nat:=194
def zG:Nat:=195
def Ig:Nat:=196
def qe:Nat:=197
def Ih:Nat:=198
def vn:Nat:=199
def Ii:Nat:=200
def Ij:Nat:=201
def zH:Nat:=202
def Ik:Nat:=203
def Il:Nat:=204
def Im:Nat:=205
def In:Nat:=206
def Io:Nat:=207
def zI:Nat:=208
def Ip:Nat:=209
def Iq:Nat:=210
def Ir:Nat:=211
def Is:Nat:=212
def zJ:Nat:=213
def It:Nat:=214
def Iu:Nat:=215
def Iv:Nat:=216
def Iw:Nat:=217
def zK:Nat:=218
def Ix:Nat:=219
def Iy:Nat:=220
def Iz:Nat:=221
def IA:Nat:=222
def IB:Nat:=223
def sj:Nat:=224
def IC:Nat:=225
def ID:Nat:=226
def IE:Nat:=232
def vo:Nat:=233
def sk:Nat:=234
def vp:Nat:=235
def IF:Nat:=236
def vq:Nat:=237
def IG:Nat:=238
def IH:Nat:=239
def vr:Nat:=240
def II:Nat:=241
def IJ:Nat:=242
def zL:Nat:=243
def zM:Nat:=244
def IK:Nat:=245
def IL:Nat:=246
def IM:Nat:=247
def IN:Nat:=248
def IP:Nat:=249
def IQ:Nat:=250
def IR:Nat:=251
def R8:Nat:=252
def zN:Nat:=254
def vt:Nat:=255
def sm:Nat:=256
def IS:Nat:=257
def IT:Nat:=258
def zO:Nat:=259
def IU:Nat:=260
def IV:Nat:=261
def IW:Nat:=262
def IX:Nat:=263
def IY:Nat:=264
def IZ:Nat:=265
def I0:Nat:=266
def lW:Nat:=267
def lX:Nat:=268
def zP:Nat:=269
def I1:Nat:=271
def R9:Nat:=272
def I2:Nat:=273
def Sa:Nat:=274
def I3:Nat:=275
def I4:Nat:=276
def oR:Nat:=277
def I5:Nat:=278
def I6:Nat:=279
def I7:Nat:=280
def I8:Nat:=289
def sn:Nat:=290
def I9:Nat:=291
def Ja:Nat:=292
def Jb:Nat:=293
def Jc:Nat:=294
def lY:Nat:=295
def Jd:Nat:=296
def Je:Nat:=297
def Jf:Nat:=298
def Sb:Nat:=299
def Sc:Nat:=304
def Jg:Nat:=305
def Jh:Nat:=306
def Ji:Nat:=308
def Jj:Nat:=309
def Jk:Nat:=310
def Sd:Nat:=311
def Jl:Nat:=312
def Se:Nat:=313
def Sf:Nat:=314
def Sg:Nat:=315
def Sh:Nat:=316
def Si:Nat:=317
def cmp_Less_int:Nat:=318
def Sj:Nat:=319
def Sk:Nat:=320
def Sl:Nat:=330
def Sm:Nat:=331
abbrev Jm:Nat:=0
abbrev zQ:Nat:=1
abbrev au:Nat:=2
abbrev ah:Nat:=3
abbrev gm:Nat:=4
abbrev cI:Nat:=5
abbrev cP:Nat:=9
abbrev cN:Nat:=22
abbrev nC:Nat:=23
abbrev db:Nat:=25
abbrev an:Nat:=26
abbrev dz:Nat:=27
abbrev kp:Nat:=28
abbrev ek:Nat:=29
abbrev gn:Nat:=30
abbrev a7:Nat:=33
abbrev dA:Nat:=36
abbrev jK:Nat:=37
abbrev dc:Nat:=43
abbrev ay:Nat:=50
abbrev bb:Nat:=54
abbrev fD:Nat:=56
abbrev c3:Nat:=61
abbrev mA:Nat:=83
abbrev qf:Nat:=84
abbrev fE:Nat:=85
abbrev cG:Nat:=88
abbrev oS:Nat:=89
abbrev fF:Nat:=93
abbrev bZ:Nat:=95
abbrev oT:Nat:=100
abbrev bB:Nat:=102
abbrev ff:Nat:=104
abbrev vu:Nat:=111
abbrev vv:Nat:=113
abbrev vw:Nat:=116
abbrev cT:Nat:=123
abbrev dE:Nat:=125
abbrev mB:Nat:=133
abbrev oU:Nat:=144
abbrev eC:Nat:=150
abbrev ie:Nat:=151
abbrev nD:Nat:=152
abbrev sq:Nat:=153
abbrev fG:Nat:=155
abbrev sr:Nat:=165
abbrev eY:Nat:=168
abbrev hp:Nat:=169
abbrev ce:Nat:=171
abbrev jf:Nat:=176
abbrev iH:Nat:=177
abbrev b0:Nat:=179
abbrev dH:Nat:=185
abbrev cB:Nat:=187
abbrev eN:Nat:=188
abbrev cC:Nat:=190
abbrev fg:Nat:=192
abbrev dB:Nat:=196
abbrev bz:Nat:=198
abbrev dF:Nat:=200
abbrev cp:Nat:=202
abbrev dW:Nat:=206
abbrev a8:Nat:=208
abbrev k1:Nat:=213
abbrev fH:Nat:=215
abbrev eO:Nat:=216
abbrev hq:Nat:=220
abbrev Jn:Nat:=237
abbrev qg:Nat:=239
abbrev Sn:Nat:=250
abbrev oV:Nat:=258
abbrev hT:Nat:=263
abbrev jL:Nat:=269
abbrev dX:Nat:=274
abbrev b5:Nat:=278
abbrev gp:Nat:=280
abbrev cU:Nat:=285
abbrev iI:Nat:=296
abbrev fI:Nat:=298
abbrev oW:Nat:=299
abbrev gq:Nat:=302
abbrev cV:Nat:=305
abbrev gu:Nat:=307
abbrev k2:Nat:=309
abbrev ss:Nat:=329
abbrev gU:Nat:=331
abbrev fX:Nat:=334
abbrev cD:Nat:=336
abbrev zR:Nat:=345
abbrev k3:Nat:=358
abbrev jg:Nat:=360
abbrev lZ:Nat:=380
abbrev mC:Nat:=397
abbrev su:Nat:=414
theorem az{f:R5}{fn:Func}{c:Code}{Q:x1->x3->Prop}{Z:{B S aW:Type}->mz B S aW->(x1->x3->B)->B}{a:Prop}(ag:x7.funcs[f]?=σ fn)(h:a)(p:fn.body=σ c:=by rfl)(_:∀{B S aW:Type}(A:mz B S aW)(Q:x1->x3->B),vg A false false (n:=w.heap.size) fn c args w Q=Z A Q:=by intros;conv=>lhs;reduce)(_:Z (oP x7) Q=a:=by dsimp only[oP])(e:a=er x7 fn.ntmps (false,w.heap.size) c (mw fn.results.toList) (kX 0 args) w (lR x7 fn.results.toList false 0 Q):=by kernel_rfl)(hk:(!(fn.name == "runtime.NumGoroutine")&&wf fn.ntmps c&&Nat.ble args.length fn.ntmps&& !kk c)=true:=by kernel_rfl):am x7 f args w Q:=by
 simp only[V7,Bool.not_eq_true']at hk;exact am.Gb mixed ag p hk.1.1.1 hk.1.1.2 hk.1.2 hk.2 (e▸h)
theorem hr{f:R5}{fn:Func}{c:Code}{Q:x1->x3->Prop}{Z:{B S aW:Type}->mz B S aW->(x1->x3->B)->B}{a:Prop}(ag:x7.funcs[f]?=σ fn)(h:a)(p:fn.body=σ c:=by rfl)(_:∀{B S aW:Type}(A:mz B S aW)(Q:x1->x3->B),vg A false true (n:=w.heap.size) fn c args w Q=Z A Q:=by intros;conv=>lhs;reduce)(_:Z (oP x7) Q=a:=by dsimp only[oP])(e:a=er x7 fn.ntmps (false,w.heap.size) c (mw fn.results.toList) (kX 0 args) w (lR x7 fn.results.toList true w.heap.size Q):=by kernel_rfl)(hk:(!(fn.name == "runtime.NumGoroutine")&&wf fn.ntmps c&&Nat.ble args.length fn.ntmps)=true:=by kernel_rfl):am x7 f args w Q:=by
 simp only[V7,Bool.not_eq_true']at hk;exact am.enter mixed ag p hk.1.1 hk.1.2 hk.2 (e▸h)
theorem qh{f:R5}{fn:Func}{c:Code}{Q:x1->x3->Prop}{Z:{B S aW:Type}->mz B S aW->(x1->x3->B)->B}{a:Prop}(ag:x7.funcs[f]?=σ fn)(h:a)(p:fn.body=σ c:=by rfl)(_:∀{B S aW:Type}(A:mz B S aW)(Q:x1->x3->B),vg A true false (n:=0) fn c args w Q=Z A Q:=by intros;conv=>lhs;reduce)(_:Z (oP x7) Q=a:=by dsimp only[oP])(e:a=er x7 fn.ntmps (true,0) c (mw fn.results.toList) (kX 0 args) w (lR x7 fn.results.toList false 0 Q):=by kernel_rfl)(hk:(!(fn.name == "runtime.NumGoroutine")&&wf fn.ntmps c&&Nat.ble args.length fn.ntmps)=true:=by kernel_rfl):gF x7 f args w Q:=by
 simp only[V7,Bool.not_eq_true']at hk;exact gF.enter mixed ag p hk.1.1 hk.1.2 hk.2 (e▸h)
theorem iG.enters:Enters x7 iG:=Enters.of x7 (show x7.funcs[iG]?=σ Tryz.f95 from Tryz.func95) rfl Ψ
theorem lU.enters:Enters x7 lU:=Enters.of x7 (show x7.funcs[lU]?=σ Tryz.f99 from Tryz.func99) rfl Ψ
theorem lW.enters:Enters x7 lW:=Enters.of x7 (show x7.funcs[lW]?=σ Tryz.f267 from Tryz.func267) rfl Ψ
theorem oR.enters:Enters x7 oR:=Enters.of x7 (show x7.funcs[oR]?=σ Tryz.f277 from Tryz.func277) rfl Ψ
theorem lY.enters:Enters x7 lY:=Enters.of x7 (show x7.funcs[lY]?=σ Tryz.f295 from Tryz.func295) rfl Ψ
end Go.Proofs.YtikkpokkcdocoabGreatDoor
namespace Go.Vc
open Go Go.RowKit
theorem vx{b o:Nat}(h:w.cell? ⟨b,o,ν⟩=σ v):∃c e f,w.heap[b]?=σ (.cells c e f)/\c[o]?=σ v:=by
 simp only[x3.cell?]at h;split at h
 .rename_i c e f a;exact⟨c,e,f,a,by simpa using h⟩
 .cases h
theorem zS(J:ai S w w'){b o:Nat}(a:¬S b)(h:w.cell? ⟨b,o,ν⟩=σ v):w'.cell? ⟨b,o,ν⟩=σ v:=by
 obtain⟨c,e,f,p,ad⟩:=vx h;simp[x3.cell?,J.aZ b _ p rfl a,ad]
theorem iJ(J:Ext w w'){b o:Nat}(h:w.cell? ⟨b,o,ν⟩=σ v):w'.cell? ⟨b,o,ν⟩=σ v:=
 zS (J.ab λ_=>False) (λh=>h) h
theorem nE(J:Ext w w'){b o:Nat}(h:w.rangeAt b o cs):w'.rangeAt b o cs:=λj v ad=>iJ J (h j v ad)
theorem jh(J:ai S w w'){b o:Nat}(a:¬S b)(h:w.rangeAt b o cs):w'.rangeAt b o cs:=λj v ad=>zS J a (h j v ad)
def af(w:x3)(g:Nat)(e:p9)(cs:List x1):Prop:=w.heap[g]?=σ (.cells cs.toArray e (0,0))
theorem af.ext{g:Nat}(h:af w g e cs)(J:Ext w w'):af w' g e cs:=J.aZ g _ h rfl
theorem af.ab{g:Nat}(h:af w g e cs)(J:ai S w w')(a:¬S g):af w' g e cs:=J.aZ g _ h rfl a
theorem af.lt{g:Nat}(h:af w g e cs):g<w.heap.size:=(l9.1 h).1
theorem af.cell{g:Nat}(h:af w g e cs){o:Nat}(ad:cs[o]?=σ v):w.cell? ⟨g,o,ν⟩=σ v:=by
 unfold af at h;simp[x3.cell?,h,ad]
theorem af.range{g:Nat}(h:af w g e cs):w.rangeAt g 0 cs:=λj v ad=>by rw[X2];exact h.cell ad
theorem af.frozen{g:Nat}(h:af w g e cs)(o:Nat)(a:Option Nat):w.frozen? ⟨g,o,a⟩=false:=by
 unfold af at h;simp[x3.frozen?,h]
def cg(w:x3)(k:Nat)(v:x1)(n:Nat)(cs:List x1):Prop:=
 cs.length=n*k/\∃b o base cap,v= .slice base n cap/\n<=cap/\cap<=maxLen/\(0<n->base=σ ⟨b,o,ν⟩)/\w.rangeAt b o cs
theorem cg.ext{k:Nat}(h:cg w k v n cs)(J:Ext w w'):cg w' k v n cs:=by
 obtain⟨h1,b,o,base,cap,a,e,f,p,q⟩:=h;exact⟨h1,b,o,base,cap,a,e,f,p,nE J q⟩
theorem cg.le{k:Nat}(h:cg w k v n cs):n<=maxLen:=by
 obtain⟨_,_,_,_,_,_,a,e,_⟩:=h;exact Y8 a e
theorem cg.nil(w:x3)(k:Nat):cg w k (.slice ν 0 0) 0 []:=⟨Ξ,0,0,ν,0,rfl,o4 _,X4 _,λh=>absurd h (Nat.lt_irrefl _),λj v h=>by simp at h⟩
def aQ(P:W5)(t:p9)(k b:Nat)(z:x1):Prop:=∃i,P.info? t=σ i/\i.size=k/\i.bytes=b/\i.zero=σ z
theorem aQ.of{P:W5}{k b:Nat}(h:(P.info? t).map (λi=>(i.size,i.bytes,i.zero))=σ (k,b,σ z)):aQ P t k b z:=by
 cases hi:P.info? t with
 |none=>simp[hi]at h
 |some i=>simp[hi]at h;exact⟨i,hi,h⟩
theorem aQ.size{P:W5}{k b:Nat}(h:aQ P t k b z):(P.info? t).map (·.size)=σ k:=by
 obtain⟨i,hi,U,_⟩:=h;simp[hi,U]
def bJ(P:W5)(t:p9)(pl:List (Nat×Nat)):Prop:=∃a,P.underlying t=σ (.struct a)/\a.toList.map (λf=>(f.offset,((P.info? f.type).map (·.size)).getD 0))=pl
def zT(P:W5)(t:p9):Option (List (Nat×Nat)):=match P.underlying t with
 |some (.struct a)=>σ (a.toList.map λf=>(f.offset,((P.info? f.type).map (·.size)).getD 0))
 |_=>ν
theorem bJ.of{P:W5}{pl:List (Nat×Nat)}(h:zT P t=σ pl):bJ P t pl:=by
 unfold zT at h;split at h
 .rename_i a hu;exact⟨a,hu,by simpa using h⟩
 .cases h
section
variable{P:W5}{w:x3}
theorem ac.of{s:Sem x1}(h:∀w',Ext w w'->s.run P w'= .ok v w'):ac P s w K=K v:=by
 refine propext ⟨λ⟨a,h',k⟩=>?_,λk=>⟨v,h,k⟩⟩;have:=h' w (Ext.refl w);rw[h w (Ext.refl w)]at this;cases this;exact k
theorem aD.of{α:Type}{s:Sem α}{v:α}{K:α->x3->Prop}(h:s.run P w= .ok v w')(a:cL w w')(k:K v w'):aD P s w K:=⟨v,w',h,a,k⟩
theorem b2{c:Bool}{A B:Prop}:Split (.bool c) A B=((c=true->A)/\(c=false->B)):=by
 refine propext ⟨λ⟨e,h,h1,a⟩=>?_,λ⟨h1,a⟩=>⟨c,rfl,h1,a⟩⟩;cases h;exact⟨h1,a⟩
theorem al{p:Prop}[Decidable p]{A B:Prop}:Split (.bool (decide p)) A B=((p->A)/\(¬p->B)):=by rw[b2];simp
theorem bR{A B:Prop}:Split (.bool true) A B=A:=by rw[b2];simp
theorem a1{A B:Prop}:Split (.bool false) A B=B:=by rw[b2];simp
theorem aN{b:Int}:ac P (aM .add t cx cy (.int k a) (.int k b)) w K=K (.int k (k.wrap (a+b))):=
 ac.of λw' _=>by simp[aM,eqGuard,binOp,Op.intArith]
theorem dN{b:Int}:ac P (aM .sub t cx cy (.int k a) (.int k b)) w K=K (.int k (k.wrap (a-b))):=
 ac.of λw' _=>by simp[aM,eqGuard,binOp,Op.intArith]
theorem hU{b:Int}:ac P (aM .mul t cx cy (.int k a) (.int k b)) w K=K (.int k (k.wrap (a*b))):=
 ac.of λw' _=>by simp[aM,eqGuard,binOp,Op.intArith]
theorem sw{b:Int}(e:b≠0):ac P (aM .quo t cx cy (.int k a) (.int k b)) w K=K (.int k (k.wrap (a.tdiv b))):=
 ac.of λw' _=>by simp[aM,eqGuard,binOp,Op.intDiv,e]
theorem sx{b:Int}(e:b≠0):ac P (aM .rem t cx cy (.int k a) (.int k b)) w K=K (.int k (a.tmod b)):=
 ac.of λw' _=>by simp[aM,eqGuard,binOp,Op.intDiv,e]
theorem aR{b:Int}:ac P (aM .lss t cx cy (.int k a) (.int k b)) w K=K (.bool (decide (a<b))):=
 ac.of λw' _=>by simp[aM,eqGuard,binOp,Op.intCmp]
theorem Υ{k:IntKind}{P:Program}{t:TypeId}{cx cy:Bool}{a b:Int}{w:World}{A B:Prop}(hA:a<b->A)(h:a<b:=by omega):ac P (aM .lss t cx cy (.int k a) (.int k b)) w λv=>Split v A B:=by
 rw[aR,al];exact⟨hA,λe=>absurd h e⟩
theorem mD{b:Int}:ac P (aM .leq t cx cy (.int k a) (.int k b)) w K=K (.bool (decide (a<=b))):=
 ac.of λw' _=>by simp[aM,eqGuard,binOp,Op.intCmp]
theorem bL{b:Int}:ac P (aM .gtr t cx cy (.int k a) (.int k b)) w K=K (.bool (decide (b<a))):=
 ac.of λw' _=>by simp[aM,eqGuard,binOp,Op.intCmp]
theorem cM{b:Int}:ac P (aM .geq t cx cy (.int k a) (.int k b)) w K=K (.bool (decide (b<=a))):=
 ac.of λw' _=>by simp[aM,eqGuard,binOp,Op.intCmp]
theorem be{b:Int}:ac P (aM .eql t cx cy (.int k a) (.int k b)) w K=K (.bool (decide (a=b))):=
 ac.of λw' _=>by
  have:(a == b)=decide (a=b):=by by_cases h:a=b<;>simp[h]
  simp[aM,eqGuard,binOp,Op.intCmp,this]
theorem bC{b:Int}:ac P (aM .neq t cx cy (.int k a) (.int k b)) w K=K (.bool (decide (a≠b))):=
 ac.of λw' _=>by
  have:(a != b)=decide (a≠b):=by by_cases h:a=b<;>simp[h,bne]
  simp[aM,eqGuard,binOp,Op.intCmp,this]
theorem zU{e:o6}{b:Int}(f:0<=b):ac P (aM .shl t cx cy (.int k a) (.int e b)) w K=K (.int k (k.wrap (a*2 ^ min b.toNat k.bits))):=
 ac.of λw' _=>by simp[aM,eqGuard,binOp,Op.shift,show¬b<0 by omega]
theorem bH{c:Bool}:ac P (Op.unary .not (.bool c)) w K=K (.bool !c):=ac.of λw' _=>by simp[Op.unary]
theorem l0:ac P (Op.unary .neg (.int k a)) w K=K (.int k (k.wrap (0-a))):=ac.of λw' _=>by simp[Op.unary,Op.intArith]
theorem fh{s d:p9}{e:o6}(U:P.underlying s=σ (.int e))(f:P.underlying d=σ (.int k)):
  ac P (convert s d (.int e a)) w K=K (.int k (k.wrap a)):=ac.of λw' _=>by simp[convert,run_underlying U,run_underlying f,Conv.intToInt]
theorem zV{x y:x1}{r:Bool}(a:∀w',(eqGuard .eql t (a6 cx) (a6 cy) x y).run P w'= .ok () w')(e:binOp .eql t x y=(do pure (.bool (<-Op.equal t x y))))(h:∀w',Ext w w'->(Op.equal t x y).run P w'= .ok r w'):ac P (aM .eql t cx cy x y) w K=K (.bool r):=ac.of λw' J=>by
 unfold aM;rw[e,W0,a w',Result.andThen_ok,W0,h w' J];rfl
theorem Jo{x y:x1}{r:Bool}(a:∀w',(eqGuard .neq t (a6 cx) (a6 cy) x y).run P w'= .ok () w')(e:binOp .neq t x y=(do pure (.bool (!(<-Op.equal t x y)))))(h:∀w',Ext w w'->(Op.equal t x y).run P w'= .ok r w'):ac P (aM .neq t cx cy x y) w K=K (.bool !r):=ac.of λw' J=>by
 unfold aM;rw[e,W0,a w',Result.andThen_ok,W0,h w' J];rfl
theorem zW(w:x3)(d:Nat){p:Option Addr}(h:P.underlying t=σ (.pointer e)):(Op.equalIn (d+1) t (.pointer p) (.pointer ν)).run P w= .ok p.isNone w:=by
 cases p<;>simp[Op.equalIn,run_underlying h]
theorem oX{base:Option Addr}(a:P.underlying t=σ (.slice e)):
  ac P (aM .eql t cx cy (.slice base n c) (.slice ν 0 0)) w K=K (.bool base.isNone):=zV (λ_=>rfl) rfl λw' _=>run_equal_slice_nil w' t e base n c a
theorem de{p:Option Addr}(a:P.underlying t=σ (.pointer e)):
  ac P (aM .eql t cx cy (.pointer p) (.pointer ν)) w K=K (.bool p.isNone):=zV (λ_=>rfl) rfl λw' _=>zW w' 9999 a
theorem zX{p:Option Addr}(a:P.underlying t=σ (.pointer e)):
  ac P (aM .neq t cx cy (.pointer p) (.pointer ν)) w K=K (.bool !p.isNone):=Jo (λ_=>rfl) rfl λw' _=>zW w' 9999 a
theorem hs{a:p9}{base:Option Addr}(f:P.underlying t=σ (.slice e)):
  ac P (W9 #[t] a #[.slice base n c]) w K=K (Δ n):=ac.of λw' _=>by simp[W9,run_underlying f,goInt]
theorem l1{e:Array p9}{f:p9}{b:Int}:
  ac P (Z3.min_ e f #[.int k a,.int k b]) w K=K (.int k (min a b)):=ac.of λw' _=>by
 simp only[Z3.min_,List.foldlM,Z3.min2];simp only[W0,V1,Result.andThen_ok,Int.min_def];congr 2;split<;>split<;>omega
theorem vy{e:Array p9}{f:p9}{b:Int}:
  ac P (Z3.max_ e f #[.int k a,.int k b]) w K=K (.int k (max a b)):=ac.of λw' _=>by
 simp only[Z3.max_,List.foldlM,Z3.max2];simp only[W0,V1,Result.andThen_ok,Int.max_def];congr 2;split<;>split<;>omega
theorem iK{vs:Array x1}{i:Nat}(h:vs[i]?=σ v):ac P (Y0 (.tuple vs) i) w K=K v:=ac.of λw' _=>by simp[Y0,h]
theorem ig{f:Fn}{a b:Array x1}:ac P (Instr.makeFunc f a b) w K=K (.func f a b):=ac.of λ_ _=>rfl
def jM(P:W5)(t:p9):Bool:=match P.underlying t with
 |some (.struct _)|some (.array _ _)|none=>false
 |_=>true
theorem ax{b o:Nat}(a:jM P t=true)(h:w.cell? ⟨b,o,ν⟩=σ v):
  ac P (u5 t (.pointer (σ ⟨b,o,ν⟩))) w K=K v:=ac.of λw' J=>by
 have h':=iJ J h;unfold jM at a;cases hu:P.underlying t with
 |none=>rw[hu]at a;cases a
 |some d=>
  rw[hu]at a;cases d<;>first|(cases a;done)|simp[u5,Instr.sureAddr,loadVar,isAgg,run_underlying hu,h']
theorem zY{d:TypeDesc}{b o k a:Nat}(hu:P.underlying t=σ d)(e:d.isRow=true)(hi:aQ P t k a z)(f:cs.length=k)(h:w.rangeAt b o cs):ac P (u5 t (.pointer (σ ⟨b,o,ν⟩))) w K=K (.agg cs.toArray):=ac.of λw' J=>
 run_loadAt_mid (P:=P) w' b o t cs d (nE J h) hu e (by rw[hi.size,f])
theorem bP{pl:List (Nat×Nat)}{b o k a:Nat}(hu:bJ P t pl)(hi:aQ P t k a z)(e:cs.length=k)(h:w.rangeAt b o cs):ac P (u5 t (.pointer (σ ⟨b,o,ν⟩))) w K=K (.agg cs.toArray):=by
 obtain⟨f,hu,_⟩:=hu;exact zY hu rfl hi e h
theorem aU{pl:List (Nat×Nat)}{i b o z:Nat}(p:bJ P t pl)(ag:pl[i]?=σ (off,z+1)):
  ac P (u6 t (.pointer (σ ⟨b,o,ν⟩)) i) w K=K (.pointer (σ ⟨b,o+off,ν⟩)):=ac.of λw' _=>by
 obtain⟨q,hu,rfl⟩:=p;rw[x8]at ag;cases a:q[i]? with
 |none=>rw[S6,a]at ag;cases ag
 |some f=>
  rw[S6,a]at ag;simp only[Z6,Y1,T0]at ag;obtain⟨rfl,h⟩:=ag;cases e:P.info? f.type with
  |none=>simp[e]at h
  |some j=>
   have U:j.size=z+1:=by simpa[e]using h
   simp[u6,run_underlying hu,a,Instr.sureAddr,fieldPlace,sizeOf,typeInfo,e,U,U7]
theorem zZ{i:Int}{b o z f:Nat}{h:x1}{base:Option Addr}(hu:P.underlying t=σ (.slice e))(p:aQ P e z f h)(q:0<=i)(hi:i<n)(a:0<n->base=σ ⟨b,o,ν⟩):
  ac P (c7 t (.slice base n c) (.int k i)) w K=K (.pointer (σ ⟨b,o+i.toNat*z,ν⟩)):=ac.of λw' _=>by
 have a:=a Ω;subst a;obtain⟨j,r,U,_⟩:=p;simp[c7,asIntOf,run_underlying hu,q,hi,sizeOf,typeInfo,r,U,U7]
theorem e8{i:Nat}{b o z a:Nat}{base:Option Addr}(hu:P.underlying t=σ (.slice e))(h:aQ P e z a f)(hi:i<n)(p:0<n->base=σ ⟨b,o,ν⟩):
  ac P (c7 t (.slice base n c) (.int k (i:Int))) w K=K (.pointer (σ ⟨b,o+i*z,ν⟩)):=by
 rw[zZ (i:=(i:Int)) hu h Ω Ω p];rfl
theorem Jp{i:Int}{b o z a:Nat}(hu:P.underlying t=σ (.array n e))(h:aQ P e z a f)(p:0<=i)(hi:i<n):
  ac P (c7 t (.pointer (σ ⟨b,o,ν⟩)) (.int k i)) w K=K (.pointer (σ ⟨b,o+i.toNat*z,ν⟩)):=ac.of λw' _=>by
 obtain⟨j,q,U,_⟩:=h;simp[c7,asIntOf,run_underlying hu,Instr.sureAddr,p,hi,sizeOf,typeInfo,q,U,U7]
theorem sy{i:Nat}{b o z a:Nat}(hu:P.underlying t=σ (.array n e))(h:aQ P e z a f)(hi:i<n):
  ac P (c7 t (.pointer (σ ⟨b,o,ν⟩)) (.int k (i:Int))) w K=K (.pointer (σ ⟨b,o+i*z,ν⟩)):=by
 rw[Jp (i:=(i:Int)) hu h Ω Ω];rfl
def l2:Option x1->Nat->Prop
 |none,l=>l=0
 |some v,l=>∃k,v= .int k l
def l3:Option x1->Nat->Nat->Prop
 |none,n,h=>h=n
 |some v,_,h=>∃k,v= .int k h
def maxOf:Option x1->Option x1->Nat->Nat->Prop
 |none,_,c,m=>m=c
 |some v,σ _,_,m=>∃k,v= .int k m
 |some _,ν,_,_=>False
theorem oY{l:Nat}:l2 (σ (.int k (l:Int))) l:=⟨_,rfl⟩
theorem nF(l:Nat)(x:Int)(h:x=(l:Int)):l2 (σ (.int k x)) l:=⟨k,by rw[h]⟩
theorem nG(l:Nat)(x:Int)(h:x=(l:Int)):l3 (σ (.int k x)) n l:=⟨k,by rw[h]⟩
theorem ji:l2 ν 0:=rfl
theorem oZ:l3 (σ (.int k (h:Int))) n h:=⟨_,rfl⟩
theorem jj:l3 ν n n:=rfl
theorem e9{h:Option x1}:maxOf ν h c c:=by cases h<;>rfl
theorem sz(w:x3){sl:Bool}{l m:Nat}{low high mx:Option x1}(h1:l2 low l)(e:l3 high n h)(a:maxOf mx high c m)(f:l<=h)(aB:h<=m)(hm:m<=c):
  (Instr.sliceBounds sl n c low high mx).run P w= .ok (l,h,m) w:=by
 cases low<;>cases high<;>cases mx<;>simp only[l2,l3,maxOf]at h1 e a<;>(try exact a.elim)<;>(try obtain⟨p,rfl⟩:=h1)<;>(try obtain⟨q,rfl⟩:=e)<;>(try obtain⟨r,rfl⟩:=a)<;>(try subst h1)<;>(try subst e)<;>(try subst a) <;>
  simp[Instr.sliceBounds,Instr.sliceBound,asIntOf,f,aB,hm]
theorem gV{z a l m:Nat}{base:Option Addr}{low high mx:Option x1}(hu:P.underlying t=σ (.slice e))(p:aQ P e z a f)(h1:l2 low l)(q:l3 high n h)(r:maxOf mx high c m)(s:l<=h)(aB:h<=m)(hm:m<=c):
  ac P (V8 t (.slice base n c) low high mx) w K=K (.slice (if m=l then base else base.map (·.add (l*z))) (h-l) (m-l)):=ac.of λw' _=>by
 obtain⟨j,x,U,_⟩:=p;simp[V8,Instr.slice,run_underlying hu,sz w' h1 q r s aB hm,sizeOf,typeInfo,x,U]
theorem sA{z a l m b o:Nat}{low high mx:Option x1}(hu:P.underlying t=σ (.array n e))(p:aQ P e z a f)(h1:l2 low l)(q:l3 high n h)(r:maxOf mx high n m)(s:l<=h)(aB:h<=m)(hm:m<=n):
  ac P (V8 t (.pointer (σ ⟨b,o,ν⟩)) low high mx) w K=K (.slice (σ (if m=l then⟨b,o,ν⟩else⟨b,o+l*z,ν⟩)) (h-l) (m-l)):=ac.of λw' _=>by
 obtain⟨j,x,U,_⟩:=p;simp[V8,Instr.sureAddr,run_underlying hu,sz w' h1 q r s aB hm,sizeOf,typeInfo,x,U,U7]
theorem cW{parts:Array (Nat×x1)}{cs:Array x1}(h:P.built t parts.toList=σ cs):ac P (Instr.build t parts) w K=K (.agg cs):=ac.of λw' _=>
 run_build (P:=P) w' t parts cs h
end
theorem cg.part{k l m:Nat}{base:Option Addr}(U:cg w k (.slice base n c) n cs)(p:l<=h)(aB:h<=n)(hm:h<=m)(q:m<=c):
  cg w k (.slice (if m=l then base else base.map (·.add (l*k))) (h-l) (m-l)) (h-l) ((cs.drop (l*k)).take ((h-l)*k)):=by
 obtain⟨h1,b,o,r,cap,he,s,x,a,e⟩:=U;cases he;have y:h*k<=n*k:=X8 _ aB;have z:l*k+(h-l)*k=h*k:=by rw[<-U2];congr 1;omega
 refine⟨by simp[h1];omega,b,o+l*k,_,m-l,rfl,Ω,Ω,λA=>?_,λj v ad=>?_⟩
 .rw[a Ω,if_neg Ω];simp[U7]
 .have f:=(x4.1 ad).1;simp at f;rw[Z7 Ω,List.getElem?_drop]at ad;rw[R2];exact e _ _ ad
section
variable{P:W5}{w:x3}
structure jk(g:Nat)(w w':x3):Prop where
 os:w'.os=w.os
 tape:jF w w'
 output:w'.output=w.output
 size:w'.heap.size=w.heap.size
 aZ:∀r,r≠g->w'.heap[r]?=w.heap[r]?
theorem jk.refl(g:Nat)(w:x3):jk g w w:=⟨rfl,.kh,rfl,rfl,λ_ _=>rfl⟩
theorem jk.trans{g:Nat}{a b c:x3}(h:jk g a b)(k:jk g b c):jk g a c:=
 ⟨k.os.trans h.os,k.tape.trans h.tape,k.output.trans h.output,k.size.trans h.size,λr e=>(k.aZ r e).trans (h.aZ r e)⟩
theorem jk.ab{g:Nat}{w:x3}(h:jk g w w'):ai (λr=>r=g) w w':=⟨Nat.le_of_eq h.size.symm,λr o a _ e=>by rw[h.aZ r e];exact a⟩
theorem jk.ct{g:Nat}{w:x3}(h:jk g w w')(f:af w g e cs):cL w w':=
 ⟨h.os,h.tape,h.output,Nat.le_of_eq h.size.symm,λr o a U=>by
  by_cases p:r=g
  .subst p;unfold af at f;rw[f]at a;cases a;simp[fA]at U
  .rw[h.aZ r p];exact a⟩
theorem z1{g:Nat}(h:af w g e cs)(o:Nat)(v:x1):af (w.setCell ⟨g,o,ν⟩ v) g e (cs.set o v)/\jk g w (w.setCell ⟨g,o,ν⟩ v):=by
 unfold af at h;refine⟨?_,rfl,.kh,rfl,by simp[x3.setCell],λr a=>?_⟩
 .simp[af,x3.setCell,Array.getElem?_modify,h]
 .simp[x3.setCell,Array.getElem?_modify,Ne.symm a]
def over(cs:List x1):Nat->List x1->List x1
 |_,[]=>cs
 |o,v::r=>over (cs.set o v) (o+1) r
theorem k4:∀(vs cs:List x1)(o:Nat),(over cs o vs).length=cs.length
 |[],_,_=>rfl
 |v::r,cs,o=>by simp[over,k4 r]
theorem mE:∀(vs cs:List x1)(o:Nat),o+vs.length<=cs.length->∀j,(over cs o vs)[j]?=if o<=j/\j<o+vs.length then vs[j-o]? else cs[j]?
 |[],cs,o,_,j=>by simp[over];intro h1 a;omega
 |v::r,cs,o,h,j=>by
  simp only[c8]at h;rw[over,mE r (cs.set o v) (o+1) Θ j];simp only[c8];by_cases h1:o+1<=j/\j<o+1+r.length
  .rw[if_pos h1,if_pos Ω];rw[show j-o=(j-(o+1))+1 by omega,List.getElem?_cons_succ]
  .rw[if_neg h1];by_cases a:j=o
   .subst a;rw[if_pos Ω,b8 Ω];simp
   .rw[if_neg Ω,Y2 (Ne.symm a)]
theorem mF{o:Nat}(h:o+vs.length<=cs.length):over cs o vs=cs.take o++vs++cs.drop (o+vs.length):=by
 apply Y3;intro j;rw[mE vs cs o h];by_cases h1:j<o
 .rw[if_neg Ω,Y5 Θ,Y5 Θ,Z7 h1]
 .by_cases a:j<o+vs.length
  .rw[if_pos Ω,Y5 Θ,Y6 Θ];congr 1;simp;omega
  .rw[if_neg Ω,Y6 Θ,List.getElem?_drop];congr 1;simp;omega
theorem nH{g:Nat}{e:p9}:∀(vs:List x1)(cs:List x1)(o:Nat)(w:x3),af w g e cs->af (w.setCells g o vs) g e (over cs o vs)/\jk g w (w.setCells g o vs)
 |[],cs,o,w,h=>⟨h,jk.refl _ _⟩
 |v::r,cs,o,w,h=>by
  obtain⟨h1,a⟩:=z1 h o v;obtain⟨f,p⟩:=nH r (cs.set o v) (o+1) _ h1;exact⟨f,a.trans p⟩
theorem sB(w:x3)(c:List x1)(e:p9):af (w.alloc (.cells c.toArray e)) w.heap.size e c/\Ext w (w.alloc (.cells c.toArray e))/\cL w (w.alloc (.cells c.toArray e)):=
 ⟨heap_alloc_new w _,pW w _,pX w _⟩
theorem bx{k a:Nat}{K:x1->x3->Prop}(hi:aQ P t k a z)(h:∀g w',g=w.heap.size->Ext w w'->af w' g t z.cells.toList->K (Γ g) w'):aD P (Instr.alloc t true (.tuple #[])) w K:=by
 obtain⟨i,hi,_,_,e⟩:=hi;obtain⟨h1,f,p⟩:=sB w z.cells.toList t;refine .of ?_ p (h _ _ rfl f h1);simp[Instr.alloc,zeroValue,typeInfo,hi,e,newVar,newRow]
theorem bf{K:x1->x3->Prop}(h:∀g w',g=w.heap.size->Ext w w'->af w' g t v.cells.toList->K (Γ g) w'):aD P (Instr.box t v) w K:=by
 obtain⟨h1,a,e⟩:=sB w v.cells.toList t;refine .of ?_ e (h _ _ rfl a h1);simp[Instr.box,newVar,newRow]
def dO(z:Array x1)(n:Nat):List x1:=((Array.range n).map (z[·% z.size]!)).toList
theorem nI(z:Array x1)(n:Nat):(dO z n).length=n:=by simp[dO]
theorem kq{k p:Nat}{parts:Array (Nat×x1)}{cs:Array x1}{K:x1->x3->Prop}(f:P.underlying t=σ (.slice e))(hi:aQ P e k p z)(y:n*k<=2 ^ 24)(ag:Instr.fill (λj=>σ (j*k,k)) ((Array.range (n*k)).map ((if n*k=0 then#[]else z.cells)[·% (if n*k=0 then#[]else z.cells).size]!)) parts.toList=σ cs)(h:∀g w',g=w.heap.size->Ext w w'->af w' g e cs.toList->K (.slice (σ ⟨g,0,ν⟩) n n) w'):aD P (Y4 t n parts) w K:=by
 obtain⟨i,hi,rfl,_,q⟩:=hi;obtain⟨h1,r,s⟩:=sB w cs.toList e;refine .of ?_ s (h _ _ rfl r h1);have x:¬(16777216<n*i.size):=Ω
 by_cases a:n*i.size=0
 .simp only[a,if_true]at ag;simp[Y4,run_underlying f,sizeOf,typeInfo,hi,a,newRow];simp at ag;simp[ag]
 .simp only[a,if_false]at ag;simp[Y4,run_underlying f,sizeOf,typeInfo,hi,x,a,newRow,zeroValue,q,ag]
theorem bl{p g o:Nat}{K:Unit->x3->Prop}(hi:aQ P t 1 p z)(h1:v.cells= #[v])(ad:v.oneCell'=true)(a:af w g e cs)(q:o<cs.length)(h:∀w',ai (λr=>r=g) w w'->w'.heap.size=w.heap.size->af w' g e (cs.set o v)->K () w'):aD P (o8 t (.pointer (σ ⟨g,o,ν⟩)) v) w K:=by
 obtain⟨i,hi,U,_⟩:=hi;obtain⟨s,f⟩:=z1 a o v;refine .of (w':=w.setCell ⟨g,o,ν⟩ v) ?_ (f.ct a) (h _ f.ab f.size s);have x:=a.cell (x6 q);have y:(⟨g,o,ν⟩:Addr).add 0=⟨g,o,ν⟩:=rfl;simp[o8,Instr.sureAddr,storeVar,sizeOf,typeInfo,hi,U,h1,storeCells,y,run_store P w _ v _ ad,x,a.frozen]
theorem vz{k p g o:Nat}{K:Unit->x3->Prop}(hi:aQ P t k p z)(q:vs.length=k)(ad:∀v∈vs,v.oneCell'=true)(a:af w g e cs)(y:o+vs.length<=cs.length)(h:∀w',ai (λr=>r=g) w w'->w'.heap.size=w.heap.size->af w' g e (over cs o vs)->K () w'):aD P (o8 t (.pointer (σ ⟨g,o,ν⟩)) (.agg vs.toArray)) w K:=by
 obtain⟨s,f⟩:=nH vs cs o w a;refine .of (w':=w.setCells g o vs) ?_ (f.ct a) (h _ f.ab f.size s);exact run_storeAt_mid (P:=P) w g o t vs.toArray (λj x=>⟨by rw[a.cell (x6 (show o+j<cs.length by simp at x;omega))];rfl,a.frozen _ _⟩) (by rw[hi.size];simp[q]) (by simpa using ad)
def bV(w:x3)(g:Nat)(e:p9)(k:Nat)(v:x1)(n:Nat)(xs:List x1):Prop:=
 xs.length=n*k/\((v= .slice ν 0 0/\n=0)\/∃cap cs,v= .slice (σ ⟨g,0,ν⟩) n cap/\af w g e cs/\n<=cap/\cap<=maxLen/\cs.length=cap*k/\cs.take (n*k)=xs)
theorem bV.nil(w:x3)(g:Nat)(e:p9)(k:Nat):bV w g e k (.slice ν 0 0) 0 []:=⟨Ξ,.inl ⟨rfl,rfl⟩⟩
theorem bV.full{g:Nat}{k:Nat}(h:af w g e cs)(a:cs.length=n*k)(f:n<=maxLen):bV w g e k (.slice (σ ⟨g,0,ν⟩) n n) n cs:=
 ⟨a,.inr ⟨n,cs,rfl,h,o4 _,f,a,by rw[<-a,o7]⟩⟩
theorem bV.ab{g:Nat}{k:Nat}(h:bV w g e k v n xs)(J:ai S w w')(f:g<w.heap.size->¬S g):bV w' g e k v n xs:=
 ⟨h.1,h.2.imp id λ⟨cap,cs,h1,a,p⟩=>⟨cap,cs,h1,a.ab J (f a.lt),p⟩⟩
theorem bV.ext{g:Nat}{k:Nat}(h:bV w g e k v n xs)(J:Ext w w'):bV w' g e k v n xs:=h.ab (J.ab λ_=>False) (λ_ h=>h)
theorem bV.sl{g:Nat}{k:Nat}(h:bV w g e k v n xs):cg w k v n xs:=by
 obtain⟨h1,⟨rfl,rfl⟩|⟨cap,cs,rfl,a,f,p,r,q⟩⟩:=h
 .have:xs=[]:=j6 (by simpa using h1);subst this;exact cg.nil w k
 .refine⟨h1,g,0,_,cap,rfl,f,p,λ_=>rfl,λj v ad=>?_⟩;rw[X2];have s:=(x4.1 ad).1;rw[<-q,Z7 Ω]at ad;exact a.cell ad
theorem cg.src{k:Nat}{x:x1}{m:Nat}{a:List x1}{f h:p9}(U:cg w k x m a)(hk:P.underlying f=σ (.slice h))(h1:∀u∈a,u.oneCell'=true)(p:0<m):Src P k f x m a w:=by
 obtain⟨q,b,o,base,cap,rfl,_,_,e,r⟩:=U;have e:=e p;subst e;exact Src.ofSlice w hk ⟨b,o,ν⟩ m cap a q (λj u hu=>by rw[U7];exact r j u hu) h1
theorem cg.Jq{k:Nat}{x:x1}{f:List x1}{h:p9}(U:cg w k x 0 f)(hk:P.underlying e=σ (.slice h)):Src P k e x 0 [] w:=by
 obtain⟨p,b,o,base,cap,rfl,_,_,q,r⟩:=U;cases base with
 |none=>exact Src.ofNil w hk cap
 |some a=>exact Src.ofSlice w hk a 0 cap [] Ξ Ξ Ξ
theorem z6{p s L W:p9}{k M g m:Nat}{x:x1}{a:List x1}{K:x1->x3->Prop}(B:P.underlying t=σ (.slice e))(C:P.underlying p=σ (.slice W))(hi:aQ P e k M z)(X:z.cells.size=k)(N:bV w g L k v n xs)(U:cg w k x m a)(h1:∀u∈a,u.oneCell'=true)(Y:(n+m)*M<=140737488355328)(O:n+m<=maxLen)(h:∀E F w' G,(F=g/\G=L/\(v=E\/g<w.heap.size/\v≠ .slice ν 0 0)\/F=w.heap.size/\G=e)->bV w' F G k E (n+m) (xs++a)->ai (λr=>r=g/\v≠ .slice ν 0 0) w w'->K E w'):
  aD P (Z0 #[t,p] s #[v,x]) w K:=by
 obtain⟨i,hi,rfl,rfl,Z⟩:=hi;have aa:=N.sl;obtain⟨f,H⟩:=N;have q:=U.1;have grow:∀(base:Option Addr)(cap:Nat),v= .slice base n cap->cap<n+m->0<m->(Z3.firstCells i.size n (.slice base n cap)).run P w.drew= .ok xs.toArray w.drew->aD P (Z0 #[t,p] s #[v,x]) w K:=by
  rintro base cap rfl Q hm ac;have y:=run_append_grow_src (P:=P) w t p s e i z B hi Z base n cap xs ac x m a (U.src C h1 hm) Q (by simp only[maxLen]at O;omega) (growslice_fits Q Y);have ad:n+m<=grownCap w (n+m) cap e:=grownCap_ge w _ _ _;have I:grownCap w (n+m) cap e<=maxLen:=grownCap_le_maxLen w (n+m) cap e O;have ae:Ext w (w.drew.alloc (.cells ((xs++a).toArray++Z3.zeroCells z.cells (grownCap w (n+m) cap e-(n+m))) e)):=(rL w _).trans (pW _ _);refine .of y ((pV w _ (Nat.le_succ _)).trans (pX _ _)) (h _ w.heap.size _ _ (.inr ⟨rfl,rfl⟩) ⟨by simp[f,q,U2],.inr ⟨_,((xs++a).toArray++Z3.zeroCells z.cells (grownCap w (n+m) cap e-(n+m))).toList,rfl,?_,ad,I,?_,?_⟩⟩ (ae.ab _))
  .show _=_;rw[Array.toArray_toList];exact heap_alloc_new w.drew _
  .simp[f,q,size_zeroCells,X,<-U2];congr 1;omega
  .rw[Array.toList_append,List.toList_toArray,U2,<-f,<-q,<-r9];exact List.take_left
 rcases Q0 m with rfl|hm
 .have af:a=[]:=j6 (by simpa using q);subst af;have ag:=U.Jq C;have R:∀base cap,v= .slice base n cap->n<=cap->aD P (Z0 #[t,p] s #[v,x]) w K:=by
   rintro base cap rfl I;refine .of (run_append_nothing (P:=P) w t p s e i B hi base n cap I x ag) (cL.refl _) (h _ g _ _ (.inl ⟨rfl,rfl,.inl rfl⟩) ?_ (ai.refl _ _));rw[Nat.add_zero,W8];exact⟨f,H⟩
  obtain⟨rfl,rfl⟩|⟨cap,cs,rfl,_,S,_⟩:=H
  .exact R _ _ rfl (o4 _)
  .exact R _ _ rfl S
 .obtain⟨rfl,rfl⟩|⟨cap,cs,rfl,A,S,ah,T,aj⟩:=H
  .have ak:xs=[]:=j6 (by simpa using f);subst ak;exact grow ν 0 rfl Ω hm (run_firstCells_none w.drew i.size 0 0 0)
  .by_cases J:n+m<=cap
   .have al:n*i.size+a.length<=cs.length:=by rw[q,T,<-U2];exact X8 _ J
    have y:=run_append_room_src (P:=P) w t p s e i B hi g 0 n cap x m a (U.src C h1 hm) J
     (λj aq=>by rw[A.cell (x6 (show 0+n*i.size+j<cs.length by omega))];rfl) (λj _=>A.frozen _ _)
    obtain⟨am,V⟩:=nH a cs (n*i.size) w A;rw[X2]at y;refine .of y (V.ct A) (h _ g _ _ (.inl ⟨rfl,rfl,.inr ⟨A.lt,Ξ⟩⟩) ⟨by simp[f,q,U2],.inr ⟨cap,_,rfl,am,J,ah,by rw[k4,T],?_⟩⟩ (V.ab.mono λr _ h=>⟨h,Ξ⟩));rw[mF al,aj,U2,<-f,<-q,<-r9];exact List.take_left
   .refine grow _ cap rfl Ω hm (run_firstCells_some w.drew i.size n _ n cap xs f λj u hu=>?_);rw[U7];obtain⟨_,b,o,base,au,he,_,_,an,y⟩:=aa;cases he;have ao:0<n:=by
     rcases Q0 n with rfl|ap
     .simp at f;subst f;simp at hu
     .exact ap
    have:=an ao;cases this;simpa using y j u hu
theorem nJ{q A B:p9}{k s g m:Nat}{x:x1}{p:List x1}{K:x1->x3->Prop}(C:P.underlying t=σ (.slice e))(E:P.underlying q=σ (.slice B))(hi:aQ P e k s z)(F:z.cells.size=k)(G:bV w g e k v n xs)(U:cg w k x m p)(h1:∀u∈p,u.oneCell'=true)(H:(n+m)*s<=140737488355328)(I:n+m<=maxLen)(h:∀f a w',(a=g\/w.heap.size<=a)->bV w' a e k f (n+m) (xs++p)->ai (λr=>r=g) w w'->K f w'):
  aD P (Z0 #[t,q] A #[v,x]) w K:=
 z6 C E hi F G U h1 H I λf a w' L y hm J=>by
  refine h f a w' (y.imp And.left λh=>Nat.le_of_eq h.1.symm) ?_ (J.mono λr _ h=>h.1);obtain⟨_,rfl,_⟩|⟨_,rfl⟩:=y<;>exact hm
theorem z7{f q s:p9}{I g o ht y:Nat}{x:x1}{base:Option Addr}{C:p9}{K:x1->x3->Prop}(E:P.underlying f=σ (.slice e))(hi:aQ P e 1 I z)(a:af w g C cs)(J:0<ht->base=σ ⟨g,o,ν⟩)(V:o+ht<=cs.length)(U:cg w 1 x n xs)(h1:∀u∈xs,u.oneCell'=true)(h:∀w',ai (λr=>r=g) w w'->w'.heap.size=w.heap.size->af w' g C (over cs o (xs.take ht))->K (Δ (min n ht:Nat)) w'):
  aD P (Z3.copy_ #[f,q] s #[.slice base ht y,x]) w K:=by
 obtain⟨A,b,o',L,cap,rfl,_,_,M,N⟩:=U;simp only[U1]at A;have F:(P.info? e).map (·.size)=σ 1:=hi.size;by_cases p:Nat.min n ht=0
 .have he:xs.take ht=[]:=j6 (by rw[n9,A];rw[Nat.min_comm];exact p);rw[he]at h;refine .of (run_copy_none (P:=P) w f q s e base L ht y n cap E F p) (cL.refl _) ?_;have G:min n ht=0:=p;rw[G]at h;exact h w (ai.refl _ _) rfl a
 .have G:min n ht≠0:=p;have O:=M Ω;have Q:=J Ω;subst O;subst Q;have H:(xs.take ht).length=min n ht:=by rw[n9,A,Nat.min_comm]
  obtain⟨R,B⟩:=nH (xs.take ht) cs o w a;have S:=run_copy_cells (P:=P) w f q s e g o ht y ⟨b,o',ν⟩ n cap (xs.take ht) E F H
   (λj u hu=>by
    rw[U7];have T:=(x4.1 hu).1;rw[Z7 Ω]at hu;exact N j u hu)
   (λj T=>by rw[a.cell (x6 (show o+j<cs.length by omega))];rfl) (λj _=>a.frozen _ _) (λu hu=>h1 u (List.mem_of_mem_take hu))
  refine .of S (B.ct a) ?_;rw[H];exact h _ B.ab B.size R
theorem am.mono{f:R5}{K e:x1->x3->Prop}(h:am P f args w K)(p:∀v w',cL w w'->K v w'->e v w'):am P f args w e:=by
 cases h with
 |code h1 a=>exact .code h1 (a.mono λ_ w' ⟨v,h1,q,a⟩=>⟨v,h1,q,p v w' q a⟩)
 |ext v w' h1 a r=>exact .ext v w' h1 a (p v w' a r)
theorem gF.mono{f:R5}{K e:x1->x3->Prop}(h:gF P f args w K)(p:∀v w',K v w'->e v w'):gF P f args w e:=by
 cases h with
 |code h1 a=>exact .code h1 (a.mono λ_ w' ⟨v,h1,a⟩=>⟨v,h1,p v w' a⟩)
 |ext v w' h1 q=>exact .ext v w' h1 (p v w' q)
end
end Go.Vc
namespace Go.Proofs.YtikkpokkcdocoabGreatDoor
open Go Go.Vc Go.RowKit Go.Proofs Go.Proofs.Tryz
set_option maxRecDepth 100000
theorem au.u:x7.underlying au=σ (.int .i64):=Ψ
theorem au.i:aQ x7 au 1 8 (Δ 0):=aQ.of Ψ
theorem ah.u:x7.underlying ah=σ (.int .i64):=Ψ
theorem ah.i:aQ x7 ah 1 8 (Δ 0):=aQ.of Ψ
theorem gm.i:aQ x7 gm 1 1 (.bool false):=aQ.of Ψ
theorem cI.u:x7.underlying cI=σ (.int .u8):=Ψ
theorem cI.i:aQ x7 cI 1 1 (.int .u8 0):=aQ.of Ψ
theorem cP.u:x7.underlying cP=σ .string:=Ψ
theorem cP.i:aQ x7 cP 1 16 (.string ⟨#[]⟩):=aQ.of Ψ
theorem cN.u:x7.underlying cN=σ (.slice cI):=Ψ
theorem nC.u:x7.underlying nC=σ (.slice c3):=Ψ
theorem db.u:x7.underlying db=σ (.pointer cG):=Ψ
theorem an.u:x7.underlying an=σ (.slice ah):=Ψ
theorem an.i:aQ x7 an 1 24 (.slice ν 0 0):=aQ.of Ψ
theorem dz.u:x7.underlying dz=σ (.slice an):=Ψ
theorem dz.i:aQ x7 dz 1 24 (.slice ν 0 0):=aQ.of Ψ
theorem kp.u:x7.underlying kp=σ (.slice gm):=Ψ
theorem kp.i:aQ x7 kp 1 24 (.slice ν 0 0):=aQ.of Ψ
theorem ek.u:x7.underlying ek=σ (.slice ay):=Ψ
theorem ek.i:aQ x7 ek 1 24 (.slice ν 0 0):=aQ.of Ψ
theorem gn.u:x7.underlying gn=σ (.slice fD):=Ψ
theorem gn.i:aQ x7 gn 1 24 (.slice ν 0 0):=aQ.of Ψ
theorem a7.p:bJ x7 a7 [(0,1),(1,1),(2,1),(3,1),(4,1),(5,1),(6,1),(7,1)]:=bJ.of Ψ
theorem a7.i:aQ x7 a7 8 160 (.agg #[(Δ 0),(.slice ν 0 0),(Δ 0),(.slice ν 0 0),(.slice ν 0 0),(.slice ν 0 0),(.slice ν 0 0),(.slice ν 0 0)]):=aQ.of Ψ
theorem dA.u:x7.underlying dA=σ (.slice dc):=Ψ
theorem dA.i:aQ x7 dA 1 24 (.slice ν 0 0):=aQ.of Ψ
theorem jK.i:aQ x7 jK 1 8 (Δ 0):=aQ.of Ψ
theorem dc.p:bJ x7 dc [(0,1),(1,1),(2,1),(3,1)]:=bJ.of Ψ
theorem dc.i:aQ x7 dc 4 32 (.agg #[(Δ 0),(Δ 0),(Δ 0),(Δ 0)]):=aQ.of Ψ
theorem ay.u:x7.underlying ay=σ (.slice au):=Ψ
theorem ay.i:aQ x7 ay 1 24 (.slice ν 0 0):=aQ.of Ψ
theorem bb.p:bJ x7 bb [(0,1),(1,1),(2,1)]:=bJ.of Ψ
theorem bb.i:aQ x7 bb 3 72 (.agg #[(.slice ν 0 0),(.slice ν 0 0),(.slice ν 0 0)]):=aQ.of Ψ
theorem fD.p:bJ x7 fD [(0,3),(3,1)]:=bJ.of Ψ
theorem fD.i:aQ x7 fD 4 80 (.agg #[(.slice ν 0 0),(.slice ν 0 0),(.slice ν 0 0),(.bool false)]):=aQ.of Ψ
theorem c3.p:bJ x7 c3 [(0,1),(1,1),(2,1),(3,1),(4,1)]:=bJ.of Ψ
theorem c3.i:aQ x7 c3 5 40 (.agg #[(.int .u8 0),(Δ 0),(Δ 0),(Δ 0),(Δ 0)]):=aQ.of Ψ
theorem mA.u:x7.underlying mA=σ (.pointer fH):=Ψ
theorem qf.u:x7.underlying qf=σ (.pointer fG):=Ψ
theorem fE.u:x7.underlying fE=σ (.slice ff):=Ψ
theorem fE.i:aQ x7 fE 1 24 (.slice ν 0 0):=aQ.of Ψ
theorem cG.p:bJ x7 cG [(0,1),(1,1),(2,1),(3,1),(4,1)]:=bJ.of Ψ
theorem oS.i:aQ x7 oS 1 8 .nilFunc:=aQ.of Ψ
theorem fF.u:x7.underlying fF=σ (.int .u64):=Ψ
theorem fF.i:aQ x7 fF 1 8 (.int .u64 0):=aQ.of Ψ
theorem bZ.p:bJ x7 bZ [(0,1),(1,1)]:=bJ.of Ψ
theorem bZ.i:aQ x7 bZ 2 16 (.agg #[(.int .u64 0),(Δ 0)]):=aQ.of Ψ
theorem oT.i:aQ x7 oT 1 8 .nilFunc:=aQ.of Ψ
theorem bB.p:bJ x7 bB [(0,1)]:=bJ.of Ψ
theorem bB.i:aQ x7 bB 1 24 (.agg #[(.slice ν 0 0)]):=aQ.of Ψ
theorem ff.p:bJ x7 ff [(0,1),(1,1),(2,1)]:=bJ.of Ψ
theorem ff.i:aQ x7 ff 3 56 (.agg #[(.slice ν 0 0),(.slice ν 0 0),(Δ 0)]):=aQ.of Ψ
theorem vv.u:x7.underlying vv=σ (.pointer cB):=Ψ
theorem vw.u:x7.underlying vw=σ (.pointer dF):=Ψ
theorem cT.u:x7.underlying cT=σ (.slice bb):=Ψ
theorem cT.i:aQ x7 cT 1 24 (.slice ν 0 0):=aQ.of Ψ
theorem dE.p:bJ x7 dE [(0,1),(1,1),(2,1),(3,1),(4,1)]:=bJ.of Ψ
theorem dE.i:aQ x7 dE 5 88 (.agg #[(Δ 0),(.slice ν 0 0),(Δ 0),(.slice ν 0 0),(.slice ν 0 0)]):=aQ.of Ψ
theorem mB.u:x7.underlying mB=σ (.array 5 cP):=Ψ
theorem mB.i:aQ x7 mB 5 80 (.agg #[(.string ⟨#[]⟩),(.string ⟨#[]⟩),(.string ⟨#[]⟩),(.string ⟨#[]⟩),(.string ⟨#[]⟩)]):=aQ.of Ψ
theorem oU.u:x7.underlying oU=σ (.int .u64):=Ψ
theorem eC.p:bJ x7 eC [(0,1),(1,1)]:=bJ.of Ψ
theorem eC.i:aQ x7 eC 2 16 (.agg #[(Δ 0),(.int .u64 0)]):=aQ.of Ψ
theorem ie.u:x7.underlying ie=σ (.slice eC):=Ψ
theorem ie.i:aQ x7 ie 1 24 (.slice ν 0 0):=aQ.of Ψ
theorem nD.u:x7.underlying nD=σ (.slice k2):=Ψ
theorem nD.i:aQ x7 nD 1 24 (.slice ν 0 0):=aQ.of Ψ
theorem sq.u:x7.underlying sq=σ (.slice gu):=Ψ
theorem fG.p:bJ x7 fG [(0,1),(1,1),(2,1),(3,1)]:=bJ.of Ψ
theorem sr.u:x7.underlying sr=σ (.pointer hT):=Ψ
theorem eY.p:bJ x7 eY [(0,1),(1,1),(2,1),(3,1)]:=bJ.of Ψ
theorem hp.u:x7.underlying hp=σ (.slice jL):=Ψ
theorem hp.i:aQ x7 hp 1 24 (.slice ν 0 0):=aQ.of Ψ
theorem ce.p:bJ x7 ce [(0,1),(1,4),(5,1),(6,1)]:=bJ.of Ψ
theorem jf.u:x7.underlying jf=σ (.slice b0):=Ψ
theorem iH.u:x7.underlying iH=σ (.slice dX):=Ψ
theorem iH.i:aQ x7 iH 1 24 (.slice ν 0 0):=aQ.of Ψ
theorem b0.p:bJ x7 b0 [(0,1),(1,1),(2,1),(3,1)]:=bJ.of Ψ
theorem b0.i:aQ x7 b0 4 80 (.agg #[(.slice ν 0 0),(.slice ν 0 0),(Δ 0),(.slice ν 0 0)]):=aQ.of Ψ
theorem dH.u:x7.underlying dH=σ (.slice cC):=Ψ
theorem dH.i:aQ x7 dH 1 24 (.slice ν 0 0):=aQ.of Ψ
theorem cB.p:bJ x7 cB [(0,1),(1,1),(2,1),(3,1)]:=bJ.of Ψ
theorem eN.u:x7.underlying eN=σ (.pointer fI):=Ψ
theorem eN.i:aQ x7 eN 1 8 (.pointer ν):=aQ.of Ψ
theorem cC.p:bJ x7 cC [(0,1),(1,1)]:=bJ.of Ψ
theorem cC.i:aQ x7 cC 2 32 (.agg #[(.slice ν 0 0),(.pointer ν)]):=aQ.of Ψ
theorem fg.u:x7.underlying fg=σ (.slice cp):=Ψ
theorem fg.i:aQ x7 fg 1 24 (.slice ν 0 0):=aQ.of Ψ
theorem dB.u:x7.underlying dB=σ (.slice a8):=Ψ
theorem dB.i:aQ x7 dB 1 24 (.slice ν 0 0):=aQ.of Ψ
theorem bz.p:bJ x7 bz [(0,1),(1,1),(2,1),(3,1),(4,1),(5,1),(6,1),(7,1),(8,1)]:=bJ.of Ψ
theorem dF.p:bJ x7 dF [(0,1),(1,1),(2,1),(3,1)]:=bJ.of Ψ
theorem cp.p:bJ x7 cp [(0,1),(1,1)]:=bJ.of Ψ
theorem cp.i:aQ x7 cp 2 24 (.agg #[(.string ⟨#[]⟩),(Δ 0)]):=aQ.of Ψ
theorem dW.u:x7.underlying dW=σ (.slice b5):=Ψ
theorem dW.i:aQ x7 dW 1 24 (.slice ν 0 0):=aQ.of Ψ
theorem a8.p:bJ x7 a8 [(0,1),(1,1),(2,1),(3,1)]:=bJ.of Ψ
theorem a8.i:aQ x7 a8 4 80 (.agg #[(.slice ν 0 0),(.slice ν 0 0),(Δ 0),(.slice ν 0 0)]):=aQ.of Ψ
theorem k1.u:x7.underlying k1=σ (.slice hq):=Ψ
theorem k1.i:aQ x7 k1 1 24 (.slice ν 0 0):=aQ.of Ψ
theorem fH.p:bJ x7 fH [(0,1),(1,1),(2,1),(3,1)]:=bJ.of Ψ
theorem eO.u:x7.underlying eO=σ (.pointer cV):=Ψ
theorem eO.i:aQ x7 eO 1 8 (.pointer ν):=aQ.of Ψ
theorem hq.p:bJ x7 hq [(0,1),(1,1)]:=bJ.of Ψ
theorem hq.i:aQ x7 hq 2 32 (.agg #[(.slice ν 0 0),(.pointer ν)]):=aQ.of Ψ
theorem qg.p:bJ x7 qg [(0,1),(1,1)]:=bJ.of Ψ
theorem oV.u:x7.underlying oV=σ (.int .u32):=Ψ
theorem hT.p:bJ x7 hT [(0,1),(1,1),(2,1)]:=bJ.of Ψ
theorem jL.p:bJ x7 jL [(0,1),(1,1)]:=bJ.of Ψ
theorem jL.i:aQ x7 jL 2 48 (.agg #[(.slice ν 0 0),(.slice ν 0 0)]):=aQ.of Ψ
theorem dX.p:bJ x7 dX [(0,1),(1,1)]:=bJ.of Ψ
theorem dX.i:aQ x7 dX 2 32 (.agg #[(.slice ν 0 0),(Δ 0)]):=aQ.of Ψ
theorem b5.p:bJ x7 b5 [(0,1),(1,1)]:=bJ.of Ψ
theorem b5.i:aQ x7 b5 2 32 (.agg #[(.slice ν 0 0),(Δ 0)]):=aQ.of Ψ
theorem gp.u:x7.underlying gp=σ (.slice cU):=Ψ
theorem cU.p:bJ x7 cU [(0,1),(1,1)]:=bJ.of Ψ
theorem cU.i:aQ x7 cU 2 32 (.agg #[(.slice ν 0 0),(.pointer ν)]):=aQ.of Ψ
theorem iI.u:x7.underlying iI=σ (.map cD au):=Ψ
theorem fI.p:bJ x7 fI [(0,1),(1,1),(2,1),(3,1)]:=bJ.of Ψ
theorem oW.u:x7.underlying oW=σ (.slice gq):=Ψ
theorem gq.p:bJ x7 gq [(0,1),(1,1)]:=bJ.of Ψ
theorem gq.i:aQ x7 gq 2 32 (.agg #[(.slice ν 0 0),(Δ 0)]):=aQ.of Ψ
theorem cV.p:bJ x7 cV [(0,1),(1,1),(2,1)]:=bJ.of Ψ
theorem gu.p:bJ x7 gu [(0,1),(1,1),(2,1)]:=bJ.of Ψ
theorem gu.i:aQ x7 gu 3 24 (.agg #[(Δ 0),(Δ 0),(.int .u64 0)]):=aQ.of Ψ
theorem k2.i:aQ x7 k2 3 24 (.agg #[(Δ 0),(Δ 0),(.int .u64 0)]):=aQ.of Ψ
theorem ss.u:x7.underlying ss=σ (.array 64 cI):=Ψ
theorem gU.u:x7.underlying gU=σ (.map cP ah):=Ψ
theorem fX.u:x7.underlying fX=σ (.int .i8):=Ψ
theorem fX.i:aQ x7 fX 1 1 (.int .i8 0):=aQ.of Ψ
theorem cD.u:x7.underlying cD=σ (.array 6 fX):=Ψ
theorem cD.i:aQ x7 cD 6 6 (.agg #[(.int .i8 0),(.int .i8 0),(.int .i8 0),(.int .i8 0),(.int .i8 0),(.int .i8 0)]):=aQ.of Ψ
theorem k3.u:x7.underlying k3=σ (.slice fX):=Ψ
theorem jg.u:x7.underlying jg=σ (.slice cD):=Ψ
theorem jg.i:aQ x7 jg 1 24 (.slice ν 0 0):=aQ.of Ψ
theorem lZ.u:x7.underlying lZ=σ (.map au ah):=Ψ
theorem mC.u:x7.underlying mC=σ (.array 24 cI):=Ψ
theorem mC.i:aQ x7 mC 24 24 (.agg #[(.int .u8 0),(.int .u8 0),(.int .u8 0),(.int .u8 0),(.int .u8 0),(.int .u8 0),(.int .u8 0),(.int .u8 0),(.int .u8 0),(.int .u8 0),(.int .u8 0),(.int .u8 0),(.int .u8 0),(.int .u8 0),(.int .u8 0),(.int .u8 0),(.int .u8 0),(.int .u8 0),(.int .u8 0),(.int .u8 0),(.int .u8 0),(.int .u8 0),(.int .u8 0),(.int .u8 0)]):=aQ.of Ψ
theorem su.u:x7.underlying su=σ (.array 20 fF):=Ψ
end Go.Proofs.YtikkpokkcdocoabGreatDoor
namespace Go.Vc
open Go Go.RowKit
def bS:x1->Int
 | .int _ i=>i
 |_=>0
theorem wrap_i64{x:Int}(h1: -9223372036854775808<=x)(a:x<9223372036854775808):X5.wrap x=x:=by
 simp only[o6.wrap,o6.bits,o6.signed];simp;omega
theorem wrap_u8{x:Int}(h1:0<=x)(a:x<256):o6.u8.wrap x=x:=by
 simp only[o6.wrap,o6.bits,o6.signed];simp;omega
theorem Jr{x:Int}(h1: -128<=x)(a:x<128):o6.i8.wrap x=x:=by
 simp only[o6.wrap,o6.bits,o6.signed];simp;omega
theorem wrap_u64{x:Int}(h1:0<=x)(a:x<18446744073709551616):U5.wrap x=x:=by
 simp only[o6.wrap,o6.bits,o6.signed];simp;omega
abbrev ints(k:o6)(l:Λ):List x1:=l.map (V4 k)
theorem qi(k:o6)(l:Λ):∀u∈ints k l,u.oneCell'=true:=by
 intro u hu;obtain⟨x,_,rfl⟩:=j4.1 hu;rfl
theorem k5{i:Nat}{x:Int}(h:l[i]?=σ x):(ints k l)[i]?=σ (.int k x):=by simp[ints,h]
theorem vA{α:Type}{a b:List α}{i:Nat}{x y:α}(h:a.take i=b.take i)(e:a[i]?=σ x)(f:b[i]?=σ y)(p:x=y):a.take (i+1)=b.take (i+1):=by
 rw[u9,u9,h,e,f,p]
theorem da{aA:x3->Prop}{B:(x3->Prop)->Prop}(G:x3->Prop)(h1:∀w,G w->aA w)(e:∀a:x3->Prop,(∀w,G w->a w)->B a):cu aA B:=e aA h1
theorem aV{aA:x1->x3->Prop}{B:(x1->x3->Prop)->Prop}(G:x1->x3->Prop)(h1:∀v w,G v w->aA v w)(e:∀a:x1->x3->Prop,(∀v w,G v w->a v w)->B a):cu aA B:=e aA h1
theorem ic{aA:x1->x1->x3->Prop}{B:(x1->x1->x3->Prop)->Prop}(G:x1->x1->x3->Prop)(h1:∀u v w,G u v w->aA u v w)(e:∀a:x1->x1->x3->Prop,(∀u v w,G u v w->a u v w)->B a):cu aA B:=e aA h1
theorem am.calls{P:W5}{f:R5}{K:x1->x3->Prop}(h:am P f args w K)(a:Enters P f):Calls P f args.toArray w λe w'=>∃v,e= .returned v/\cL w w'/\K v w':=by
 cases h with
 |code _ h=>exact h
 |ext v w' h1=>rw[a]at h1;cases h1
theorem Js(J:Ext w w')(a:cL w w'):Below w.heap.size w w':=
 ⟨a.os,a.tape.1,a.output,J.size,λk hk=>by
  have e:w.heap[k]?=σ w.heap[k]:=Array.getElem?_eq_getElem hk;rw[e];cases U:fA w.heap[k]with
  |true=>exact J.aZ k _ e U
  |false=>exact a.aZ k _ e U⟩
theorem vB{x:Addr}(h:w.cell? x=σ v):x=⟨x.block,x.off,ν⟩:=by
 obtain⟨b,o,s⟩:=x;cases s with
 |none=>rfl
 |some s=>
  unfold x3.cell? at h;split at h<;>simp at h
theorem Jt{a:Option Addr}{len cap:Nat}{e:Λ}(h:(a=ν/\len=0/\cap=0/\e=[])\/
   ∃x,a=σ x/\len<=cap/\cap<=maxLen/\e.length=cap/\(∀i,i<e.length->w.cell? (x.add i)=σ (.int k (e.getD i 0)))/\∀n∈e,(Lit.int k n).wf=true):
  cg w 1 (.slice a len cap) len (ints k (e.take len))/\∀n∈e.take len,k.min<=n/\n<=k.max:=by
 rcases h with⟨rfl,rfl,rfl,rfl⟩|⟨x,rfl,h1,q,r,f,s⟩
 .exact⟨cg.nil _ _,Ξ⟩
 .refine⟨⟨by simp[r,h1],x.block,x.off,σ x,cap,rfl,h1,q,λA=>?_,λj v ad=>?_⟩,λn y=>?_⟩
  .have:=f 0 Ω;exact congrArg σ (vB this)
  .have z:=(x4.1 ad).1;rw[r8,n9]at z;have J:x=⟨x.block,x.off,ν⟩:=vB (v:=.int k (e.getD 0 0)) (f 0 Ω);have p:=f j Ω;rw[J,U7]at p;rw[p,<-ad,ints,x8,Z7 Ω,u4,x6 Ω];rfl
  .have:=s n (List.mem_of_mem_take y);simpa[Lit.wf]using this
def aI(k:o6)(w:x3)(v:x1)(l:Λ):Prop:=cg w 1 v l.length (ints k l)
def av(k:o6)(e:p9)(w:x3)(g:Nat)(v:x1)(l:Λ):Prop:=bV w g e 1 v l.length (ints k l)
theorem aI.ext(h:aI k w v l)(J:Ext w w'):aI k w' v l:=cg.ext h J
theorem av.ext{g:Nat}(h:av k e w g v l)(J:Ext w w'):av k e w' g v l:=bV.ext h J
theorem av.ab{g:Nat}(h:av k e w g v l)(J:ai S w w')(a:g<w.heap.size->¬S g):av k e w' g v l:=bV.ab h J a
theorem av.ls{g:Nat}(h:av k e w g v l):aI k w v l:=bV.sl h
theorem aI.of(h:cg w 1 v n (ints k l)):aI k w v l:=by
 have:l.length=n:=by simpa using h.1
 unfold aI;rw[this];exact h
theorem av.of{g:Nat}(h:bV w g e 1 v n (ints k l)):av k e w g v l:=by
 have:l.length=n:=by simpa using h.1
 unfold av;rw[this];exact h
theorem aI.le(h:aI k w v l):l.length<=9223372036854775807:=by
 have:=cg.le h;simpa[maxLen]using this
theorem aI.cells(h:aI k w v l):v.cells= #[v]/\v.oneCell'=true:=by
 obtain⟨_,_,_,_,_,rfl,_⟩:=h;exact⟨rfl,rfl⟩
theorem av.nil(k:o6)(e:p9)(w:x3)(g:Nat):av k e w g (.slice ν 0 0) []:=bV.nil w g e 1
section
variable{P:W5}{w:x3}
theorem aX{a:p9}(f:P.underlying t=σ (.slice e))(h:aI k w v l):
  ac P (W9 #[t] a #[v]) w K=K (Δ l.length):=by
 obtain⟨_,_,_,_,_,rfl,_⟩:=h;exact hs f
theorem bg{a:o6}{b:Nat}{i:Nat}{x:Int}(f:P.underlying t=σ (.slice e))(hi:aQ P e 1 b z)(h1:jM P e=true)(h:aI k w v l)(J:l[i]?=σ x):ac P (c7 t v (.int a (i:Int))) w (λp=>ac P (u5 e p) w K)=K (.int k x):=by
 have q:=(x4.1 J).1;obtain⟨_,_,_,_,_,rfl,_,_,r,s⟩:=h;rw[e8 f hi q r,U1,ax h1 (s i _ (k5 J))]
theorem fY{a:o6}{b:Nat}{i:Nat}{x:Int}(f:y=(i:Int))(q:P.underlying t=σ (.slice e))(hi:aQ P e 1 b z)(h1:jM P e=true)(h:aI k w v l)(J:l[i]?=σ x):ac P (c7 t v (.int a y)) w (λp=>ac P (u5 e p) w K)=K (.int k x):=by
 subst f;exact bg q hi h1 h J
theorem jl{q:p9}{b g:Nat}{x:x1}{m:Λ}{K:x1->x3->Prop}(p:P.underlying t=σ (.slice e))(hi:aQ P e 1 b z)(s:z.cells.size=1)(h:av k e w g v l)(J:aI k w x m)(y:(l.length+m.length)*b<=140737488355328)(A:l.length+m.length<=9223372036854775807)(B:∀f a w',(a=g\/w.heap.size<=a)->av k e w' a f (l++m)->ai (λr=>r=g) w w'->K f w'):aD P (Z0 #[t,t] q #[v,x]) w K:=
 nJ p p hi s h J (qi _ _) y (by simpa[maxLen]using A) λf a w' h1 C E=>B f a w' h1 (av.of (by rw[ints,Z4];exact C)) E
theorem et{b:Nat}{x:Int}{K:x1->x3->Prop}(p:P.underlying t=σ (.slice e))(hi:aQ P e 1 b z)(s:z.cells.size=1)(h:∀v g w',g=w.heap.size->Ext w w'->av k e w' g v [x]->K v w'):aD P (Y4 t 1 #[(0,.int k x)]) w K:=
 kq p hi Ω (cs:=#[.int k x]) (by
   have U:∀(a:Array x1),a.size=1->a.setIfInBounds 0 (.int k x)= #[.int k x]:=λa f=>by
    apply Array.ext
    .simp[f]
    .intro i h1 y;have:i=0:=by simp[f]at h1;exact h1
     subst this;simp
   simp only[Instr.fill,x1.cells,List.zipIdx];simp;exact U _ Ξ) λg w' q J r=>h _ g w' q J (av.of (n:=1) (bV.full r rfl (by simp[maxLen])))
theorem am.free{f:R5}{K:x1->x3->Prop}(h:am P f args w K):gF P f args w λv w'=>cL w w'/\K v w':=by
 cases h with
 |code h1 a=>exact .code h1 (a.mono λ_ w' ⟨v,h1,e,a⟩=>⟨v,h1,e,a⟩)
 |ext v w' h1 a p=>exact .ext v w' h1 ⟨a,p⟩
theorem bU{a:Addr}:ac P (bO (.pointer (σ a))) w K=K (.pointer (σ a)):=ac.of λ_ _=>by
 simp[bO,rN,execOp]
theorem aT{u:p9}{pl:List (Nat×Nat)}{b z:Nat}{K:x1->x1->Prop}(a:bJ P t pl)(i:Nat)(f:af w b e cs)(ad:cs[(pl[i]?.getD (0,0)).1]?=σ v)(ag:pl[i]?=σ (off,z+1):=by rfl)(h:jM P u=true:=by kernel_rfl):
  ac P (u6 t (Γ b) i) w (λx=>ac P (u5 u x) w (K x))=K (.pointer (σ ⟨b,0+off,ν⟩)) v:=by
 rw[ag]at ad;rw[aU a ag,ax h (f.cell (by rw[X2];exact ad))]
theorem aS{u:p9}{pl:List (Nat×Nat)}{b z:Nat}{K:x1->x1->x1->Prop}(a:bJ P t pl)(i:Nat)(f:af w b e cs)(ad:cs[(pl[i]?.getD (0,0)).1]?=σ v)(ag:pl[i]?=σ (off,z+1):=by rfl)(h:jM P u=true:=by kernel_rfl):
  ac P (bO (Γ b)) w (λy=>ac P (u6 t y i) w (λx=>ac P (u5 u x) w (K y x)))=K (Γ b) (.pointer (σ ⟨b,0+off,ν⟩)) v:=by
 rw[bU,aT a i f ad ag h]
theorem z8{a f:o6}{k p:Nat}{K:x1->x3->Prop}(r:P.underlying t=σ (.slice e))(hi:aQ P e k p z)(B:n*p<=281474976710656)(C:n<=9223372036854775807)(h:∀g w',g=w.heap.size->Ext w w'->af w' g e (dO z.cells (n*k))->K (.slice (σ ⟨g,0,ν⟩) n n) w'):aD P (Instr.makeSlice t (.int a (n:Int)) (.int f (n:Int))) w K:=by
 obtain⟨i,hi,rfl,rfl,s⟩:=hi;have x:(i.bytes:Int)*(n:Int)<=281474976710656:=by
  rw[Int.mul_comm];have h:((n*i.bytes:Nat):Int)<=281474976710656:=Ω
  rwa [Int.natCast_mul]at h
 have q:=run_make (P:=P) w t e i z r hi s a f n n Ω (Int.le_refl _) x Ω;have hm:madeCells z.cells ((n:Int).toNat*i.size)=(dO z.cells (n*i.size)).toArray:=by rw[dO,Array.toArray_toList];rfl
 rw[hm]at q;obtain⟨h1,y,A⟩:=sB w (dO z.cells (n*i.size)) e;exact .of q A (h _ _ rfl y h1)
theorem Ju(v:x1)(n:Nat):dO #[v] n=p8 n v:=by
 apply List.ext_getElem
 .simp[dO]
 .intro i h1 a;simp[dO,Nat.mod_one]
theorem jN{f p:o6}{a:Nat}{K:x1->x3->Prop}(q:P.underlying t=σ (.slice e))(hi:aQ P e 1 a (.int k 0))(r:n*a<=281474976710656)(s:n<=9223372036854775807)(h:∀g w',g=w.heap.size->Ext w w'->af w' g e (ints k (p8 n 0))->K (.slice (σ ⟨g,0,ν⟩) n n) w'):aD P (Instr.makeSlice t (.int f (n:Int)) (.int p (n:Int))) w K:=
 z8 q hi r s λg w' x J y=>h g w' x J (by
  have e:dO (V4 k 0).cells (n*1)=ints k (p8 n 0):=by rw[U1];show dO #[_] n=_;rw[Ju];simp[ints]
  rw[<-e];exact y)
theorem fJ{pl:List (Nat×Nat)}{b o k a:Nat}(hu:bJ P t pl)(hi:aQ P t k a z)(e:cs.length=k)(h:w.rangeAt b o cs):ac P (do loadVar t (<-asAddr (.pointer (σ ⟨b,o,ν⟩)))) w K=K (.agg cs.toArray):=ac.of λw' J=>by
 obtain⟨f,hu,_⟩:=hu;have:=run_loadVar_mid (P:=P) w' b o t cs (.struct f) (nE J h) hu rfl (by rw[hi.size,e]);simp only[asAddr,W0,V1,Result.andThen_ok,this]
theorem Aa(h:vs.length=cs.length):over cs 0 vs=vs:=by
 rw[mF Ω];simp[h]
theorem ci{k f g:Nat}{K:Unit->x3->Prop}(hi:aQ P t k f z)(p:vs.length=k)(x:cs.length=k)(ad:∀v∈vs,v.oneCell'=true)(q:af w g e cs)(h:∀w',ai (λr=>r=g) w w'->w'.heap.size=w.heap.size->af w' g e vs->K () w'):aD P (o8 t (Γ g) (.agg vs.toArray)) w K:=
 vz hi p ad q Ω λw' h1 s a=>h w' h1 s (by rw[Aa Ω]at a;exact a)
end
section
variable{P:W5}{w w' aa:x3}{t:p9}{cx cy:Bool}{k:o6}{a b:Int}{A B:Prop}{x y z:x1}{K:x1->Prop}
theorem bm:ac P (Y0 (.tuple #[x,y]) 0) w K=K x:=iK rfl
theorem bn:ac P (Y0 (.tuple #[x,y]) 1) w K=K y:=iK rfl
theorem fK:ac P (Y0 (.tuple #[x,y,z]) 0) w K=K x:=iK rfl
theorem fL:ac P (Y0 (.tuple #[x,y,z]) 1) w K=K y:=iK rfl
theorem fM:ac P (Y0 (.tuple #[x,y,z]) 2) w K=K z:=iK rfl
theorem bM(h:a<b)(e:A):ac P (aM .lss t cx cy (.int k a) (.int k b)) w λv=>Split v A B:=by
 rw[aR,al];exact⟨λ_=>e,λf=>absurd h f⟩
theorem cE(h:¬a<b)(e:B):ac P (aM .lss t cx cy (.int k a) (.int k b)) w λv=>Split v A B:=by
 rw[aR,al];exact⟨λf=>absurd f h,λ_=>e⟩
theorem Ext.put{g:Nat}(J:Ext w w')(a:ai (λr=>r=g) w' aa)(h:w.heap.size<=g):Ext w aa:=J.then a λr e he=>by
 have he:r=g:=he;omega
theorem aJ{α:Type}{l:List α}{i:Nat}(h:i<l.length):∃x,l[i]?=σ x:=⟨_,x6 h⟩
end
abbrev aj:=Nat->Prop
def kr(S:aj)(w:x3)(k:Nat)(v:x1)(n:Nat)(cs:List x1):Prop:=
 cs.length=n*k/\∃b o base cap,v= .slice base n cap/\n<=cap/\cap<=maxLen/\(0<n->base=σ ⟨b,o,ν⟩)/\(0<cs.length->S b)/\w.rangeAt b o cs
theorem kr.sl{S:aj}{k:Nat}(h:kr S w k v n cs):cg w k v n cs:=by
 obtain⟨h1,b,o,base,cap,a,e,f,p,_,q⟩:=h;exact⟨h1,b,o,base,cap,a,e,f,p,q⟩
theorem Ab{b o:Nat}(h:w.rangeAt b o cs)(a:0<cs.length):b<w.heap.size:=by
 have:=h 0 cs[0] (x6 a);obtain⟨c,e,f,p,_⟩:=vx this;exact(l9.1 p).1
theorem kr.ab{S T:aj}{k:Nat}(h:kr S w k v n cs)(J:ai T w w')(p:∀r,r<w.heap.size->S r->¬T r):kr S w' k v n cs:=by
 obtain⟨h1,b,o,base,cap,q,s,x,y,e,f⟩:=h;refine⟨h1,b,o,base,cap,q,s,x,y,e,?_⟩;rcases Q0 cs.length with a|a
 .intro j v ad;have:=(x4.1 ad).1;omega
 .exact jh J (p b (Ab f a) (e a)) f
theorem kr.mono{S T:aj}{k:Nat}(h:kr S w k v n cs)(f:∀r,r<w.heap.size->S r->T r):kr T w k v n cs:=by
 obtain⟨h1,b,o,base,cap,p,q,s,x,y,a⟩:=h;exact⟨h1,b,o,base,cap,p,q,s,x,λe=>f b (Ab a e) (y e),a⟩
class ap(α:Type) where
 n:Nat
 rep:Bool->aj->aj->x3->List x1->α->Prop
 len:∀{m S R w cs a},rep m S R w cs a->cs.length=n
 one:∀{m S R w cs a},rep m S R w cs a->∀u∈cs,u.oneCell'=true
 ab:∀{m S R T w w' cs a},rep m S R w cs a->ai T w w'->(∀r,r<w.heap.size->S r\/R r->¬T r)->rep m S R w' cs a
 mono:∀{m S S' R R' w cs a},rep m S R w cs a->(∀r,r<w.heap.size->S r->S' r)->(∀r,r<w.heap.size->R r->R' r)->rep m S' R' w cs a
 hR:∀{m S R w cs a},rep m S R w cs a->rep false (λ_=>False) (λr=>S r\/R r) w cs a
section
variable{α β:Type}[ap α][ap β]{m:Bool}{S R T:aj}{w w':x3}
abbrev bF(S R:aj)(w:x3)(cs:List x1)(a:α):Prop:=ap.rep true S R w cs a
abbrev Seen(R:aj)(w:x3)(cs:List x1)(a:α):Prop:=ap.rep false (λ_=>False) R w cs a
abbrev fi:aj:=λ_=>True
theorem bW{a:α}(h:ap.rep m S R w cs a)(J:Ext w w'):ap.rep m S R w' cs a:=ap.ab h (J.ab λ_=>False) λ_ _ _ h=>h
theorem mG{a:α}(h:ap.rep m S R w cs a):ap.rep m (λr=>S r/\r<w.heap.size) R w cs a:=ap.mono h (λ_ h1 e=>⟨e,h1⟩) λ_ _ h=>h
theorem jO{a:α}(h:ap.rep m S R w cs a):Seen fi w cs a:=ap.mono (ap.hR h) (λ_ _ h=>h.elim) λ_ _ _=>trivial
theorem qj{a:α}{Q:aj}(h:ap.rep m S R w cs a)(e:∀r,r<w.heap.size->S r\/R r->Q r):Seen Q w cs a:=ap.mono (ap.hR h) (λ_ _ h=>h.elim) e
instance:ap Int where
 n:=1
 rep _ _ _ _ cs a:=cs=[Δ a]
 len h:=by subst h;rfl
 one h:=by subst h;intro u hu;simp at hu;subst hu;rfl
 ab h _ _:=h
 mono h _ _:=h
 hR h:=h
instance:ap Bool where
 n:=1
 rep _ _ _ _ cs a:=cs=[.bool a]
 len h:=by subst h;rfl
 one h:=by subst h;intro u hu;simp at hu;subst hu;rfl
 ab h _ _:=h
 mono h _ _:=h
 hR h:=h
instance:ap ByteArray where
 n:=1
 rep _ _ _ _ cs a:=cs=[.string a]
 len h:=by subst h;rfl
 one h:=by subst h;intro u hu;simp at hu;subst hu;rfl
 ab h _ _:=h
 mono h _ _:=h
 hR h:=h
def l4(_:o6):Type:=Int
instance (k:o6):ap (l4 k) where
 n:=1
 rep _ _ _ _ cs a:=cs=[.int k a]
 len h:=by subst h;rfl
 one h:=by subst h;intro u hu;simp at hu;subst hu;rfl
 ab h _ _:=h
 mono h _ _:=h
 hR h:=h
def Rd(α:Type):Type:=α
instance Sp:ap (Rd α) where
 n:=ap.n α
 rep _ _ R w cs a:=ap.rep (α:=α) false (λ_=>False) R w cs a
 len h:=ap.len (α:=α) h
 one h:=ap.one (α:=α) h
 ab h J e:=ap.ab (α:=α) h J λr f h=>e r f (.inr (h.elim False.elim id))
 mono h _ p:=ap.mono (α:=α) h (λ_ _ h=>h) p
 hR h:=ap.mono (α:=α) h (λ_ _ h=>h) λ_ _ h=>.inr h
instance Sq:ap (α×β) where
 n:=ap.n α+ap.n β
 rep m S R w cs a:=∃c d A B,cs=c++d/\(∀r,A r->S r)/\(∀r,B r->S r)/\(m=true->∀r,A r->¬B r)/\ap.rep m A R w c a.1/\ap.rep m B R w d a.2
 len:=by
  rintro m S R w cs a ⟨c,d,A,B,rfl,_,_,_,h1,e⟩;simp[ap.len h1,ap.len e]
 one:=by
  rintro m S R w cs a ⟨c,d,A,B,rfl,_,_,_,h1,e⟩ u hu;rcases o5.1 hu with hu|hu
  .exact ap.one h1 u hu
  .exact ap.one e u hu
 ab:=by
  rintro m S R T w w' cs a ⟨c,d,A,B,rfl,p,q,x,h1,e⟩ J s;exact⟨c,d,A,B,rfl,p,q,x,ap.ab h1 J λr f h=>s r f (h.imp (p r) id),ap.ab e J λr f h=>s r f (h.imp (q r) id)⟩
 mono:=by
  rintro m S S' R R' w cs a ⟨c,d,A,B,rfl,p,q,x,h1,e⟩ s y;exact⟨c,d,λr=>A r/\r<w.heap.size,λr=>B r/\r<w.heap.size,rfl,λr h=>s r h.2 (p r h.1),λr h=>s r h.2 (q r h.1),λhm r h k=>x hm r h.1 k.1,
   ap.mono h1 (λr f h=>⟨h,f⟩) y,ap.mono e (λr f h=>⟨h,f⟩) y⟩
 hR:=by
  rintro m S R w cs a ⟨c,d,A,B,rfl,p,q,x,h1,e⟩;exact⟨c,d,λ_=>False,λ_=>False,rfl,λ_ h=>h.elim,λ_ h=>h.elim,(λh=>by cases h),ap.mono (ap.hR h1) (λ_ _ h=>h) λr _ h=>h.imp (p r) id,
   ap.mono (ap.hR e) (λ_ _ h=>h) λr _ h=>h.imp (q r) id⟩
def mH(m:Bool)(R:aj)(F:Nat->aj)(w:x3)(vs:List (List x1))(l:List α):Prop:=
 vs.length=l.length/\∀(i:Nat)(c:List x1)(a:α),vs[i]?=σ c->l[i]?=σ a->ap.rep m (F i) R w c a
structure Ac(m:Bool)(S:aj)(g:Nat)(F:Nat->aj):Prop where
 sub:∀i r,F i r->S r
 top:m=true->∀i,¬F i g
 gI:m=true->∀i j r,i≠j->F i r->¬F j r
theorem mH.len{F:Nat->aj}{vs:List (List x1)}{l:List α}(h:mH m R F w vs l):∀c∈vs,c.length=ap.n α:=by
 intro c a;obtain⟨i,hi,rfl⟩:=List.mem_iff_getElem.1 a;exact ap.len (h.2 i _ _ (x6 hi) (x6 (h.1▸hi)))
theorem mH.one{F:Nat->aj}{vs:List (List x1)}{l:List α}(h:mH m R F w vs l):∀u∈vs.flatten,u.oneCell'=true:=by
 intro u hu;obtain⟨c,a,hu⟩:=List.mem_flatten.1 hu;obtain⟨i,hi,rfl⟩:=List.mem_iff_getElem.1 a;exact ap.one (h.2 i _ _ (x6 hi) (x6 (h.1▸hi))) u hu
theorem qk{k:Nat}:∀{vs:List (List x1)},(∀c∈vs,c.length=k)->vs.flatten.length=vs.length*k
 |[],_=>Ξ
 |c::r,h=>by
  have:=qk (vs:=r) λx J=>h x (.tail _ J);simp only[List.flatten_cons,r9,this,h c (.head _),c8,U2];omega
theorem nK{k:Nat}:∀{vs:List (List x1)},(∀c∈vs,c.length=k)->∀{i j:Nat}{c:List x1},vs[i]?=σ c->j<k->vs.flatten[i*k+j]?=c[j]?
 |gW::r,h,0,j,c,a,e=>by
  simp only[List.getElem?_cons_zero,Y1]at a;subst a;rw[List.flatten_cons,Y5 (by rw[h _ (.head _)];omega)];simp
 |gW::r,h,i+1,j,c,a,e=>by
  simp only[List.getElem?_cons_succ]at a;have f:=h gW (.head _);rw[List.flatten_cons,Y6 (by rw[f,U2];omega),f,U2,show i*k+1*k+j-k=i*k+j by omega];exact nK (λx J=>h x (.tail _ J)) a e
 |[],_,i,_,c,a,_=>by simp at a
instance instList:ap (List α) where
 n:=1
 rep m S R w cs l:=∃v,cs=[v]/\∃(vs:List (List x1))(g:Nat)(F:Nat->aj),Ac m S g F/\mH m R F w vs l/\kr (λr=>S r\/R r) w (ap.n α) v l.length vs.flatten/\
  (m=true->(v= .slice ν 0 0\/S g)/\∃e,bV w g e (ap.n α) v l.length vs.flatten)
 len:=by rintro m S R w cs a ⟨v,rfl,_⟩;rfl
 one:=by
  rintro m S R w cs a ⟨v,rfl,vs,g,F,_,_,⟨_,_,_,_,_,rfl,_⟩,_⟩ u hu;simp at hu;subst hu;rfl
 ab:=by
  rintro m S R T w w' cs a ⟨v,rfl,vs,g,F,p,he,U,hm⟩ J s;refine⟨v,rfl,vs,g,F,p,⟨he.1,λi c a y z=>ap.ab (he.2 i c a y z) J λr q h=>s r q (h.imp (p.sub i r) id)⟩,U.ab J s,λh=>?_⟩;obtain⟨h1,e,f⟩:=hm h;refine⟨h1,e,?_⟩;rcases h1 with rfl|h1
  .obtain⟨B,⟨_,x⟩|⟨_,_,x,_⟩⟩:=f
   .exact⟨B,.inl ⟨rfl,x⟩⟩
   .cases x
  .exact f.ab J λq=>s g q (.inl h1)
 mono:=by
  rintro m S S' R R' w cs a ⟨v,rfl,vs,g,F,p,he,U,hm⟩ s A;refine⟨v,rfl,vs,g,λi r=>F i r/\r<w.heap.size,⟨λi r h=>s r h.2 (p.sub i r h.1),λh i f=>p.top h i f.1,λh i j r C h1 f=>p.gI h i j r C h1.1 f.1⟩,
   ⟨he.1,λi c a y z=>ap.mono (he.2 i c a y z) (λr q h=>⟨h,q⟩) A⟩,U.mono λr q h=>h.imp (s r q) (A r q),λh=>?_⟩
  obtain⟨h1,e,f⟩:=hm h;refine⟨?_,e,f⟩;obtain⟨_,⟨x,_⟩|⟨_,_,x,E,_⟩⟩:=f
  .exact .inl x
  .rcases h1 with h1|h1
   .exact .inl h1
   .exact .inr (s g E.lt h1)
 hR:=by
  rintro m S R w cs a ⟨v,rfl,vs,g,F,p,he,U,hm⟩;exact⟨v,rfl,vs,g,λ_ _=>False,⟨λ_ _ h=>h,(λh=>by cases h),λh=>by cases h⟩,
   ⟨he.1,λi c a y z=>ap.mono (ap.hR (he.2 i c a y z)) (λ_ _ h=>h) λr _ h=>h.imp (p.sub i r) id⟩,U.mono λr _ h=>.inr h,λh=>by cases h⟩
end
section
variable{P:W5}{w:x3}{α β:Type}[ap α][ap β]{m:Bool}{S R:aj}
theorem jm{l:List α}(h:ap.rep m S R w [v] l):∃(vs:List (List x1))(g:Nat)(F:Nat->aj),Ac m S g F/\mH m R F w vs l/\kr (λr=>S r\/R r) w (ap.n α) v l.length vs.flatten/\
  (m=true->(v= .slice ν 0 0\/S g)/\∃e,bV w g e (ap.n α) v l.length vs.flatten):=by
 obtain⟨_,a,h⟩:=h;cases a;exact h
theorem jn{a:α}(h:ap.rep m S R w [v] a):v.oneCell'=true:=ap.one h v (.head _)
theorem ql{l:List α}(h:ap.rep m S R w [v] l):v.cells= #[v]:=by
 obtain⟨_,_,_,_,_,⟨_,_,_,_,_,rfl,_⟩,_⟩:=jm h;rfl
theorem sC{l:List α}(h:ap.rep m S R w [v] l):l.length<=9223372036854775807:=by
 obtain⟨_,_,_,_,_,h,_⟩:=jm h;have:=h.sl.le;simpa[maxLen]using this
theorem hv:ap.rep m S R w [.slice ν 0 0] ([]:List α):=
 ⟨_,rfl,[],0,λ_ _=>False,⟨λ_ _ h=>h.elim,λ_ _ h=>h,λ_ _ _ _ _ h=>h.elim⟩,⟨rfl,λi c a e=>by simp at e⟩,
  ⟨Ξ,0,0,ν,0,rfl,o4 _,X4 _,λh=>absurd h (Nat.lt_irrefl _),λh=>by simp at h,λj v h=>by simp at h⟩,
  λ_=>⟨.inl rfl,0,bV.nil w 0 0 _⟩⟩
theorem Ad{F:Nat->aj}{vs:List (List x1)}(h:mH m R F w vs l):vs.flatten=ints .i64 l:=by
 have:vs=l.map λx=>[V4 .i64 x]:=by
  apply List.ext_getElem
  .simp[h.1]
  .intro i h1 a;have e:i<l.length:=by simpa using a
   have:=h.2 i _ _ (x6 h1) (x6 e);rw[List.getElem_map];exact this
 subst this;clear h;induction l with
 |nil=>rfl
 |cons x l f=>simp only[U6,List.flatten_cons,f];rfl
theorem eD(h:ap.rep m S R w [v] l):aI .i64 w v l:=by
 obtain⟨vs,g,F,_,he,U,_⟩:=jm h;have:=U.sl;rw[Ad he]at this;exact this
theorem jo{a:p9}{l:List α}(f:P.underlying t=σ (.slice e))(h:ap.rep m S R w [v] l):
  ac P (W9 #[t] a #[v]) w K=K (Δ l.length):=by
 obtain⟨_,_,_,_,_,⟨_,_,_,_,_,rfl,_⟩,_⟩:=jm h;exact hs f
theorem l5{x:o6}{i b:Nat}{l:List α}{a:α}(A:y=(i:Int))(B:P.underlying t=σ (.slice e))(hi:aQ P e (ap.n α) b z)(h:ap.rep m S R w [v] l)(f:l[i]?=σ a)(C:∀b o cs,w.rangeAt b o cs->ap.rep m S R w cs a->K (.pointer (σ ⟨b,o,ν⟩))):ac P (c7 t v (.int x y)) w K:=by
 subst A;obtain⟨vs,g,F,E,he,⟨_,b,o,base,cap,rfl,_,_,G,_,H⟩,_⟩:=jm h;have p:=(x4.1 f).1;rw[e8 B hi p G];obtain⟨c,q⟩:∃c,vs[i]?=σ c:=⟨_,x6 (by rw[he.1];exact p)⟩;have s:=he.2 i c a q f;have I:=ap.len s;refine C _ _ c (λj u hu=>?_) (ap.mono s (λr _ h=>E.sub i r h) λ_ _ h=>h);have J:=(x4.1 hu).1;rw[R2];refine H (i*ap.n α+j) u ?_;rw[nK he.len q Ω];exact hu
theorem k6{r:o6}{i b:Nat}{l:List α}{a:α}(s:ap.n α=1)(x:y=(i:Int))(A:P.underlying t=σ (.slice e))(hi:aQ P e (ap.n α) b z)(h1:jM P e=true)(h:ap.rep m S R w [v] l)(B:l[i]?=σ a)(C:∀u,ap.rep m S R w [u] a->K u):
  ac P (c7 t v (.int r y)) w λp=>ac P (u5 e p) w K:=by
 refine l5 x A hi h B λb o cs E f=>?_;have q:=ap.len f;rw[s]at q;obtain⟨u,rfl⟩:=W6.1 q;rw[ax h1 (by have:=E 0 u rfl;simpa using this)];exact C u f
theorem nL{pl:List (Nat×Nat)}{q:o6}{i b:Nat}{l:List α}{a:α}(hu:bJ P e pl)(r:y=(i:Int))(s:P.underlying t=σ (.slice e))(hi:aQ P e (ap.n α) b z)(h:ap.rep m S R w [v] l)(x:l[i]?=σ a)(A:∀cs,ap.rep m S R w cs a->K (.agg cs.toArray)):
  ac P (c7 t v (.int q y)) w λp=>ac P (u5 e p) w K:=by
 refine l5 r s hi h x λb o cs B f=>?_;rw[bP hu hi (ap.len f) B];exact A cs f
theorem o0{g:Nat}{k:Nat}(h:bV w g e k v n xs)(a:v= .slice ν 0 0\/S g):kr S w k v n xs:=by
 obtain⟨h1,⟨rfl,rfl⟩|⟨cap,cs,rfl,f,p,q,s,r⟩⟩:=h
 .have:xs=[]:=j6 (by simpa using h1);subst this;exact⟨Ξ,0,0,ν,0,rfl,o4 _,X4 _,λh=>absurd h (Nat.lt_irrefl _),λh=>by simp at h,λj v h=>by simp at h⟩
 .refine⟨h1,g,0,_,cap,rfl,p,q,λ_=>rfl,λ_=>a.resolve_left Ξ,λj v ad=>?_⟩;rw[X2];have x:=(x4.1 ad).1;rw[<-r,Z7 Ω]at ad;exact f.cell ad
open Classical in
theorem Jv{T X Y:p9}{b:Nat}{x:x1}{us:List (List x1)}{l l':List α}{G:Nat->aj}{K:x1->x3->Prop}(Z:P.underlying t=σ (.slice e))(aa:P.underlying T=σ (.slice X))(hi:aQ P e (ap.n α) b z)(ac:z.cells.size=ap.n α)(h:bF S R w [v] l)(J:cg w (ap.n α) x l'.length us.flatten)(I:mH true R G w us l')(ae:∀i j r,i≠j->G i r->¬G j r)(C:∀r,r<w.heap.size->S r->(∀i,¬G i r)/\¬R r)(af:(l.length+l'.length)*b<=140737488355328)(ag:l.length+l'.length<=9223372036854775807)(ah:∀p w',bF (λr=>S r\/(∃i,G i r)\/w.heap.size<=r) R w' [p] (l++l')->ai S w w'->K p w'):aD P (Z0 #[t,T] Y #[v,x]) w K:=by
 obtain⟨vs,g,F,y,he,U,hm⟩:=jm h;obtain⟨L,ao,V⟩:=hm rfl;refine z6 Z aa hi ac V J I.one af (by simpa[maxLen]using ag) ?_;intro p E w' ak al M N;have O:∀r,r=g/\v≠ .slice ν 0 0->S r:=λr ⟨h1,f⟩=>h1▸L.resolve_left f;have am:=V;have Q:(p= .slice ν 0 0)\/(E=g/\S g/\g<w.heap.size)\/E=w.heap.size:=by
  rcases al with⟨h1,_,f|f⟩|⟨h1,_⟩
  .rcases L with q|q
   .exact .inl (f▸q)
   .obtain⟨_,⟨s,_⟩|⟨_,_,_,s,_⟩⟩:=am
    .exact .inl (f▸s)
    .exact .inr (.inl ⟨h1,q,s.lt⟩)
  .exact .inr (.inl ⟨h1,L.resolve_left f.2,f.1⟩)
  .exact .inr (.inr h1)
 refine ah p w' ⟨p,rfl,vs++us,if p= .slice ν 0 0 then w.heap.size else E,λi r=>if i<l.length then F i r/\r<w.heap.size else G (i-l.length) r/\r<w.heap.size,⟨λi r h=>?_,λ_ i h=>?_,λ_ i j r an h1 f=>?_⟩,⟨by simp[he.1,I.1],λi c a hi H=>?_⟩,?_,λ_=>⟨?_,ak,?_⟩⟩ (N.mono λr _ h=>O r h)
 .split at h
  .exact .inl (y.sub i r h.1)
  .exact .inr (.inl ⟨_,h.1⟩)
 .have A:(if p= .slice ν 0 0 then w.heap.size else E)<w.heap.size:=by split at h<;>exact h.2
  split at A
  .omega
  .rename_i ad;rw[if_neg ad]at h;rcases Q with h1|⟨rfl,f,q⟩|h1
   .exact ad h1
   .split at h
    .exact y.top rfl i h.1
    .exact (C _ q f).1 _ h.1
   .omega
 .split at h1<;>split at f
  .exact y.gI rfl i j r an h1.1 f.1
  .exact (C r h1.2 (y.sub i r h1.1)).1 _ f.1
  .exact (C r h1.2 (y.sub j r f.1)).1 _ h1.1
  .exact ae (i-l.length) (j-l.length) r Ω h1.1 f.1
 .have W:∀r,r<w.heap.size->R r->¬(r=g/\v≠ .slice ν 0 0):=λr B h1 f=>(C r B (O r f)).2 h1;by_cases A:i<l.length
  .rw[Y5 (by rw[he.1];exact A)]at hi;rw[Y5 A]at H;simp only[if_pos A];refine ap.ab (mG (he.2 i c a hi H)) N λr B h1 f=>?_;rcases h1 with h1|h1
   .exact y.top rfl i (f.1▸h1.1)
   .exact W r B h1 f
  .rw[Y6 (by rw[he.1];omega),he.1]at hi;rw[Y6 Ω]at H;simp only[if_neg A];refine ap.ab (mG (I.2 _ c a hi H)) N λr B h1 f=>?_;rcases h1 with h1|h1
   .exact (C r B (O r f)).1 _ h1.1
   .exact W r B h1 f
 .rw[r9,List.flatten_append];refine o0 M ?_;rcases Q with h1|⟨rfl,f,_⟩|rfl
  .exact .inl h1
  .exact .inr (.inl (.inl f))
  .exact .inr (.inl (.inr (.inr (o4 _))))
 .rcases Q with h1|⟨rfl,f,_⟩|rfl
  .exact .inl h1
  .by_cases ad:p= .slice ν 0 0
   .exact .inl ad
   .rw[if_neg ad];exact .inr (.inl f)
  .split
   .exact .inr (.inr (.inr (o4 _)))
   .exact .inr (.inr (.inr (o4 _)))
 .rw[r9,List.flatten_append];by_cases ad:p= .slice ν 0 0
  .subst ad;obtain⟨q,⟨_,s⟩|⟨_,_,s,_⟩⟩:=M
   .exact⟨q,.inl ⟨rfl,s⟩⟩
   .cases s
  .rw[if_neg ad];exact M
theorem nM{F:p9}{b:Nat}{x:x1}{l:List α}{a:α}{A:aj}{K:x1->x3->Prop}(B:P.underlying t=σ (.slice e))(hi:aQ P e (ap.n α) b z)(H:z.cells.size=ap.n α)(h:bF S R w [v] l)(J:cg w (ap.n α) x 1 cs)(I:bF A R w cs a)(C:∀r,r<w.heap.size->S r->¬(A r\/R r))(f:(l.length+1)*b<=140737488355328)(L:l.length+1<=9223372036854775807)(M:∀p w',bF (λr=>S r\/A r\/w.heap.size<=r) R w' [p] (l++[a])->ai S w w'->K p w'):aD P (Z0 #[t,t] F #[v,x]) w K:=by
 refine Jv (l':=[a]) (us:=[cs]) (G:=λi r=>i=0/\A r) B B hi H h (by simpa using J) ⟨rfl,λi c b q f=>?_⟩ (λi j r N h1 s=>N (h1.1.trans s.1.symm)) (λr E U=>⟨λi h=>C r E U (.inl h.2),λh=>C r E U (.inr h)⟩) (by simpa using f) (by simpa using L)
  λp w' h1 s=>M p w' (ap.mono h1 (λr _ h=>h.imp id (Or.imp (λ⟨_,h⟩=>h.2) id)) λ_ _ h=>h) s
 have y:=(x4.1 q).1;have y:i=0:=by simpa using y
 subst y;simp at q f;subst q f;exact ap.mono I (λr _ h=>⟨rfl,h⟩) λ_ _ h=>h
end
theorem Ae:∀(c:List x1)(i:Nat)(z:Array x1),(i+c.length<=z.size)->((c.zipIdx i).foldl (λcs (x:x1×Nat)=>cs.setIfInBounds x.2 x.1) z).toList=z.toList.take i++c++z.toList.drop (i+c.length)
 |[],i,z,h=>Ξ
 |x::r,i,z,h=>by
  simp only[c8]at h;rw[List.zipIdx_cons,S1,Ae r (i+1) _ Θ];simp only[Array.toList_setIfInBounds,c8];rw[List.drop_set_of_lt Ω,List.take_set,u9,x6 Θ];simp only[j5];rw[T4 _ _ Θ];have e:i-(z.toList.take i).length=0:=Θ
  rw[e,show i+1+r.length=i+(r.length+1) by omega];simp
theorem Af{k:Nat}{z:Array x1}(a:z.size=k)(ad:v.cells.size=k):Instr.fill (λj=>σ (j*k,k)) z [(0,v)]=σ v.cells:=by
 have h:=Ae v.cells.toList 0 z Θ;simp only[Instr.fill,Nat.zero_mul,X2];rw[if_neg Θ];congr 1;apply Array.toList_inj.1;rw[<-Array.foldl_toList,Array.toList_zipIdx,h];simp;omega
section
variable{P:W5}{w:x3}{α β:Type}[ap α][ap β]{m:Bool}{S R:aj}
theorem kt{b:Nat}{x:x1}{a:α}{A:aj}{K:x1->x3->Prop}(B:P.underlying t=σ (.slice e))(hi:aQ P e (ap.n α) b z)(L:ap.n α<=100000)(J:x.cells=cs.toArray)(q:bF A R w cs a)(C:∀v w',Ext w w'->bF (λr=>A r\/w.heap.size<=r) R w' [v] [a]->cg w' (ap.n α) v 1 cs->K v w'):aD P (Y4 t 1 #[(0,x)]) w K:=by
 have E:=ap.len q;refine kq B hi Ω (cs:=x.cells) (Af Ξ (by rw[J];simpa using E)) λg w' M s f=>?_;have f:af w' g e cs:=by rw[J]at f;simpa using f
 have hm:bV w' g e (ap.n α) (.slice (σ ⟨g,0,ν⟩) 1 1) 1 cs:=bV.full f Ω (by simp[maxLen]);refine C _ w' s ⟨_,rfl,[cs],g,λi r=>i=0/\A r/\r<w.heap.size,⟨λi r h=>.inl h.2.1,λ_ i h=>Ω,λ_ i j r F h1 G=>F (h1.1.trans G.1.symm)⟩,⟨rfl,λi c a' p y=>?_⟩,?_,λ_=>⟨.inr (.inr Ω),e,by simpa using hm⟩⟩ hm.sl
 .have H:i=0:=by simpa using(x4.1 p).1
  subst H;simp at p y;subst p y;exact bW (ap.mono q (λr I h=>⟨rfl,h,I⟩) λ_ _ h=>h) s
 .have:=o0 (S:=λr=>(A r\/w.heap.size<=r)\/R r) hm (.inr (.inl (.inr Ω)));simpa using this
end
theorem ck.range{B:x1->x3->(x1->x3->Prop)->Prop}(n:Nat)(I:Nat->x3->Prop)(q:n<=9223372036854775807)(e:I 0 w)(f:∀(i:Nat)(w:x3)(k:x1->x3->Prop),i<n->I i w->(∀w',I (i+1) w'->k (Δ (X5.wrap ((i:Int)+1))) w')->B (Δ (i:Int)) w k)(p:∀(w:x3)(k:x1->x3->Prop),I n w->B (Δ (n:Int)) w k):ck (Δ 0) w B:=by
 refine⟨λt w=>∃i:Nat,t=Δ (i:Int)/\i<=n/\I i w,λt _=>n-(bS t).toNat,⟨0,rfl,X4 _,e⟩,?_⟩;rintro _ w ⟨i,rfl,hi,h⟩;by_cases a:i<n
 .refine f i w _ a h λw' h'=>⟨⟨i+1,?_,a,h'⟩,?_⟩
  .rw[wrap_i64 Ω Ω];rfl
  .rw[wrap_i64 Ω Ω];simp only[bS];omega
 .have:i=n:=Ω
  subst this;exact p w _ h
theorem cb.range{a:x1}{B:x1->x1->x3->(x1->x1->x3->Prop)->Prop}(n:Nat)(I:Nat->x1->x3->Prop)(r:n<=9223372036854775807)(f:I 0 a w)(p:∀(i:Nat)(a:x1)(w:x3)(k:x1->x1->x3->Prop),i<n->I i a w->(∀a' w',I (i+1) a' w'->k a' (Δ (X5.wrap ((i:Int)+1))) w')->B a (Δ (i:Int)) w k)(q:∀(a:x1)(w:x3)(k:x1->x1->x3->Prop),I n a w->B a (Δ (n:Int)) w k):cb a (Δ 0) w B:=by
 refine⟨λa t w=>∃i:Nat,t=Δ (i:Int)/\i<=n/\I i a w,λa t _=>n-(bS t).toNat,⟨0,rfl,X4 _,f⟩,?_⟩;rintro a _ w ⟨i,rfl,hi,h⟩;by_cases e:i<n
 .refine p i a w _ e h λa' w' h'=>⟨⟨i+1,?_,e,h'⟩,?_⟩
  .rw[wrap_i64 Ω Ω];rfl
  .rw[wrap_i64 Ω Ω];simp only[bS];omega
 .have:i=n:=Ω
  subst this;exact q a w _ h
theorem nr.range{a b:x1}{B:x1->x1->x1->x3->(x1->x1->x1->x3->Prop)->Prop}(n:Nat)(I:Nat->x1->x1->x3->Prop)(s:n<=9223372036854775807)(p:I 0 a b w)(q:∀(i:Nat)(a b:x1)(w:x3)(k:x1->x1->x1->x3->Prop),i<n->I i a b w->(∀a' e w',I (i+1) a' e w'->k a' e (Δ (X5.wrap ((i:Int)+1))) w')->B a b (Δ (i:Int)) w k)(r:∀(a b:x1)(w:x3)(k:x1->x1->x1->x3->Prop),I n a b w->B a b (Δ (n:Int)) w k):nr a b (Δ 0) w B:=by
 refine⟨λa b t w=>∃i:Nat,t=Δ (i:Int)/\i<=n/\I i a b w,λa b t _=>n-(bS t).toNat,⟨0,rfl,X4 _,p⟩,?_⟩;rintro a b _ w ⟨i,rfl,hi,h⟩;by_cases f:i<n
 .refine q i a b w _ f h λa' e w' h'=>⟨⟨i+1,?_,f,h'⟩,?_⟩
  .rw[wrap_i64 Ω Ω];rfl
  .rw[wrap_i64 Ω Ω];simp only[bS];omega
 .have:i=n:=Ω
  subst this;exact r a b w _ h
theorem rX.range{a b c:x1}{B:x1->x1->x1->x1->x3->(x1->x1->x1->x1->x3->Prop)->Prop}(n:Nat)(I:Nat->x1->x1->x1->x3->Prop)(x:n<=9223372036854775807)(q:I 0 a b c w)(r:∀(i:Nat)(a b c:x1)(w:x3)(k:x1->x1->x1->x1->x3->Prop),i<n->I i a b c w->(∀a' e f w',I (i+1) a' e f w'->k a' e f (Δ (X5.wrap ((i:Int)+1))) w')->B a b c (Δ (i:Int)) w k)(s:∀(a b c:x1)(w:x3)(k:x1->x1->x1->x1->x3->Prop),I n a b c w->B a b c (Δ (n:Int)) w k):rX a b c (Δ 0) w B:=by
 refine⟨λa b c t w=>∃i:Nat,t=Δ (i:Int)/\i<=n/\I i a b c w,λa b c t _=>n-(bS t).toNat,⟨0,rfl,X4 _,q⟩,?_⟩;rintro a b c _ w ⟨i,rfl,hi,h⟩;by_cases p:i<n
 .refine r i a b c w _ p h λa' e f w' h'=>⟨⟨i+1,?_,p,h'⟩,?_⟩
  .rw[wrap_i64 Ω Ω];rfl
  .rw[wrap_i64 Ω Ω];simp only[bS];omega
 .have:i=n:=Ω
  subst this;exact s a b c w _ h
theorem p2.range{a b c d:x1}{B:x1->x1->x1->x1->x1->x3->(x1->x1->x1->x1->x1->x3->Prop)->Prop}(n:Nat)(I:Nat->x1->x1->x1->x1->x3->Prop)(y:n<=9223372036854775807)(r:I 0 a b c d w)(s:∀(i:Nat)(a b c d:x1)(w:x3)(k:x1->x1->x1->x1->x1->x3->Prop),i<n->I i a b c d w->(∀a' e f p w',I (i+1) a' e f p w'->k a' e f p (Δ (X5.wrap ((i:Int)+1))) w')->B a b c d (Δ (i:Int)) w k)(x:∀(a b c d:x1)(w:x3)(k:x1->x1->x1->x1->x1->x3->Prop),I n a b c d w->B a b c d (Δ (n:Int)) w k):p2 a b c d (Δ 0) w B:=by
 refine⟨λa b c d t w=>∃i:Nat,t=Δ (i:Int)/\i<=n/\I i a b c d w,λa b c d t _=>n-(bS t).toNat,⟨0,rfl,X4 _,r⟩,?_⟩;rintro a b c d _ w ⟨i,rfl,hi,h⟩;by_cases q:i<n
 .refine s i a b c d w _ q h λa' e f p w' h'=>⟨⟨i+1,?_,q,h'⟩,?_⟩
  .rw[wrap_i64 Ω Ω];rfl
  .rw[wrap_i64 Ω Ω];simp only[bS];omega
 .have:i=n:=Ω
  subst this;exact x a b c d w _ h
section
variable{P:W5}{w:x3}{m:Bool}{S R:aj}
theorem Jw(l:Λ):(l.map λx=>[V4 k x]).flatten=ints k l:=by
 induction l with
 |nil=>rfl
 |cons x l a=>simp only[U6,List.flatten_cons,a];rfl
theorem nN{g:Nat}(h:av .i64 e w g v l):bF (λr=>r=g) R w [v] l:=by
 have ag:(l.map λx=>[V4 .i64 x]).flatten=ints .i64 l:=Jw l;refine⟨v,rfl,l.map λx=>[Δ x],g,λ_ _=>False,⟨λ_ _ h=>h.elim,λ_ _ h=>h,λ_ _ _ _ _ h=>h.elim⟩,⟨Ξ,λi c a f p=>?_⟩,?_,λ_=>⟨.inr rfl,e,?_⟩⟩
 .rw[x8,p]at f;simp at f;exact f.symm
 .rw[ag];exact o0 h (.inr (.inl rfl))
 .rw[ag];exact h
def l4.val(x:l4 k):Int:=x
theorem Ag(h:bF S R w [v] l):∃g e,av .i64 e w g v l/\(v= .slice ν 0 0\/S g):=by
 obtain⟨vs,g,F,_,he,U,hm⟩:=jm h;obtain⟨h1,e,a⟩:=hm rfl;rw[Ad he]at a;exact⟨g,e,a,h1⟩
end
end Go.Vc
namespace Go.Proofs.YtikkpokkcdocoabGreatDoor
open Go Go.Vc Go.RowKit Go.Proofs Go.Proofs.Tryz
set_option maxRecDepth 100000
def right(k:Int):Prop:=1<=k/\k<=2147483648
def cq(a k:Int):Prop:=right k/\0<=a/\a<=k
instance (k:Int):Decidable (right k):=by unfold right;infer_instance
instance (a k:Int):Decidable (cq a k):=by unfold cq;infer_instance
theorem Ah{k:Int}:am x7 IC [Δ k] w λv w'=>v= .bool (decide (right k))/\Ext w w':=by
 refine az func225 ?_;simp only[cu,cM,mD,al];refine⟨λh=>⟨?_,Ext.refl _⟩,λh=>⟨?_,Ext.refl _⟩⟩
 .congr 1;simp[right,h]
 .rw[decide_eq_false];intro a;exact h a.1
theorem jP{k:Int}:am x7 HP [Δ a,Δ k] w λv w'=>v= .bool (decide (cq a k))/\Ext w w':=by
 refine az func152 ?_;simp only[cu];refine Ah.mono ?_;rintro _ V _ ⟨rfl,J⟩;simp only[cM,mD,al];refine⟨λh=>⟨λe=>⟨?_,J⟩,λe=>⟨?_,J⟩⟩,λh=>⟨?_,J⟩⟩
 .congr 1;simp[cq,h,e]
 .rw[decide_eq_false];intro f;exact e f.2.1
 .rw[decide_eq_false];intro f;exact h f.1
theorem Jx{k:Int}:am x7 Iv [Δ k] w λv w'=>v= .bool (decide (right k))/\Ext w w':=by
 refine az func216 ?_;simp only[cu,bL,mD,al];refine⟨λh=>⟨?_,Ext.refl _⟩,λh=>⟨?_,Ext.refl _⟩⟩
 .congr 1;have h':1<=k:=Ω
  simp[right,h']
 .rw[decide_eq_false];intro a;have:=a.1;omega
theorem Ai{k:Int}:am x7 HA [Δ a,Δ k] w λv w'=>v= .bool (decide (cq a k))/\Ext w w':=by
 refine az func135 ?_;simp only[cu];refine Jx.mono ?_;rintro _ V _ ⟨rfl,J⟩;simp only[cM,mD,al];refine⟨λh=>⟨λe=>⟨?_,J⟩,λe=>⟨?_,J⟩⟩,λh=>⟨?_,J⟩⟩
 .congr 1;simp[cq,h,e]
 .rw[decide_eq_false];intro f;exact e f.2.1
 .rw[decide_eq_false];intro f;exact h f.1
def aO:Λ->Int
 |[]=>1
 |x::r=>x*aO r
theorem Aj:∀(a b:Λ),aO (a++b)=aO a*aO b
 |[],b=>by simp[aO]
 |x::a,b=>by simp[aO,Aj a b,Int.mul_assoc]
theorem sD{i:Nat}{x:Int}(h:l[i]?=σ x):aO (l.take (i+1))=aO (l.take i)*x:=by
 rw[u9,h,Aj];simp[aO]
def b3(l:Λ):Prop:=l.length<=6/\∀x∈l,1<=x/\x<=32
theorem b3.take(h:b3 l)(i:Nat):b3 (l.take i):=⟨by rw[n9];have:=h.1;omega,λx J=>h.2 x (List.mem_of_mem_take J)⟩
theorem b3.drop(h:b3 l)(i:Nat):b3 (l.drop i):=⟨by rw[List.length_drop];have:=h.1;omega,λx J=>h.2 x (List.mem_of_mem_drop J)⟩
theorem mI:∀(l:Λ),(∀x∈l,1<=x/\x<=32)->1<=aO l/\aO l<=32 ^ l.length
 |[],_=>by simp[aO]
 |x::r,h=>by
  obtain⟨h1,a⟩:=mI r λy e=>h y (.tail _ e);obtain⟨f,p⟩:=h x (.head _);simp only[aO,c8];constructor
  .have:=Int.mul_le_mul f h1 Ω Ω;simpa using this
  .have:=Int.mul_le_mul p a Ω Ω;rw[Int.pow_succ];rw[Int.mul_comm (32 ^ r.length) 32];exact this
theorem prod_bound(h:b3 l):1<=aO l/\aO l<=1073741824:=by
 obtain⟨h1,a⟩:=mI l h.2;refine⟨h1,Int.le_trans a ?_⟩;have:(32:Int) ^ l.length<=32 ^ 6:=by
  have e:=h.1
  match l.length,e with
  |0,_=>decide
  |1,_=>decide
  |2,_=>decide
  |3,_=>decide
  |4,_=>decide
  |5,_=>decide
  |6,_=>decide
 simpa using this
def cH:Λ->Λ->Int->Option Int
 |[],[],n=>σ n
 |k::s,v::t,n=>if 0<=v/\v<k then cH s t (n*k+v)else ν
 |_,_,_=>ν
theorem vC:∀(s t:Λ)(n:Int),s.length≠t.length->cH s t n=ν
 |[],[],_,h=>absurd rfl h
 |[],_::_,_,_=>rfl
 |_::_,[],_,_=>rfl
 |k::s,v::t,n,h=>by
  unfold cH;split
  .exact vC s t _ (by simpa using h)
  .rfl
def cQ:Λ->Int->Λ
 |[],_=>[]
 |k::s,n=>(n / aO s) % k::cQ s n
theorem jp:∀(s:Λ)(n:Int),(cQ s n).length=s.length
 |[],_=>rfl
 |_::s,n=>by simp[cQ,jp s n]
theorem Ak:∀{s:Λ}{n:Int}{i:Nat}{k:Int},s[i]?=σ k->(cQ s n)[i]?=σ ((n / aO (s.drop (i+1))) % k)
 |a::s,n,0,k,h=>by simp at h;subst h;simp[cQ]
 |a::s,n,i+1,k,h=>by
  simp only[List.getElem?_cons_succ]at h;simp only[cQ,List.getElem?_cons_succ,List.drop_succ_cons];exact Ak h
theorem nO:∀{s t:Λ}{m n:Int},(∀x∈s,1<=x/\x<=32)->cH s t m=σ n->m*aO s<=n/\n<(m+1)*aO s
 |[],[],m,n,_,h=>by simp[cH]at h;subst h;simp[aO];omega
 |k::s,v::t,m,n,U,h=>by
  unfold cH at h;split at h
  .rename_i ad;have a:=nO (λx J=>U x (.tail _ J)) h;have p:=(mI s λx J=>U x (.tail _ J)).1;simp only[aO];have e:m*(k*aO s)=m*k*aO s:=(Int.mul_assoc _ _ _).symm;have f:(m+1)*(k*aO s)=(m*k+k)*aO s:=by rw[<-Int.mul_assoc,Int.add_mul,Int.one_mul]
   rw[e,f];constructor
   .refine Int.le_trans ?_ a.1;exact Int.mul_le_mul_of_nonneg_right Ω Ω
   .refine Int.lt_of_lt_of_le a.2 ?_;exact Int.mul_le_mul_of_nonneg_right Ω Ω
  .cases h
 |[],_::_,_,_,_,h=>by cases h
 |_::_,[],_,_,_,h=>by cases h
def bp:Λ->List (Λ)
 |[]=>[[]]
 |k::s=>(X0 k.toNat).flatMap λ(v:Nat)=>(bp s).map λt=>(v:Int)::t
theorem jQ:∀{s:Λ},(∀x∈s,1<=x/\x<=32)->(bp s).length=(aO s).toNat
 |[],_=>rfl
 |k::s,h=>by
  have a:=jQ (s:=s) λx J=>h x (.tail _ J);have hk:=h k (.head _);have e:=(mI s λx J=>h x (.tail _ J)).1;simp only[bp,aO,List.length_flatMap,r8,a];rw[List.map_const',List.length_range,List.sum_replicate_nat,Int.toNat_mul Ω Ω]
theorem sE:∀{s x:Λ},x∈bp s->x.length=s.length
 |[],x,h=>by simp[bp]at h;subst h;rfl
 |k::s,x,h=>by
  simp only[bp,S7,j4]at h;obtain⟨v,_,t,a,rfl⟩:=h;simp[sE a]
theorem Al{s x:Λ}(h:(bp s)[j]?=σ x):x.length=s.length:=sE (x5 h)
theorem o1(h:aI .i64 w sv l)(U:b3 l):
  am x7 Hj [.agg #[sv]] w λv w'=>v=Δ (aO l)/\Ext w w':=by
 refine az func100 ?_;refine bf λg w0 r e f=>?_;rw[aT bB.p 0 f rfl,aX an.u (h.ext e)];refine⟨λn t V=>Ext w V/\∃i:Nat,t=Δ i/\i<=l.length/\n=Δ (aO (l.take i)),λ_ t _=>l.length-(bS t).toNat,⟨e,0,rfl,X4 _,rfl⟩,?_⟩;rintro _ _ V ⟨J,i,rfl,hi,rfl⟩;have s:=U.1;simp only[aR,al];refine⟨λy=>?_,λz=>⟨?_,J⟩⟩
 .obtain⟨x,a⟩:=aJ (l:=l) (i:=i) Ω;rw[bg an.u ah.i Ψ (h.ext J) a];have q:=prod_bound (U.take (i+1));rw[sD a]at q;simp only[hU,aN];rw[wrap_i64 Ω Ω,wrap_i64 Ω Ω,<-sD a];refine⟨⟨J,i+1,rfl,Ω,rfl⟩,?_⟩;simp only[bS];omega
 .have:i=l.length:=Ω
  rw[this,o7]
theorem Jy{i:Nat}(h:aI .i64 w sv l)(U:b3 l)(hi:i<l.length):
  am x7 H2 [.agg #[sv],Δ i] w λv w'=>v=Δ (aO (l.drop (i+1)))/\Ext w w':=by
 have C:=U.1;refine az func177 ?_;refine bf λg w0 E f r=>?_;have a:=h.ext f;simp only[cu,aR,al];refine⟨λG=>Ω,λ_=>?_⟩;rw[aT bB.p 0 r rfl,aX an.u a];simp only[cM,al];refine⟨λH=>Ω,λ_=>?_⟩;rw[aT bB.p 0 r rfl];simp only[aN];have s:X5.wrap ((i:Int)+1)=((i+1:Nat):Int):=by rw[wrap_i64 Ω Ω];omega
 rw[s];have y:=a;obtain⟨_,b,o,base,cap,rfl,I,J,K,L⟩:=id a;rw[gV an.u ah.i (l:=i+1) (h:=l.length) (m:=cap) oY jj e9 Ω Ω Ω];have e:=cg.part (l:=i+1) (h:=l.length) (m:=cap) y Ω Ω Ω Ω;generalize z:(x1.slice (if cap=i+1 then base else V5 (λx=>x.add ((i+1)*1)) base) (l.length-(i+1)) (cap-(i+1)))=q at e ⊢;have A:((ints .i64 l).drop ((i+1)*1)).take ((l.length-(i+1))*1)=ints .i64 (l.drop (i+1)):=by
  rw[b6 Ξ,U1,ints,<-List.map_drop]
 rw[A]at e;rw[cW (cs:=#[q]) (by subst z;kernel_rfl)];refine(o1 (aI.of e) (U.drop (i+1))).mono ?_;rintro _ aa _ ⟨rfl,B⟩;exact⟨rfl,f.trans B⟩
def k7(s t:Λ):x1:=match cH s t 0 with
 |some n=>.tuple #[Δ n,Δ 0]
 |none=>.tuple #[Δ 0,Δ 3]
theorem Am{s t:Λ}(h:aI .i64 w sv s)(q:aI .i64 w aK t)(U:b3 s):
  am x7 H3 [.agg #[sv],aK] w λv w'=>v=k7 s t/\Ext w w':=by
 have H:=U.1;refine az func178 ?_;refine bf λg w0 I a r=>?_;rw[aX an.u (q.ext a),aT bB.p 0 r rfl,aX an.u (h.ext a)];simp only[bC,al];refine⟨λK=>⟨?_,a⟩,λz=>?_⟩
 .unfold k7;rw[vC _ _ _ Ω]
 .have z:s.length=t.length:=Ω
  rw[aX an.u (q.ext a)];refine⟨λ_ _ n c V=>Ext w0 V/\∃(i:Nat)(m:Int),c=Δ i/\i<=t.length/\n=Δ m/\0<=m/\m<aO (s.take i)/\cH s t 0=cH (s.drop i) (t.drop i) m,λ_ _ _ c _=>t.length-(bS c).toNat,
   ⟨Ext.refl _,0,0,rfl,X4 _,rfl,Int.le_refl _,by simp[aO],rfl⟩,?_⟩
  rintro _ _ _ _ V ⟨f,i,m,rfl,hi,rfl,A,L,e⟩;have J:=a.trans f;simp only[aR,al];refine⟨λM=>?_,λN=>⟨?_,J⟩⟩
  .obtain⟨v,ad,B⟩:∃v,t[i]?=σ v/\t.drop i=v::t.drop (i+1):=⟨t[i],x6 Ω,X6 Ω⟩;obtain⟨k,hk,C⟩:∃k,s[i]?=σ k/\s.drop i=k::s.drop (i+1):=⟨s[i],x6 Ω,X6 Ω⟩;rw[B,C]at e;have E:=prod_bound (U.take (i+1));have O:=prod_bound (U.take i);have P:=U.2 k (x5 hk);rw[sD hk]at E;have y:¬(0<=v/\v<k)->k7 s t= .tuple #[Δ 0,Δ 3]:=λG=>by unfold k7;rw[e];simp[cH,G]
   rw[bg an.u ah.i Ψ (q.ext J) ad];simp only[cu,aR,al,bR];refine⟨λQ=>⟨(y Ω).symm,J⟩,λR=>?_⟩;rw[aT bB.p 0 (r.ext f) rfl,bg an.u ah.i Ψ (h.ext J) hk];simp only[cM,al];refine⟨λS=>⟨(y Ω).symm,J⟩,λW=>?_⟩;rw[aT bB.p 0 (r.ext f) rfl,bg an.u ah.i Ψ (h.ext J) hk];have X:0<=m*k/\m*k+k<=aO (s.take i)*k:=by
    constructor
    .exact Int.mul_nonneg A Ω
    .have:=Int.mul_le_mul_of_nonneg_right (show m+1<=aO (s.take i) by omega) (show 0<=k by omega);rw[Int.add_mul,Int.one_mul]at this;exact this
   simp only[hU,aN];rw[wrap_i64 (x:=m*k) Ω Ω,wrap_i64 (x:=m*k+v) Ω Ω,wrap_i64 (x:=(i:Int)+1) Ω Ω];refine⟨⟨f,i+1,m*k+v,rfl,Ω,rfl,Ω,by rw[sD hk];omega,?_⟩,?_⟩
   .rw[e];simp[cH,show 0<=v/\v<k from⟨Ω,Ω⟩]
   .simp only[bS];omega
  .have:i=t.length:=Ω
   rw[this,List.drop_of_length_le Ω,List.drop_of_length_le Ω]at e;unfold k7;rw[e];rfl
theorem Jz{e:Nat}{a b:Λ}(h1:cg w 1 s1 e (ints .i64 a))(A:cg w 1 z h (ints .i64 b)):
  am x7 zG [s1,z] w λv w'=>v= .bool (decide (a=b))/\Ext w w':=by
 have P:a.length=e:=by simpa using h1.1
 have Q:b.length=h:=by simpa using A.1
 have B:=h1.le;obtain⟨_,R,S,U,W,rfl,X,Y,G,H⟩:=h1;obtain⟨_,Z,ab,ac,ad,rfl,ae,af,I,K⟩:=A;refine az func195 ?_;simp only[hs an.u,bC,al];refine⟨λC=>⟨?_,Ext.refl _⟩,λE=>?_⟩
 .rw[decide_eq_false];rintro rfl;omega
 .have E:e=h:=Ω
  refine⟨λt4 p V=>Ext w V/\∃i:Nat,p=Δ i/\i<=e/\a.take i=b.take i,λ_ p _=>e-(bS p).toNat,⟨Ext.refl _,0,rfl,X4 _,rfl⟩,?_⟩;rintro t4 _ V ⟨J,i,rfl,hi,q⟩;simp only[aR,al,ej];refine⟨λr aa L _ _=>?_,λag=>⟨?_,J⟩⟩
  .have r:i<e:=Ω
   have J:=J.trans L;obtain⟨x,s⟩:=aJ (l:=a) (i:=i) Ω;obtain⟨y,f⟩:=aJ (l:=b) (i:=i) Ω;have M:=iJ J (H i _ (k5 s));have N:=iJ J (K i _ (k5 f));rw[e8 an.u ah.i r G,U1,ax Ψ M,e8 an.u ah.i (E▸r) I,U1,ax Ψ N];simp only[bC,al,aN];refine⟨λC=>⟨?_,J⟩,λai=>⟨⟨J,i+1,?_,Ω,vA q s f Ω⟩,?_⟩⟩
   .rw[decide_eq_false];rintro rfl;rw[s]at f;cases f;exact C rfl
   .rw[wrap_i64 Ω (by simp only[maxLen]at B;omega)];rfl
   .rw[wrap_i64 Ω (by simp only[maxLen]at B;omega)];simp only[bS];omega
  .have O:i=e:=Ω
   subst O;rw[decide_eq_true];rw[b6 Ω,b6 Ω]at q;exact q
theorem JA{s:x1}{a:Λ}(h1:cg w 1 s n (ints .i64 a))(B:n<=1000000):
  am x7 zC [s] w λv w'=>Ext w w'/\∃g,w.heap.size<=g/\bV w' g ah 1 v n (ints .i64 a):=by
 have f:=h1;obtain⟨p,C,E,G,H,rfl,I,K,q,L⟩:=h1;refine az func159 ?_;simp only[oX an.u,b2];refine⟨λe=>⟨Ext.refl _,w.heap.size,o4 _,?_⟩,λ_=>?_⟩
 .have:n=0:=by
   rcases Q0 n with h|h
   .exact h
   .rw[q h]at e;cases e
  subst this;have:ints .i64 a=[]:=j6 (by simpa using p);rw[this];exact bV.nil _ _ _ _
 .refine kq an.u ah.i Ω (cs:=#[]) Ψ ?_;intro g V M J x;refine nJ (g:=g) an.u an.u ah.i rfl (bV.full x rfl Ω) (f.ext J) (qi _ _) Ω (by simp only[maxLen];omega) ?_;intro N y aa O z A;refine⟨J.then A (by rintro r P rfl;omega),y,?_,?_⟩
  .have:=J.size;omega
  .simpa using z
theorem JB{e:Nat}{a b:Λ}(h1:cg w 1 s1 e (ints .i64 a))(A:cg w 1 z h (ints .i64 b)):
  am x7 zl [s1,z] w λv w'=>v= .bool (decide (a=b))/\Ext w w':=by
 have P:a.length=e:=by simpa using h1.1
 have Q:b.length=h:=by simpa using A.1
 have B:=h1.le;obtain⟨_,R,S,U,W,rfl,X,Y,G,H⟩:=h1;obtain⟨_,Z,ab,ac,ad,rfl,ae,af,I,K⟩:=A;refine az func17 ?_;simp only[hs ay.u,bC,al];refine⟨λC=>⟨?_,Ext.refl _⟩,λE=>?_⟩
 .rw[decide_eq_false];rintro rfl;omega
 .have E:e=h:=Ω
  refine⟨λt4 p V=>Ext w V/\∃i:Nat,p=Δ i/\i<=e/\a.take i=b.take i,λ_ p _=>e-(bS p).toNat,⟨Ext.refl _,0,rfl,X4 _,rfl⟩,?_⟩;rintro t4 _ V ⟨J,i,rfl,hi,q⟩;simp only[aR,al,ej];refine⟨λr aa L _ _=>?_,λag=>⟨?_,J⟩⟩
  .have r:i<e:=Ω
   have J:=J.trans L;obtain⟨x,s⟩:=aJ (l:=a) (i:=i) Ω;obtain⟨y,f⟩:=aJ (l:=b) (i:=i) Ω;have M:=iJ J (H i _ (k5 s));have N:=iJ J (K i _ (k5 f));rw[e8 ay.u au.i r G,U1,ax Ψ M,e8 ay.u au.i (E▸r) I,U1,ax Ψ N];simp only[bC,al,aN];refine⟨λC=>⟨?_,J⟩,λah=>⟨⟨J,i+1,?_,Ω,vA q s f Ω⟩,?_⟩⟩
   .rw[decide_eq_false];rintro rfl;rw[s]at f;cases f;exact C rfl
   .rw[wrap_i64 Ω (by simp only[maxLen]at B;omega)];rfl
   .rw[wrap_i64 Ω (by simp only[maxLen]at B;omega)];simp only[bS];omega
  .have O:i=e:=Ω
   subst O;rw[decide_eq_true];rw[b6 Ω,b6 Ω]at q;exact q
theorem JC{s:x1}{a:Λ}(h1:cg w 1 s n (ints .i64 a))(B:n<=1000000):
  am x7 zI [s] w λv w'=>Ext w w'/\∃g,w.heap.size<=g/\bV w' g au 1 v n (ints .i64 a):=by
 have f:=h1;obtain⟨p,C,E,G,H,rfl,I,K,q,L⟩:=h1;refine az func208 ?_;simp only[oX ay.u,b2];refine⟨λe=>⟨Ext.refl _,w.heap.size,o4 _,?_⟩,λ_=>?_⟩
 .have:n=0:=by
   rcases Q0 n with h|h
   .exact h
   .rw[q h]at e;cases e
  subst this;have:ints .i64 a=[]:=j6 (by simpa using p);rw[this];exact bV.nil _ _ _ _
 .refine kq ay.u au.i Ω (cs:=#[]) Ψ ?_;intro g V M J x;refine nJ (g:=g) ay.u ay.u au.i rfl (bV.full x rfl Ω) (f.ext J) (qi _ _) Ω (by simp only[maxLen];omega) ?_;intro N y aa O z A;refine⟨J.then A (by rintro r P rfl;omega),y,?_,?_⟩
  .have:=J.size;omega
  .simpa using z
theorem JD{e:x1}{a b:Λ}(h1:aI .i64 w s1 a)(f:aI .i64 w e b):
  am x7 zG [s1,e] w λv w'=>v= .bool (decide (a=b))/\Ext w w':=Jz h1 f
theorem ku{s:x1}{a:Λ}(h1:aI .i64 w s a)(e:a.length<=1000000):
  am x7 zC [s] w λv w'=>Ext w w'/\∃g,w.heap.size<=g/\av .i64 ah w' g v a:=JA h1 e
theorem JE{e:x1}{a b:Λ}(h1:aI .i64 w s1 a)(f:aI .i64 w e b):
  am x7 zl [s1,e] w λv w'=>v= .bool (decide (a=b))/\Ext w w':=JB h1 f
theorem vD{s:x1}{a:Λ}(h1:aI .i64 w s a)(e:a.length<=1000000):
  am x7 zI [s] w λv w'=>Ext w w'/\∃g,w.heap.size<=g/\av .i64 au w' g v a:=JC h1 e
theorem JF{n:Int}(h:aI .i64 w sv l)(U:b3 l)(y:0<=n)(X:n<aO l):
  am x7 Hk [.agg #[sv],Δ n] w λv w'=>Ext w w'/\∃aK g,v= .tuple #[aK,Δ 0]/\w.heap.size<=g/\av .i64 ah w' g aK (cQ l n):=by
 have Y:=U.1;have Z:=prod_bound U;refine az func101 ?_;refine bf λg w0 ab z a=>?_;have ac:=h.cells;simp only[cu,aR,al];refine⟨λad=>Ω,λ_=>?_⟩;rw[bP bB.p bB.i rfl a.range];refine(o1 (h.ext z) U).mono ?_;rintro _ V _ ⟨rfl,f⟩;simp only[cM,al];refine⟨λae=>Ω,λ_=>?_⟩;have q:=z.trans f;rw[aT bB.p 0 (a.ext f) rfl,aX an.u (h.ext q)];refine jN an.u ah.i Ω Ω ?_;intro G aa ag A K;simp only[hs an.u];have L:=q.trans A;have s0:=z.size;have s1:=f.size;have ai:=a.lt;refine⟨λt s=>Ext w s/\Ext w0 s/\∃i:Nat,t=Δ i/\i<=l.length/\af s G ah (ints .i64 ((cQ l n).take i++p8 (l.length-i) 0)),λt _=>l.length-(bS t).toNat,
  ⟨L,f.trans A,0,rfl,X4 _,by simpa using K⟩,?_⟩
 rintro _ s ⟨B,C,i,rfl,hi,H⟩;simp only[aR,al];refine⟨λE=>?_,λaj=>?_⟩
 .have E:i<l.length:=Ω
  rw[bP bB.p bB.i rfl (a.ext C).range];refine(Jy (h.ext B) U E).mono ?_;rintro _ ak _ ⟨rfl,M⟩;simp only[ej];intro ao N _ _;have x:=M.trans N;have I:=B.trans x;obtain⟨k,hk⟩:∃k,l[i]?=σ k:=⟨l[i],x6 Ω⟩;have ap:=U.2 k (x5 hk);have aq:=prod_bound (U.drop (i+1));have O:0<=n / aO (l.drop (i+1)):=Int.ediv_nonneg y Ω;have au:n / aO (l.drop (i+1))<=n:=Int.ediv_le_self _ y;rw[sw Ω,Int.tdiv_eq_ediv_of_nonneg y,wrap_i64 Ω Ω,
   aT bB.p 0 ((a.ext C).ext x) rfl,bg an.u ah.i Ψ (h.ext I) hk,
   sx Ω,Int.tmod_eq_emod_of_nonneg O,e8 an.u ah.i E (λ_=>rfl),U1]
  refine bl ah.i rfl rfl (H.ext x) (by simp[jp];omega) ?_;intro aw J ax P;simp only[aN];rw[wrap_i64 Ω Ω];have ay:=A.size;have aA:=q.size;refine⟨⟨I.then J (by rintro r Q rfl;omega),(C.trans x).then J (by rintro r Q rfl;omega),i+1,rfl,Ω,?_⟩,?_⟩
  .have R:=Ak (n:=n) hk;have e:(ints .i64 ((cQ l n).take i++p8 (l.length-i) 0)).set (0+i) (Δ (n / aO (l.drop (i+1)) % k))=ints .i64 ((cQ l n).take (i+1)++p8 (l.length-(i+1)) 0):=by
    have S:((cQ l n).take i).length=i:=by rw[n9,jp];omega
    rw[X2,ints,<-U4];congr 1;rw[List.set_append,if_neg Ω,S,U3,show l.length-i=(l.length-(i+1))+1 by omega,List.replicate_succ,List.set_cons_zero,u9,R];simp
   rw[<-e];exact P
  .simp only[bS];omega
 .have W:i=l.length:=Ω
  subst W;refine⟨B,_,G,rfl,by have:=q.size;omega,av.of (n:=l.length) (bV.full ?_ (by simp[ints,jp]) (by simp[maxLen];omega))⟩;have e:(cQ l n).take l.length++p8 (l.length-l.length) 0=cQ l n:=by rw[U3,b6 (by rw[jp];omega)];simp
  rw[<-e];exact H
def ih(x:Int):Prop:=1<=x/\x<=32
instance (x:Int):Decidable (ih x):=by unfold ih;infer_instance
theorem JG{x:Int}:am x7 sn [Δ x] w λv w'=>v= .bool (decide (¬ih x))/\Ext w w':=by
 refine az func290 ?_;simp only[cu,aR,bL,al];refine⟨λh=>⟨?_,Ext.refl _⟩,λh=>⟨?_,Ext.refl _⟩⟩
 .rw[decide_eq_true];intro a;have:=a.1;omega
 .congr 1;have:(32<x)=(¬ih x):=propext ⟨λe a=>by have:=a.2;omega,λe=>by
   by_cases f:32<x
   .exact f
   .exact absurd ⟨Ω,Ω⟩ e⟩
  simp only[this]
theorem JH(h:aI .i64 w sv l):
  am x7 vm [sv,.func (.func sn) #[] #[]] w λv w'=>Ext w w'/\∃n:Int,v=Δ n/\((0<=n)=¬∀x∈l,ih x):=by
 have z:=h.le;refine az func133 ?_;rw[aX an.u h];refine⟨λ_ t V=>Ext w V/\∃i:Nat,t=Δ i/\i<=l.length/\∀x∈l.take i,ih x,λ_ t _=>l.length-(bS t).toNat,⟨Ext.refl _,0,rfl,X4 _,Ξ⟩,?_⟩;rintro _ _ V ⟨J,i,rfl,hi,e⟩;simp only[aR,al];refine⟨λA=>?_,λB=>⟨J,-1,rfl,?_⟩⟩
 .obtain⟨x,f⟩:=aJ (l:=l) (i:=i) Ω;rw[bg an.u ah.i Ψ (h.ext J) f];show am x7 sn [Δ x] V _;refine JG.mono ?_;rintro _ aa _ ⟨rfl,p⟩;simp only[al,aN];refine⟨λq=>⟨J.trans p,i,rfl,?_⟩,λr=>?_⟩
  .exact propext ⟨λ_ s=>q (s x (x5 f)),λ_=>Ω⟩
  .rw[wrap_i64 Ω Ω];refine⟨⟨J.trans p,i+1,rfl,Ω,λy a=>?_⟩,?_⟩
   .rw[u9,f]at a;rcases o5.1 a with a|a
    .exact e y a
    .simp at a;subst a;exact Z9.1 r
   .simp only[bS];omega
 .have:i=l.length:=Ω
  rw[this,o7]at e;exact propext ⟨λh=>Ω,λh=>absurd e h⟩
theorem JI(h:aI .i64 w sv l):
  am x7 vp [sv,.func (.func sn) #[] #[]] w λv w'=>v= .bool (decide (¬∀x∈l,ih x))/\Ext w w':=by
 refine az func235 ?_;refine(JH h).mono ?_;rintro _ V _ ⟨J,n,rfl,a⟩;simp only[cM];exact⟨by congr 1;simp only[a],J⟩
def JJ(w:x3)(l:Λ)(v:x1)(w':x3):Prop:=
 Ext w w'/\
   (¬b3 l->v= .tuple #[.agg #[.slice ν 0 0],Δ 1])/\
   (b3 l->4096<aO l->v= .tuple #[.agg #[.slice ν 0 0],Δ 5])/\
   (b3 l->aO l<=4096->∃g aK,v= .tuple #[.agg #[aK],Δ 0]/\w.heap.size<=g/\av .i64 ah w' g aK l)
theorem JK(h:aI .i64 w sv l):am x7 IS [sv] w (JJ w l):=by
 refine az func257 ?_;refine bx bB.i λY V aw a s=>?_;have ax:=s.lt;refine aV (λv aa=>Ext w aa/\Ext V aa/\∃c:Bool,v= .bool c/\((c=true)=¬b3 l)) ?_ ?_
 .rintro _ aa ⟨J,x,c,rfl,H⟩;simp only[b2];refine⟨λZ=>?_,λag=>?_⟩
  .have I:¬b3 l:=by rw[<-H];exact Z
   rw[cW (cs:=#[.slice ν 0 0]) Ψ];refine ci (vs:=[.slice ν 0 0]) bB.i rfl rfl (by simp;rfl) (s.ext x) ?_;intro ay ac aB ad;rw[fJ bB.p bB.i rfl ad.range];exact⟨J.then ac (by rintro r y rfl;omega),λ_=>rfl,λh=>absurd h I,λh=>absurd h I⟩
  .have e:b3 l:=by
    have K:¬(c=true):=by simp[ag]
    rw[H]at K;exact Classical.not_not.1 K
   have aC:=e.1;refine(ku (h.ext J) Ω).mono ?_;rintro aK L _ ⟨z,M,aD,hm⟩;have N:=hm.ls.cells;rw[cW (cs:=#[aK]) (by obtain⟨_,_,_,_,_,rfl,_⟩:=hm.ls;kernel_rfl)];refine bx bB.i λgs aE aF A ae=>?_;refine ci (vs:=[aK]) bB.i rfl rfl (by intro u hu;simp at hu;subst hu;exact N.2) ae ?_;intro B O aG P;rw[bP bB.p bB.i rfl P.range];have aH:=z.size;have aJ:=A.size;have aL:=x.size;have aM:ai (λr=>r=gs) L B:=(A.ab _).trans O;have C:Ext L B:=A.then O (by rintro r y rfl;omega);have aj:=(J.trans z).trans C;have Q:av .i64 ah B M aK l:=hm.ext C;refine(o1 Q.ls e).mono ?_;rintro _ ak _ ⟨rfl,f⟩;have R:=aj.trans f;have S:af ak Y bB [.slice ν 0 0]:=s.ext (((x.trans z).trans C).trans f);simp only[bL,al];refine⟨λao=>?_,λap=>?_⟩
   .rw[cW (cs:=#[.slice ν 0 0]) Ψ];refine ci (vs:=[.slice ν 0 0]) bB.i rfl rfl (by simp;rfl) S ?_;intro aq q au E;rw[fJ bB.p bB.i rfl E.range];exact⟨R.then q (by rintro r y rfl;omega),λh=>absurd e h,λ_ _=>rfl,λ_ h=>Ω⟩
   .rw[bP bB.p bB.i rfl (P.ext f).range];refine ci (vs:=[aK]) bB.i rfl rfl (by intro u hu;simp at hu;subst hu;exact N.2) S ?_;intro aq q au E;rw[fJ bB.p bB.i rfl E.range];have aN:=a.size;exact⟨R.then q (by rintro r y rfl;omega),λh=>absurd e h,λ_ h=>Ω,λ_ _=>⟨M,aK,rfl,Ω,(Q.ext f).ab q Ω⟩⟩
 .intro aA W;rw[aX an.u (h.ext a)];simp only[bL,al];refine⟨λao=>W _ _ ⟨a,Ext.refl _,true,rfl,?_⟩,λap=>?_⟩
  .exact propext ⟨λ_ U=>by have:=U.1;omega,λ_=>rfl⟩
  .refine (JI (h.ext a)).mono ?_;rintro _ aa _ ⟨rfl,X⟩;refine W _ _ ⟨a.trans X,X,_,rfl,?_⟩;rw[decide_eq_true_eq];exact propext ⟨λG U=>G U.2,λG U=>G ⟨Ω,U⟩⟩
theorem vE{P:W5}(f:0<=a)(h1:a<4294967296):
  ac P (aM .and t cx cy (.int .u64 a) (.int .u64 4294967295)) w K=K (.int .u64 a):=ac.of λw' _=>by
 obtain⟨n,rfl⟩:=U8 f;have r:n<4294967296:=Ω
 have e:(U9 64 (n:Int) &&& U9 64 4294967295).toNat=n:=by
  rw[BitVec.toNat_and,BitVec.toNat_ofInt,BitVec.toNat_ofInt];have h:((n:Int) % ((2 ^ 64:Nat):Int)).toNat=n:=Ω
  have p:((4294967295:Int) % ((2 ^ 64:Nat):Int)).toNat=2 ^ 32-1:=Φ
  rw[h,p,Nat.and_two_pow_sub_one_eq_mod];omega
 have q:(U9 U5.bits (n:Int) &&& U9 U5.bits 4294967295).toNat=n:=e;simp only[aM,eqGuard,binOp,Op.intBits,q];rw[wrap_u64 Ω Ω];rfl
theorem qm{P:W5}(f:0<=a)(h1:a<4294967296):
  ac P (aM .shr t cx cy (.int .u64 a) (.int .u64 32)) w K=K (.int .u64 0):=ac.of λw' _=>by
 have e:a.fdiv (2 ^ min 32 U5.bits)=0:=by
  have:(2:Int) ^ min 32 U5.bits=4294967296:=rfl;rw[this,Int.fdiv_eq_ediv_of_nonneg _ Ω];omega
 simp[aM,eqGuard,binOp,Op.shift,e]
theorem JL{x:Int}(J:0<=x/\x<65536)(e:0<=y/\y<65536):
  am x7 I9 [.int .u64 x,.int .u64 y] w λv w'=>v= .tuple #[.int .u64 0,.int .u64 (x*y)]/\Ext w w':=by
 have h:0<=x*y/\x*y<4294967296:=⟨Int.mul_nonneg J.1 e.1,by
  have:x*y<=65535*65535:=Int.mul_le_mul Ω Ω e.1 Ω;omega⟩
 refine az func291 ?_;refine am.mono (K:=λv w'=>v= .tuple #[.int .u64 0,.int .u64 (x*y)]/\Ext w w') ?_ ?_
 .refine az func304 ?_;rw[vE Ω Ω,qm Ω Ω,vE Ω Ω,qm Ω Ω];simp only[hU,Int.zero_mul,Int.mul_zero];rw[wrap_u64 (x:=x*y) Ω Ω,show U5.wrap 0=0 from rfl,qm (a:=x*y) Ω Ω];simp only[aN,Int.add_zero];rw[show U5.wrap 0=0 from rfl,vE Ω Ω,qm Ω Ω];simp only[hU,aN,Int.zero_mul,Int.mul_zero,Int.add_zero,show U5.wrap 0=0 from rfl];rw[qm Ω Ω];simp only[hU,aN,Int.add_zero,show U5.wrap 0=0 from rfl];exact⟨trivial,Ext.refl _⟩
 .rintro _ V _ ⟨rfl,f⟩;rw[bm,bn];exact⟨rfl,f⟩
theorem An{fa:x1}{c:Int}(h:aI .i64 w fa [c])(X:n<65536):
  am x7 IT [fa,Δ n] w λv w'=>Ext w w'/\∃g,w.heap.size<=g/\av .i64 au w' g v (p8 n c):=by
 refine az func258 ?_;refine da (λV=>w=V) ?_ ?_
 .rintro _ rfl;rw[aX ay.u h,fh ah.u oU.u,fh ah.u oU.u,wrap_u64 Ξ Ξ,wrap_u64 Ω Ω];refine(JL (x:=([c].length:Int)) Ξ Ω).mono ?_;rintro _ aa _ ⟨rfl,z⟩;rw[bm,bn];have E:(([c].length:Int)*n)=(n:Int):=Ξ
  rw[E];refine da (λa=>aa=a) ?_ ?_
  .rintro _ rfl;rw[fh oU.u ah.u,wrap_i64 Ω Ω];refine jN ay.u au.i Ω Ω ?_;intro g Y Z G H;have J:=z.trans G;have ab:=z.size;refine z7 ay.u au.i H (o:=0) (λ_=>rfl) Ξ (h.ext J) (qi _ _) ?_;intro ac I ad A;have K:=J.then I (by rintro r L rfl;omega);have st:over (ints .i64 (p8 n 0)) 0 ((ints .i64 [c]).take n)=ints .i64 (p8 (min 1 n) c++p8 (n-min 1 n) 0):=by
    rcases Q0 n with rfl|e
    .simp[over]
    .rw[b6 Θ,mF Θ];have:min 1 n=1:=Ω
     simp[this,ints]
   rw[st]at A;refine⟨λt f=>Ext w f/\∃i:Nat,t=Δ i/\i<=n/\(0<n->0<i)/\af f g au (ints .i64 (p8 i c++p8 (n-i) 0)),λt _=>n-(bS t).toNat,
    ⟨K,min 1 n,Ξ,Ω,Ω,A⟩,?_⟩
   rintro _ f ⟨p,i,rfl,hi,ae,q⟩;simp only[hs ay.u,aR,al,ej];refine⟨λM N s _ _=>?_,λag=>?_⟩
   .have M:i<n:=Ω
    have B:=q.ext s;rw[gV ay.u au.i (l:=i) (h:=n) (m:=n) oY jj e9 Ω Ω Ω,
     gV ay.u au.i (l:=0) (h:=i) (m:=n) ji oZ e9 Ω Ω Ω]
    have O:cg N 1 (.slice (σ ⟨g,0,ν⟩) n n) n (ints .i64 (p8 i c++p8 (n-i) 0)):=(bV.full B (by simp<;>omega) (by simp[maxLen]<;>omega)).sl;have e:=O.part (l:=0) (h:=i) (m:=n) Ω Ω Ω Ω;have P:((ints .i64 (p8 i c++p8 (n-i) 0)).drop (0*1)).take ((i-0)*1)=ints .i64 (p8 i c):=by
     simp[ints]
    rw[P]at e;refine z7 ay.u au.i B (o:=i) (λ_=>?_) (by simp<;>omega) e (qi _ _) ?_
    .rw[if_neg Ω];simp[U7]
    .intro ai Q aj C;have ak:=p.size;have an:=s.size;have R:over (ints .i64 (p8 i c++p8 (n-i) 0)) i ((ints .i64 (p8 i c)).take (n-i))=ints .i64 (p8 (i+min i (n-i)) c++p8 (n-(i+min i (n-i))) 0):=by
      apply Y3;intro j;rw[mE _ _ _ (by simp[ints]<;>omega)];simp only[ints,Z4,List.map_replicate,List.getElem?_append,List.getElem?_take,List.getElem?_replicate,n9,List.length_replicate]
      repeat' split
      all_goals first|rfl|omega
     rw[R]at C;have S:min (i-0) (n-i)=min i (n-i):=Ω
     simp only[aN,S];have U:X5.wrap ((i:Int)+((min i (n-i):Nat):Int))=((i+min i (n-i):Nat):Int):=by rw[wrap_i64 Ω Ω];omega
     rw[U];refine⟨⟨(p.trans s).then Q (by rintro r L rfl;omega),_,rfl,Ω,Ω,C⟩,?_⟩;simp only[bS,u7];omega
   .have:i=n:=Ω
    subst this;rw[U3,List.replicate_zero,W8]at q;exact⟨p,g,Ω,av.of (n:=i) (bV.full q Ξ (by simp[maxLen];omega))⟩
  .intro aA y;refine aV (λv a=>v= .bool false/\aa=a) ?_ ?_
   .rintro _ _ ⟨rfl,rfl⟩;rw[a1];exact y _ rfl
   .intro ao W;simp only[bL,al];refine⟨λh=>Ω,λ_=>W _ _ ⟨?_,rfl⟩⟩;rw[decide_eq_false];omega
 .intro aA y;simp only[aR,al];exact⟨λh=>Ω,λ_=>y _ rfl⟩
def leads(v:x1)(r:Nat):Prop:=∃a n c,v= .slice (σ a) n c/\a.block=r
theorem bQ{g:Nat}(h:av k e w g v l){r:Nat}(f:leads v r):r=g/\g<w.heap.size:=by
 obtain⟨a,n,c,rfl,rfl⟩:=f;obtain⟨_,⟨h,_⟩|⟨cap,cs,h,p,_⟩⟩:=h
 .cases h
 .cases h;exact⟨rfl,p.lt⟩
theorem bu{g:Nat}(h:av k e w g v l)(J:ai S w w')(a:∀r,leads v r->¬S r):av k e w' g v l:=by
 refine⟨h.1,h.2.imp id λ⟨cap,cs,h1,f,p⟩=>⟨cap,cs,h1,f.ab J (a g ⟨_,_,_,h1,rfl⟩),p⟩⟩
def df(w:x3)(g a:Nat)(sv:x1)(ak:Λ)(k:Int)(cs:Λ):Prop:=
 (∃a6 gs,af w g cV [sv,Δ k,a6]/\av .i64 ah w gs sv ak/\av .i64 au w a a6 cs)/\(g≠a/\¬leads sv a/\aO ak<=4096)/\b3 ak/\cs.length=(aO ak).toNat
theorem df.ext{g a:Nat}{k:Int}{cs:Λ}(h:df w g a sv ak k cs)(J:Ext w w'):df w' g a sv ak k cs:=by
 obtain⟨⟨a6,gs,h1,e,f⟩,p⟩:=h;exact⟨⟨a6,gs,h1.ext J,e.ext J,f.ext J⟩,p⟩
def Ao(w:x3)(l:Λ)(k a:Int)(v:x1)(w':x3):Prop:=
 Ext w w'/\
  (¬b3 l->v= .tuple #[.pointer ν,Δ 1])/\
  (b3 l->4096<aO l->v= .tuple #[.pointer ν,Δ 5])/\
  (b3 l->aO l<=4096->¬cq a k->v= .tuple #[.pointer ν,Δ 3])/\
  (b3 l->aO l<=4096->cq a k->∃g e sv,v= .tuple #[Γ g,Δ 0]/\w.heap.size<=g/\w.heap.size<=e/\(∀r,leads sv r->w.heap.size<=r)/\
   df w' g e sv l k (p8 (aO l).toNat a))
theorem vF{k B:Int}(h:aI .i64 w sv l):am x7 Im [sv,Δ k,Δ B] w (Ao w l k B):=by
 refine az func205 ?_;refine(JK h).mono ?_;rintro v V _ ⟨K,Y,Z,ab⟩;obtain⟨aK,e,rfl,ad,he⟩:∃(aK:x1)(e:Int),v= .tuple #[.agg #[aK],Δ e]/\aK.oneCell'=true/\
   ((e=1/\¬b3 l)\/(e=5/\b3 l/\4096<aO l)\/(e=0/\b3 l/\aO l<=4096/\∃g,w.heap.size<=g/\av .i64 ah V g aK l)):=by
  by_cases U:b3 l
  .by_cases A:aO l<=4096
   .obtain⟨g,aK,rfl,h1,L⟩:=ab U A;exact⟨aK,0,rfl,L.ls.cells.2,.inr (.inr ⟨rfl,U,A,g,h1,L⟩)⟩
   .exact⟨_,_,Z U Ω,rfl,.inr (.inl ⟨rfl,U,Ω⟩)⟩
  .exact⟨_,_,Y U,rfl,.inl ⟨rfl,U⟩⟩
 rw[bm,bn];refine bx bB.i λaP aa aQ ae af=>?_;refine ci (vs:=[aK]) bB.i rfl rfl (by intro u hu;simp at hu;subst hu;exact ad) af ?_;intro ai aj aR ak;have M:Ext V ai:=ae.then aj (by rintro r q rfl;omega);have N:=K.trans M;simp only[bC,al];refine⟨λan=>⟨N,?_⟩,λaS=>?_⟩
 .rcases he with⟨rfl,C⟩|⟨rfl,U,A⟩|⟨rfl,_⟩
  .exact⟨λ_=>rfl,λh=>absurd h C,λh=>absurd h C,λh=>absurd h C⟩
  .exact⟨λh=>absurd U h,λ_ _=>rfl,λ_ h=>Ω,λ_ h=>Ω⟩
  .exact absurd rfl an
 .obtain⟨rfl,U,A,gs,aT,hm⟩:e=0/\b3 l/\aO l<=4096/\∃g,w.heap.size<=g/\av .i64 ah V g aK l:=by
   rcases he with⟨rfl,C⟩|⟨rfl,U,A⟩|h
   .omega
   .omega
   .exact h
  have aU:=prod_bound U;refine jP.mono ?_;rintro _ aV _ ⟨rfl,G⟩;have O:=N.trans G;simp only[bH,b2];refine⟨λag=>⟨O,λh=>absurd U h,λ_ h=>Ω,λ_ _ _=>rfl,λ_ _ h=>by simp[h]at ag⟩,λap=>?_⟩;have aq:cq B k:=by simpa using ap
  simp only[cu,ej];intro P H _ _;have aw:=O.trans H;have E:=(M.trans G).trans H;have Q:=(ak.ext G).ext H;rw[bP bB.p bB.i rfl Q.range,bP bB.p bB.i rfl Q.range];have s1:=K.size;have aW:=E.size;have R:((aO l).toNat:Int)=aO l:=Ω
  have S:∀{y:x3}{x:x1}{z:Nat},Ext P y->P.heap.size<=z->av .i64 au y z x (p8 (aO l).toNat B)->
    ac x7 (Instr.build cV #[(0,.agg #[aK]),(1,Δ k),(2,x)]) y λax=>aD x7 (Instr.box cV ax) y λaA W=>Ao w l k B (.tuple #[aA,Δ 0]) W:=by
   intro y x z s X q;rw[cW (cs:=#[aK,Δ k,x]) (by
    obtain⟨_,_,_,_,_,rfl,_⟩:=q.ls;obtain⟨_,_,_,_,_,rfl,_⟩:=hm.ls;kernel_rfl)]
   refine bf λg W aX I aB=>?_;have aY:=s.size;have aC:leads x z:=by
    obtain⟨aZ,⟨_,aE⟩|⟨cap,cs,rfl,_⟩⟩:=q
    .simp at aE;omega
    .exact⟨_,_,_,rfl,rfl⟩
   have a1:=(bQ q aC).2;refine⟨(aw.trans s).trans I,λh=>absurd U h,λ_ h=>Ω,λ_ _ h=>absurd aq h,λ_ _ _=>⟨g,z,aK,rfl,Ω,Ω,λr aF=>?_,⟨x,gs,aB,((hm.ext E).ext s).ext I,q.ext I⟩,⟨Ω,λaG=>?_,A⟩,U,Ξ⟩⟩
   .have:=(bQ hm aF).1;omega
   .have:=bQ hm aG;omega
  constructor
  .refine et ay.u au.i rfl λfa ao aH aJ a J=>⟨.inl a,?_⟩;refine(o1 ((hm.ext E).ext a).ls U).mono ?_;rintro _ aL _ ⟨rfl,f⟩;refine⟨.inl (a.trans f),?_⟩;rw[<-R];refine(An (J.ext f).ls Ω).mono ?_;rintro x y _ ⟨s,z,X,q⟩;have aM:=a.size;have aN:=f.size;exact⟨.inl ((a.trans f).trans s),S ((a.trans f).trans s) Ω q⟩
  .refine (o1 (hm.ext E).ls U).mono ?_;rintro _ aH _ ⟨rfl,a⟩;refine⟨.inl a,?_⟩;refine et ay.u au.i rfl λfa ao aL aJ f J=>⟨.inl (a.trans f),?_⟩;rw[<-R];refine(An J.ls Ω).mono ?_;rintro x y _ ⟨s,z,X,q⟩;have aM:=a.size;have aN:=f.size;exact⟨.inl ((a.trans f).trans s),S ((a.trans f).trans s) Ω q⟩
theorem nP{g:Nat}{a:List x1}{o:Nat}(h:af w g e cs)(f:∀j v,a[j]?=σ v->cs[o+j]?=σ v):w.rangeAt g o a:=λj v ad=>h.cell (f j v ad)
theorem Ap{g a:Nat}{t:Λ}{k:Int}{cs:Λ}(h:df w g a sv ak k cs)(e:aI .i64 w aK t):
  am x7 IX [Γ g,aK] w λv w'=>v=k7 ak t/\Ext w w':=by
 obtain⟨⟨a6,gs,f,hm,q⟩,_,U,_⟩:=h;refine az func263 ?_;rw[de eO.u];simp only[Z5,a1];rw[bU,aU cV.p rfl,bP (cs:=[sv]) bB.p bB.i rfl (nP f (by
  intro j v ad
  match j,ad with
  |0,ad=>exact ad))]
 refine(Am hm.ls e U).mono ?_;rintro _ V _ ⟨rfl,J⟩;unfold k7;cases cH ak t 0 with
 |none=>rw[bm,bn];exact⟨rfl,J⟩
 |some n=>rw[bm,bn];exact⟨rfl,J⟩
def o2(ak t cs:Λ):x1:=match cH ak t 0 with
 |some n=>.tuple #[Δ (cs.getD n.toNat 0),Δ 0]
 |none=>.tuple #[Δ 0,Δ 3]
theorem Aq{t cs:Λ}{n:Int}(U:b3 ak)(a:cs.length=(aO ak).toNat)(h:cH ak t 0=σ n):n=(n.toNat:Int)/\n.toNat<cs.length:=by
 have:=nO U.2 h;simp only[Int.zero_mul,Int.zero_add,Int.one_mul]at this;omega
theorem vG{g e:Nat}{t:Λ}{k:Int}{cs:Λ}(h:df w g e sv ak k cs)(f:aI .i64 w aK t):
  am x7 IQ [Γ g,aK] w λv w'=>v=o2 ak t cs/\Ext w w':=by
 refine az func250 ?_;refine(Ap h f).mono ?_;rintro _ V _ ⟨rfl,J⟩;obtain⟨⟨a6,gs,q,hm,r⟩,_,U,s⟩:=h.ext J;unfold k7 o2;cases hi:cH ak t 0 with
 |none=>
  rw[bm,bn];simp only[bC,al];exact⟨λ_=>⟨trivial,J⟩,λh=>by simp at h⟩
 |some n=>
  obtain⟨x,a⟩:=Aq U s hi;rw[bm,bn];simp only[bC,al];refine⟨λh=>absurd rfl h,λ_=>?_⟩;rw[aS cV.p 2 q rfl,
   fY x ay.u au.i Ψ r.ls (x6 a)]
  refine⟨?_,J⟩;rw[u4,x6 a];rfl
def sF(ak t:Λ)(k c:Int)(cs:Λ):Λ:=match cH ak t 0 with
 |some n=>if cq c k then cs.set n.toNat c else cs
 |none=>cs
def Ar(ak t:Λ)(k c:Int):Int:=match cH ak t 0 with
 |some _=>if cq c k then 0 else 3
 |none=>3
theorem JM{g e:Nat}{t:Λ}{k c:Int}{cs:Λ}(h:df w g e sv ak k cs)(C:aI .i64 w aK t):
  am x7 Io [Γ g,aK,Δ c] w λv w'=>v=Δ (Ar ak t k c)/\ai (λr=>r=e) w w'/\df w' g e sv ak k (sF ak t k c cs):=by
 refine az func207 ?_;refine(Ap h C).mono ?_;rintro _ V _ ⟨rfl,J⟩;have h1:=h.ext J;obtain⟨⟨a6,gs,a,hm,f⟩,_,U,q⟩:=h1;unfold k7 Ar sF;cases hi:cH ak t 0 with
 |none=>
  rw[bm,bn];simp only[bC,al];exact⟨λ_=>⟨trivial,J.ab _,h.ext J⟩,λh=>by simp at h⟩
 |some n=>
  obtain⟨O,P⟩:=Aq U q hi;rw[bm,bn];simp only[bC,al];refine⟨λh=>absurd rfl h,λ_=>?_⟩;rw[aS cV.p 1 a rfl];refine jP.mono ?_;rintro _ aa _ ⟨rfl,s⟩;have y:=(h.ext J).ext s;by_cases z:cq c k
  .simp only[z,decide_true,bH,X1,a1,if_true];obtain⟨⟨a6,gs,a,hm,f⟩,⟨E,A⟩,U,q⟩:=y;have Q:=f;obtain⟨R,⟨rfl,S⟩|⟨cap,full,rfl,G,H,I,K,B⟩⟩:=f
   .omega
   .rw[aS cV.p 2 a rfl,
     zZ (i:=n) ay.u au.i Ω Ω (λ_=>rfl)]
    refine bl au.i rfl rfl G Ω ?_;intro W x X L;refine⟨trivial,((J.trans s).ab _).trans x,⟨_,gs,a.ab x Ω,bu hm x (λr M N=>A.1 (N▸M)),?_⟩,⟨E,A⟩,U,by simp[q]⟩;refine⟨Ξ,.inr ⟨cap,full.set (0+n.toNat*1) (Δ c),?_,L,by simpa using H,I,by simpa using K,?_⟩⟩
    .simp
    .simp only[c9,X2,U1]at B ⊢;rw[List.take_set,B,ints,ints,U4]
  .simp only[z,decide_false,bH,W7,bR,if_false];exact⟨trivial,(J.trans s).ab _,y⟩
def cv(b:Int):Bool:=decide (b=32\/b=9\/b=10\/b=13)
def bN(b:Int):Bool:=decide (33<=b/\b<=126)
def nQ:Nat->Λ->List (Λ)×Bool
 |0,_=>([],true)
 |n+1,p=>
  match p.dropWhile cv with
  |[]=>([],true)
  |b::q=>
   if bN b then
    match(b::q).dropWhile bN with
    |[]=>([(b::q).takeWhile bN],true)
    |c::r=>if cv c then(((b::q).takeWhile bN)::(nQ n (c::r)).1,(nQ n (c::r)).2)else([],false)
   else([],false)
def lex(p:Λ):List (Λ)×Bool:=nQ (p.length+1) p
theorem o3(f:Int->Bool):∀(l:Λ),(l.dropWhile f).length<=l.length
 |[]=>o4 _
 |x::l=>by
  rw[List.dropWhile_cons];split
  .exact Y8 (o3 f l) (Nat.le_succ _)
  .exact o4 _
theorem sG{f:Int->Bool}{x:Int}(h:f x=true):((x::l).dropWhile f).length<=l.length:=by
 rw[List.dropWhile_cons,if_pos h];exact o3 f l
theorem As:∀{n m:Nat}{p:Λ},p.length<n->p.length<m->nQ n p=nQ m p
 |n+1,m+1,p,s,hm=>by
  unfold nQ;have h1:=o3 cv p;cases f:p.dropWhile cv with
  |nil=>rfl
  |cons b q=>
   rw[f]at h1;simp only;by_cases a:bN b=true
   .rw[if_pos a,if_pos a];have e:=sG (l:=q) a;cases h:(b::q).dropWhile bN with
    |nil=>rfl
    |cons c r=>
     rw[h]at e;simp only[c8]at h1 e;simp only;rw[As (n:=n) (m:=m) (p:=c::r) (by rw[c8];omega) (by rw[c8];omega)]
   .rw[if_neg a,if_neg a]
theorem kv(p:Λ):lex p=match p.dropWhile cv with
  |[]=>([],true)
  |b::q=>
   if bN b then
    match(b::q).dropWhile bN with
    |[]=>([(b::q).takeWhile bN],true)
    |c::r=>if cv c then(((b::q).takeWhile bN)::(lex (c::r)).1,(lex (c::r)).2)else([],false)
   else([],false):=by
 unfold lex
 conv=>lhs;unfold nQ
 have h1:=o3 cv p;cases f:p.dropWhile cv with
 |nil=>rfl
 |cons b q=>
  rw[f]at h1;simp only;by_cases a:bN b=true
  .rw[if_pos a,if_pos a];have e:=sG (l:=q) a;cases h:(b::q).dropWhile bN with
   |nil=>rfl
   |cons c r=>
    rw[h]at e;simp only[c8]at h1 e;simp only;rw[As (n:=p.length) (m:=(c::r).length+1) (p:=c::r) (by rw[c8];omega) Ω]
  .rw[if_neg a,if_neg a]
theorem pa:∀(n:Nat)(p:Λ),p.length<=n->(lex p).1.length<=p.length
 |n,p,w=>by
  rw[kv];have h1:=o3 cv p;cases h:p.dropWhile cv with
  |nil=>simp
  |cons b q=>
   rw[h]at h1;simp only;by_cases a:bN b=true
   .rw[if_pos a];have e:=sG (l:=q) a;cases s:(b::q).dropWhile bN with
    |nil=>simp only[c8,List.length_nil]at h1 ⊢;omega
    |cons c r=>
     rw[s]at e;simp only[c8]at h1 e;simp only;by_cases f:cv c=true
     .rw[if_pos f]
      match n with
      |0=>omega
      |n+1=>
       have:=pa n (c::r) (by rw[c8];omega);simp only[c8]at this ⊢;omega
     .rw[if_neg f];simp
   .rw[if_neg a];simp
theorem sH:∀(n:Nat)(p:Λ),p.length<=n->∀w∈(lex p).1,w≠[]/\(∀b∈w,bN b=true)/\w.length<=p.length
 |n,p,B,w,hw=>by
  rw[kv]at hw;have h1:=o3 cv p;cases e:p.dropWhile cv with
  |nil=>rw[e]at hw;simp at hw
  |cons b q=>
   rw[e]at h1 hw;simp only at hw;have A:(b::q).length<=p.length:=h1;by_cases a:bN b=true
   .rw[if_pos a]at hw;have f:=sG (l:=q) a;have s:(b::q).takeWhile bN≠[]/\(∀x∈(b::q).takeWhile bN,bN x=true)/\((b::q).takeWhile bN).length<=p.length:=
     ⟨by rw[List.takeWhile_cons,if_pos a];simp,λx J=>List.all_takeWhile (l:=b::q) (p:=bN) |> List.all_eq_true.1 |> λh=>h x J,Y8 (List.takeWhile_sublist _).length_le A⟩
    cases y:(b::q).dropWhile bN with
    |nil=>
     rw[y]at hw;simp only[o9]at hw;subst hw;exact s
    |cons c r=>
     rw[y]at f hw;simp only[c8]at h1 f;simp only at hw;by_cases z:cv c=true
     .rw[if_pos z]at hw;rcases V3.1 hw with rfl|hw
      .exact s
      .match n with
       |0=>omega
       |n+1=>
        have:=sH n (c::r) (by rw[c8];omega) w hw;exact⟨this.1,this.2.1,Y8 this.2.2 (by rw[c8];omega)⟩
     .rw[if_neg z]at hw;simp at hw
   .rw[if_neg a]at hw;simp at hw
def aw:Int:=4611686018427387904
def gv(b:Int):Bool:=decide (48<=b/\b<=57)
def eZ(n b:Int):Int:=min aw (10*n+(b-48))
def kw:Λ->Option Int
 |[]=>ν
 |l=>if l.all gv then σ (l.foldl eZ 0)else ν
def gw:Λ->Option Int
 |45::l=>(kw l).map λn=>-n
 |l=>kw l
theorem JN{n b:Int}(e:0<=n)(a:gv b=true):0<=eZ n b/\eZ n b<=aw:=by
 have a:=of_decide_eq_true a;unfold eZ aw;omega
theorem sI:∀{l:Λ}{n:Int},l.all gv=true->0<=n/\n<=aw->0<=l.foldl eZ n/\l.foldl eZ n<=aw
 |[],n,_,a=>a
 |b::l,n,h,a=>by
  rw[List.all_cons,V7]at h;exact sI (l:=l) h.2 (JN a.1 h.1)
structure aE where
 toks:List (Λ)
 told:Int
 big:Bool
 shared:List (Λ×List (Λ×Int))
deriving DecidableEq
def dI(s:aE):Option (Λ×aE):=match s.toks with
 |[]=>ν
 |w::l=>σ (w,{s with toks:=l})
def bd(lo hi:Int)(s:aE):Option (Int×aE):=match dI s with
 |none=>ν
 |some (w,s)=>match gw w with
  |none=>ν
  |some n=>if lo<=n/\n<=hi then σ (n,s)else ν
def ba(b:Bool)(s:aE):aE:={s with big:=s.big||b}
def cJ{α:Type}(f:List α->aE->Option (α×aE)):Nat->List α->aE->Option (List α×aE)
 |0,acc,s=>σ (acc,s)
 |n+1,acc,s=>match f acc s with
  |none=>ν
  |some (a,s)=>cJ f n (acc++[a]) s
def eP(n:Int)(a:Nat)(s:aE):Option (Λ×aE):=cJ (λacc s=>match bd 0 (n-1) s with
 |none=>ν
 |some (v,s)=>if v∈acc then ν else σ (v,s)) a [] s
def iL:Λ->Λ->aE->Option (Λ×aE)
 |[],acc,s=>σ (acc,s)
 |k::l,acc,s=>match bd 0 (k-1) s with
  |none=>ν
  |some (v,s)=>iL l (acc++[v]) s
def dP(sizes:Λ)(acc:List (Λ×Int))(s:aE):Option ((Λ×Int)×aE):=match iL sizes [] s with
 |none=>ν
 |some (t,s)=>match bd 0 aw s with
  |none=>ν
  |some (c,s)=>if t∈acc.map (·.1)then ν else σ ((t,c),s)
def dC(sizes:Λ)(s:aE):Option (List (Λ×Int)×aE):=match bd (-aw) aw s with
 |none=>ν
 |some (n,s)=>
  if n<0 then match s.shared[(-n-1).toNat]? with
   |none=>ν
   |some (z,l)=>if z=sizes then σ (l,s)else ν
  else cJ (dP sizes) n.toNat [] (ba (decide (16384<min (s.told+n) aw)) {s with told:=min (s.told+n) aw})
def dj(sizes:Λ):Bool:=decide (4096<aO (sizes.map λk=>min k 4097))
structure cj where
 scope:Λ
 sizes:Λ
 other:Int
 lines:List (Λ×Int)
deriving DecidableEq
def cX(all:Λ)(s:aE):Option (cj×aE):=match bd (-aw) aw s with
 |none=>ν
 |some (a,s)=>match eP all.length a.natAbs s with
  |none=>ν
  |some (scope,s)=>
   let sizes:=scope.map λv=>all.getD v.toNat 0
   match bd 0 aw (ba (decide (6<a.natAbs)||dj sizes) s)with
   |none=>ν
   |some (other,s)=>match dC sizes s with
    |none=>ν
    |some (lines,s)=>σ (⟨scope,sizes,other,lines⟩,if a<0 then{s with shared:=s.shared++[(sizes,lines)]}else s)
def fb(most:Int)(_:Λ)(s:aE):Option (Int×aE):=match bd 1 most s with
 |none=>ν
 |some (z,s)=>σ (z,ba (decide (32<z)) s)
structure bY where
 name:Λ
 k:Int
 sizes:Λ
 funs:List cj
deriving DecidableEq
def gX(s:aE):Option (bY×aE):=match dI s with
 |none=>ν
 |some (name,s)=>match bd 1 aw (ba (decide (64<name.length)) s)with
  |none=>ν
  |some (n,s)=>match bd 1 aw (ba (decide (64<n)) s)with
   |none=>ν
   |some (most,s)=>match bd 0 aw s with
    |none=>ν
    |some (a,s)=>match bd 1 aw (ba (decide (256<a)) s)with
     |none=>ν
     |some (k,s)=>match cJ (fb most) n.toNat [] (ba (decide (2147483648<k)) s)with
      |none=>ν
      |some (sizes,s)=>match cJ (λ_ s=>cX sizes s) a.toNat [] s with
       |none=>ν
       |some (funs,s)=>σ (⟨name,k,sizes,funs⟩,s)
def fj(p:Λ):Option bY:=if 65536<p.length then ν else match gX ⟨(lex p).1,0,false,[]⟩with
 |none=>ν
 |some (f,s)=>if s.toks=[]/\(lex p).2=true/\s.big=false then σ f else ν
def mJ(n:Int)(a:Bool)(v:Int):Prop:=0<=n/\n<=4611686018427387909/\(a=true->v=aw)/\(a=false->v=min aw n)
theorem JO{n b v:Int}{a:Bool}(h:mJ n a v)(r:48<=b/\b<=57):
  mJ (if a=true\/461168601842738790<n then n else 10*n+(b-48)) (a||decide (461168601842738790<n)) (eZ v b):=by
 obtain⟨h1,f,p,q⟩:=h;unfold eZ mJ aw at*;cases a with
 |true=>
  have:=p rfl;rw[if_pos (.inl rfl)];exact⟨h1,f,λ_=>Ω,λh=>by cases h⟩
 |false=>
  have:=q rfl;by_cases e:461168601842738790<n
  .rw[if_pos (.inr e),decide_eq_true e];exact⟨h1,f,λ_=>Ω,λh=>by cases h⟩
  .rw[if_neg (by simp[e]),decide_eq_false e];exact⟨Ω,Ω,(λh=>by cases h),λ_=>Ω⟩
theorem JP:mJ 0 false 0:=by unfold mJ aw;exact⟨Ω,Ω,(λh=>by cases h),λ_=>Ω⟩
theorem JQ{n v:Int}{a:Bool}(h:mJ n a v):v=if a=true\/4611686018427387904<n then 4611686018427387904 else n:=by
 obtain⟨h1,q,f,p⟩:=h;unfold aw at*;cases a with
 |true=>rw[if_pos (.inl rfl)];exact f rfl
 |false=>
  have:=p rfl;by_cases e:4611686018427387904<n
  .rw[if_pos (.inr e)];omega
  .rw[if_neg (by simp[e])];omega
structure Cell where
 v:Int
 st:Nat
structure k8 where
 i:Nat
 c:Cell
structure sJ where
 olds:Nat
 cells:Nat
 st:Nat
structure aC where
 cells:List Cell
 olds:List k8
 marks:List sJ
 ii:Nat
def aC.bT(t:aC):Λ:=t.cells.map (·.v)
def aC.set(t:aC)(i:Nat)(x:Int):aC:=match t.cells[i]? with
 |none=>t
 |some c=>match t.marks.getLast? with
  |none=>{t with cells:=t.cells.set i ⟨x,c.st⟩}
  |some m=>if c.st<m.st/\i<m.cells then{t with olds:=t.olds++[⟨i,c⟩],cells:=t.cells.set i ⟨x,m.st⟩}else{t with cells:=t.cells.set i ⟨x,c.st⟩}
def aC.grow(t:aC)(n:Nat):aC:={t with cells:=t.cells++p8 n ⟨0,0⟩}
def back(os:List k8)(cs:List Cell):List Cell:=os.foldr (λo cs=>cs.set o.i o.c) cs
theorem qn:∀(os:List k8)(cs:List Cell),(back os cs).length=cs.length
 |[],_=>rfl
 |o::os,cs=>by
  have:=qn os cs;show((back os cs).set o.i o.c).length=_;rw[c9,this]
theorem back_append(a b:List k8)(cs:List Cell):back (a++b) cs=back a (back b cs):=by unfold back;rw[List.foldr_append]
theorem vH:∀{os:List k8}{cs:List Cell}{n:Nat},(back os cs).take n=back (os.filter λo=>decide (o.i<n)) (cs.take n)
 |[],cs,n=>rfl
 |o::os,cs,n=>by
  show((back os cs).set o.i o.c).take n=_;by_cases h:o.i<n
  .rw[List.filter_cons_of_pos (by simpa using h),List.take_set,vH];rfl
  .rw[List.filter_cons_of_neg (by simpa using h),List.take_set_of_le Ω,vH]
theorem Au{os:List k8}{cs:List Cell}(h:∀o∈os,o.i<n):(back os cs).take n=back os (cs.take n):=by
 rw[vH,List.filter_eq_self.2 λo a=>by simpa using h o a]
theorem Av:∀{os:List k8}{cs a:List Cell}{i:Nat},cs.length=a.length->(∃o∈os,o.i=i)->(back os cs)[i]?=(back os a)[i]?
 |[],_,_,_,_,⟨_,h,_⟩=>by cases h
 |o::os,cs,a,i,e,hm=>by
  show((back os cs).set o.i o.c)[i]?=((back os a).set o.i o.c)[i]?;rw[Y9,Y9];by_cases h:o.i=i
  .rw[if_pos h,if_pos h,qn,qn,e]
  .rw[if_neg h,if_neg h];obtain⟨x,J,he⟩:=hm;rcases V3.1 J with rfl|J
   .exact absurd he h
   .exact Av e ⟨x,J,he⟩
theorem Aw:∀{os:List k8}{cs a:List Cell}{i:Nat},cs[i]?=a[i]? ->cs.length=a.length->(back os cs)[i]?=(back os a)[i]?
 |[],_,_,_,h,_=>h
 |o::os,cs,a,i,h,e=>by
  show((back os cs).set o.i o.c)[i]?=((back os a).set o.i o.c)[i]?;rw[Y9,Y9,qn,qn,e,Aw h e]
def hx:aC->List aC->Prop
 |t,[]=>t.marks=[]/\t.olds=[]/\(∀c∈t.cells,c.st<=t.ii)/\t.ii<=1000000
 |t,s::h=>hx s h/\(∀c∈t.cells,c.st<=t.ii)/\∃m new,t.marks=s.marks++[m]/\m.olds=s.olds.length/\m.cells=s.cells.length/\t.olds=s.olds++new/\m.cells<=t.cells.length/\(back new t.cells).take m.cells=s.cells/\
   (∀c∈s.cells,c.st<m.st)/\(∀c∈t.cells,c.st<=m.st)/\(∀(i:Nat)c,i<m.cells->t.cells[i]?=σ c->c.st=m.st->∃o∈new,o.i=i)/\(∀o∈new,o.i<m.cells)/\m.st<=t.ii/\s.ii<=t.ii
theorem hx.grow{h:List aC}{t:aC}(hk:hx t h):hx (t.grow n) h:=by
 cases h with
 |nil=>
  refine⟨hk.1,hk.2.1,λc a=>?_,hk.2.2.2⟩;rcases o5.1 a with a|a
  .exact hk.2.2.1 c a
  .rw[(List.mem_replicate.1 a).2];exact X4 _
 |cons s h=>
  obtain⟨h1,p,m,new,q,r,a3,a4,a5,w,x,y,a9,e,z,A⟩:=hk;have f:∀{b:Nat},(∀c∈t.cells,c.st<=b)->∀c∈(t.grow n).cells,c.st<=b:=λB c a=>by
   rcases o5.1 a with a|a
   .exact B c a
   .rw[(List.mem_replicate.1 a).2];exact X4 _
  refine⟨h1,f p,m,new,q,r,a3,a4,by show m.cells<=(t.cells++_).length;rw[r9];omega,?_,x,f y,λi c hi a he=>?_,e,z,A⟩
  .show (back new (t.cells++_)).take m.cells=_;rw[Au e,List.take_append_of_le_length a5,<-Au e];exact w
  .have a:(t.cells++p8 n ⟨0,0⟩)[i]?=σ c:=a;rw[Y5 Ω]at a;exact a9 i c hi a he
theorem JR{s:aC}{m:sJ}{l:List sJ}(h:l=s.marks++[m]):l.getLast? =σ m:=by rw[h,List.getLast?_concat]
theorem hx.set{h:List aC}{t:aC}{i:Nat}{x:Int}(hk:hx t h):hx (t.set i x) h:=by
 unfold aC.set;cases q:t.cells[i]? with
 |none=>exact hk
 |some c=>
  have F:=(x4.1 q).1;have y:=x5 q;have r:∀{b st:Nat},(∀c∈t.cells,c.st<=b)->st<=b->∀d∈t.cells.set i ⟨x,st⟩,d.st<=b:=λM B d a=>by
   rcases X9 a with a|rfl
   .exact M d a
   .exact B
  cases h with
  |nil=>
   obtain⟨h1,w,G,N⟩:=hk;simp only[h1,List.getLast?_nil];exact⟨rfl,w,r G (G c y),N⟩
  |cons s h=>
   obtain⟨h1,w,m,new,C,H,a3,a4,a5,I,J,z,a9,K,E,L⟩:=hk;simp only[JR C];by_cases A:c.st<m.st/\i<m.cells
   .rw[if_pos A];refine⟨h1,r w E,m,new++[⟨i,c⟩],C,H,a3,by show t.olds++_=_;rw[a4,V0],by show m.cells<=(t.cells.set i _).length;rw[c9];exact a5,?_,J,r z (o4 _),λj d e a he=>?_,λo p=>?_,E,L⟩
    .show (back (new++[⟨i,c⟩]) (t.cells.set i _)).take m.cells=_;rw[back_append];have:back [⟨i,c⟩] (t.cells.set i ⟨x,m.st⟩)=t.cells:=by
      show(t.cells.set i _).set i c=_;rw[List.set_set];refine Y3 λj=>?_;rw[Y9];by_cases e:i=j
      .subst e;rw[if_pos rfl,if_pos F,q]
      .rw[if_neg e]
     rw[this];exact I
    .have a:(t.cells.set i ⟨x,m.st⟩)[j]?=σ d:=a;by_cases f:i=j
     .exact⟨⟨i,c⟩,Ξ,f⟩
     .rw[Y9,if_neg f]at a;obtain⟨o,p,he⟩:=a9 j d e a he;exact⟨o,List.mem_append_left _ p,he⟩
    .rcases o5.1 p with p|p
     .exact K o p
     .rw[o9.1 p];exact A.2
   .rw[if_neg A];refine⟨h1,r w (w c y),m,new,C,H,a3,a4,by show m.cells<=(t.cells.set i _).length;rw[c9];exact a5,?_,J,r z (z c y),λj d e a he=>?_,K,E,L⟩
    .rw[<-I];show(back new (t.cells.set i _)).take m.cells=_;refine Y3 λj=>?_;by_cases e:j<m.cells
     .rw[Z7 e,Z7 e];by_cases f:i=j
      .subst f;have B:c.st=m.st:=by
        have:=z c y;have:¬c.st<m.st:=λaB=>A ⟨aB,e⟩;omega
       exact Av (by rw[c9]) (a9 i c e q B)
      .exact Aw (by rw[Y9,if_neg f]) (by rw[c9])
     .rw[Z2 (by rw[n9];omega),Z2 (by rw[n9];omega)]
    .have a:(t.cells.set i ⟨x,c.st⟩)[j]?=σ d:=a;by_cases f:i=j
     .subst f;rw[Y9,if_pos rfl,if_pos F]at a;cases a;exact a9 i c e q he
     .rw[Y9,if_neg f]at a;exact a9 j d e a he
theorem aC.qo{t:aC}{i:Nat}{x:Int}:(t.set i x).bT=t.bT.set i x:=by
 unfold aC.set aC.bT;cases a:t.cells[i]? with
 |none=>rw[List.set_eq_of_length_le (by rw[r8];exact List.getElem?_eq_none_iff.1 a)]
 |some c=>
  simp only;cases t.marks.getLast? with
  |none=>simp only;rw[U4]
  |some m=>simp only;split<;>rw[U4]
theorem aC.JS{t:aC}:(t.grow n).bT=t.bT++p8 n 0:=by
 unfold aC.grow aC.bT;rw[Z4,List.map_replicate]
end Go.Proofs.YtikkpokkcdocoabGreatDoor
namespace Go.Vc
open Go Go.RowKit
section
variable{P:W5}{w:x3}{m:Bool}{S R:aj}
theorem sK{b k l:Nat}{low high:Option x1}(p:P.underlying t=σ (.slice e))(hi:aQ P e k b z)(ad:cg w k v n cs)(h1:l2 low l)(q:l3 high n h)(a:l<=h)(aB:h<=n)(r:∀f,cg w k f (h-l) ((cs.drop (l*k)).take ((h-l)*k))->K f):
  ac P (V8 t v low high ν) w K:=by
 have s:=ad;obtain⟨_,x,o,base,cap,rfl,y,_⟩:=ad;rw[gV p hi h1 q e9 a Ω (o4 _)];exact r _ (cg.part s a aB Ω (o4 _))
theorem JT{f:o6}{b i:Nat}(p:y=(i:Int))(q:P.underlying t=σ (.slice e))(hi:aQ P e 1 b z)(h:aI k w v l)(r:i<=l.length)(s:∀a,aI k w a (l.drop i)->K a):ac P (V8 t v (σ (.int f y)) ν ν) w K:=by
 refine sK q hi h (nF i y p) jj r (o4 _) λa h'=>s a (aI.of (n:=l.length-i) ?_);have x:((ints k l).drop (i*1)).take ((l.length-i)*1)=ints k (l.drop i):=by
  rw[b6 Ξ,U1,ints,<-List.map_drop]
 rw[x]at h';exact h'
theorem JU{f:o6}{b i:Nat}(p:y=(i:Int))(q:P.underlying t=σ (.slice e))(hi:aQ P e 1 b z)(h:aI k w v l)(r:i<=l.length)(s:∀a,aI k w a (l.take i)->K a):ac P (V8 t v ν (σ (.int f y)) ν) w K:=by
 refine sK q hi h ji (nG i y p) (X4 _) r λa h'=>s a (aI.of (n:=i) ?_);have x:((ints k l).drop (0*1)).take ((i-0)*1)=ints k (l.take i):=by
  simp[ints,List.map_take]
 rw[x]at h';exact h'
theorem qp{b:Nat}{parts:Array (Nat×x1)}{K:x1->x3->Prop}(a:P.underlying t=σ (.slice e))(hi:aQ P e 1 b (Δ 0))(r:n<=100000)(f:l.length=n)(ag:Instr.fill (λj=>σ (j*1,1)) ((Array.range (n*1)).map ((if n*1=0 then#[]else(V4 .i64 0).cells)[·% (if n*1=0 then#[]else(V4 .i64 0).cells).size]!)) parts.toList=σ (ints .i64 l).toArray)(h:∀v g w',g=w.heap.size->Ext w w'->av .i64 e w' g v l->K v w'):aD P (Y4 t n parts) w K:=
 kq a hi Ω ag λg w' p J q=>h _ g w' p J (av.of (n:=n) (bV.full (by simpa using q) (by simp[f]) (by simp[maxLen];omega)))
end
section
variable{P:W5}{w:x3}
theorem JV{h p:p9}{q kn:o6}{b k cap:Nat}{base:Option Addr}{K:x1->x3->Prop}(x:y=(k:Int))(A:P.underlying t=σ (.slice e))(B:P.underlying h=σ (.int kn))(hi:aQ P e 1 b z)(C:z.cells= #[z])(U:cg w 1 (.slice base n cap) n xs)(E:0<k)(r:cap<n+k)(F:(n+k)*b<=140737488355328)(G:n+k<=9223372036854775807)(H:∀v g w',g=w.heap.size->Ext w w'->bV w' g e 1 v (n+k) (xs++p8 k z)->K v w'):aD P (Z0 #[t,h] p #[.slice base n cap,.int q y]) w K:=by
 subst x;obtain⟨i,hi,I,rfl,J⟩:=hi;obtain⟨f,W,o,X,Y,he,L,Z,M,N⟩:=U;cases he;have O:(Z3.firstCells i.size n (.slice base n cap)).run P w.drew= .ok xs.toArray w.drew:=by
  rcases Q0 n with rfl|Q
  .have:xs=[]:=j6 (by simpa using f);subst this;cases base with
   |none=>exact run_firstCells_none w.drew i.size 0 0 cap
   |some a=>exact run_firstCells_some w.drew i.size 0 a 0 cap [] Ξ Ξ
  .have:=M Q;subst this;refine run_firstCells_some w.drew i.size n _ n cap xs (by rw[I];exact f) λj u hu=>?_;rw[U7];exact N j u hu
 have R:k*i.bytes<=281474976710656:=by
  have:k*i.bytes<=(n+k)*i.bytes:=X8 _ Ω;omega
 have S:=Lib.run_append_grow_zeros (P:=P) w t h p e i z q kn A B hi J base n cap xs O k E Ω r Ω R (growslice_fits r F);have T:n+k<=grownCap w (n+k) cap e:=grownCap_ge w _ _ _;have V:grownCap w (n+k) cap e<=maxLen:=grownCap_le_maxLen w (n+k) cap e (by simpa[maxLen]using G);have s:∀m,Z3.zeroCells z.cells m=(p8 m z).toArray:=λm=>by
  rw[C];apply Array.ext
  .simp[size_zeroCells]
  .intro j h1 L;simp[Z3.zeroCells,Nat.mod_one]
 refine .of S ((pV w _ (Nat.le_succ _)).trans (pX _ _)) (H _ w.heap.size _ rfl ((rL w _).trans (pW _ _)) ⟨by simp at f;simp[f],.inr ⟨_,xs++p8 k z++p8 (grownCap w (n+k) cap e-(n+k)) z,rfl,?_,T,V,?_,?_⟩⟩)
 .rw[s,s];have:=heap_alloc_new w.drew (.cells (xs.toArray++(p8 k z).toArray++(p8 (grownCap w (n+k) cap e-(n+k)) z).toArray) e);rw[List.append_toArray,List.append_toArray]at this ⊢;exact this
 .simp at f;simp[f];omega
 .simp at f;rw[List.take_append_of_le_length (by simp[f]),b6 (by simp[f])]
theorem Ax{a:p9}{base:Option Addr}(f:P.underlying t=σ (.slice e)):
  ac P (Z3.cap_ #[t] a #[.slice base n c]) w K=K (Δ c):=ac.of λw' _=>by simp[Z3.cap_,run_underlying f,goInt]
theorem JW{g o k:Nat}(h:af w g e cs)(hk:o+k<=cs.length)(a:k<=c)(f:c<=maxLen):cg w 1 (.slice (σ ⟨g,o,ν⟩) k c) k ((cs.drop o).take k):=by
 refine⟨Θ,g,o,_,c,rfl,a,f,λ_=>rfl,λj v ad=>?_⟩;have p:=(x4.1 ad).1;simp at p;rw[Z7 Ω,List.getElem?_drop]at ad;exact h.cell ad
theorem Ay{h p:p9}{q g o cap:Nat}{K:x1->x3->Prop}(s:P.underlying t=σ (.slice e))(hi:aQ P e 1 q z)(x:z.cells= #[z])(h1:z.oneCell'=true)(a:af w g p cs)(y:0<n)(F:o+n<=cs.length)(A:∀w',ai (λr=>r=g) w w'->w'.heap.size=w.heap.size->af w' g p (over cs o (p8 n z))->K (.tuple #[]) w'):aD P (Z3.clear_ #[t] h #[.slice (σ ⟨g,o,ν⟩) n cap]) w K:=by
 obtain⟨i,hi,G,rfl,B⟩:=hi;have C:=Lib.run_clear_slice (P:=P) w t e h z s (λw=>by simp[zeroValue,typeInfo,hi,B]) x h1 g o n cap y
  (λj H=>by rw[a.cell (x6 (show o+j<cs.length by omega))];rfl) (λj _=>a.frozen _ _)
 obtain⟨E,f⟩:=nH (p8 n z) cs o w a;exact .of C (f.ct a) (A _ f.ab f.size E)
end
section
variable{P:W5}{w:x3}
theorem hy{a:p9}{f:o6}{i b g:Nat}(p:y=(i:Int))(q:P.underlying t=σ (.slice e))(hi:aQ P e 1 b z)(h:av k a w g v l)(r:i<l.length):ac P (c7 t v (.int f y)) w K=K (.pointer (σ ⟨g,i,ν⟩)):=by
 subst p;obtain⟨_,⟨_,s⟩|⟨cap,cs,rfl,_⟩⟩:=h
 .omega
 .rw[e8 q hi r (λ_=>rfl)];simp
theorem qq{a:o6}{i b:Nat}{x:Int}(f:y=(i:Int))(p:P.underlying t=σ (.slice e))(hi:aQ P e 1 b z)(h:aI k w v l)(J:l[i]?=σ x)(q:∀b o,w.cell? ⟨b,o,ν⟩=σ (.int k x)->K (.pointer (σ ⟨b,o,ν⟩))):ac P (c7 t v (.int a y)) w K:=by
 subst f;have r:=(x4.1 J).1;obtain⟨_,_,_,_,_,rfl,_,_,s,A⟩:=h;rw[e8 p hi r s,U1];exact q _ _ (A i _ (k5 J))
theorem hz{a:p9}{i b g:Nat}{x:Int}{K:Unit->x3->Prop}(hi:aQ P e 1 b z)(h:av k a w g v l)(F:i<l.length)(q:∀w',ai (λr=>r=g) w w'->w'.heap.size=w.heap.size->av k a w' g v (l.set i x)->K () w'):aD P (o8 e (.pointer (σ ⟨g,i,ν⟩)) (.int k x)) w K:=by
 obtain⟨G,⟨_,H⟩|⟨cap,full,rfl,s,y,A,f,p⟩⟩:=h
 .omega
 .have B:i<full.length:=by simp at f;omega
  refine bl hi rfl rfl s B λw' C U E=>q w' C U ⟨Ξ,.inr ⟨cap,full.set i (.int k x),Ξ,E,by simpa using y,A,by simpa using f,?_⟩⟩;simp only[c9,U1]at p ⊢;rw[List.take_set,p,ints,ints,U4]
theorem sL{b o:Nat}(a:jM P t=true)(h:w.cell? ⟨b,o,ν⟩=σ v):cA P (u5 t (.pointer (σ ⟨b,o,ν⟩))) v w:=λw' J=>by
 have h':=iJ J h;unfold jM at a;cases hu:P.underlying t with
 |none=>rw[hu]at a;cases a
 |some d=>
  rw[hu]at a;cases d<;>first|(cases a;done)|simp[u5,Instr.sureAddr,loadVar,isAgg,run_underlying hu,h']
theorem hV{S:aj}(h:aI k w v l)(J:ai S w w')(p:∀r,S r->∀a n c,v= .slice (σ a) n c->a.block≠r):aI k w' v l:=by
 obtain⟨h1,b,o,base,cap,rfl,q,s,e,x⟩:=h;refine⟨h1,b,o,base,cap,rfl,q,s,e,?_⟩;rcases Q0 l.length with f|f
 .intro j u hu;have:=(x4.1 hu).1;simp at this;omega
 .have y:=e f;subst y;exact jh J (λh=>p _ h _ _ _ rfl rfl) x
end
end Go.Vc
namespace Go.Vc
open Go Go.RowKit Go.ChangeShapes Go.WideShapes
structure mK(P:W5)(t:p9)(α:Type)[ap α](G:α->Prop):Prop where
 op:∀{H:Type}{enc:p9×x1->H}{w:x3}{base:Nat}{spare:Nat->Bool}{held:Bool}{fuel:Nat}{cs:List x1}{x:DataW H×List MemPlace},
  DataW.trod enc P w base spare held fuel t cs=σ x->∃a:α,Seen fi w cs a/\G a
section
variable{P:W5}{α β:Type}[ap α][ap β]
theorem Az{n:Int}(h:(Lit.int k n).wf=true):k.min<=n/\n<=k.max:=by simpa[Lit.wf]using h
theorem JX(a:P.underlying t=σ (.int k)):mK P t (l4 k) λn=>k.min<=n.val/\n.val<=k.max:=⟨λh=>by
 obtain⟨n,rfl,_,hw⟩:=DataW.trod_int a h;exact⟨(n:Int),rfl,Az hw⟩⟩
theorem sM(a:P.underlying t=σ (.int .i64)):mK P t Int λn=>X5.min<=n/\n<=X5.max:=⟨λh=>by
 obtain⟨n,rfl,_,hw⟩:=DataW.trod_int a h;exact⟨n,rfl,Az hw⟩⟩
theorem JY(a:Addr)(m n:Nat):(a.add m).add n=a.add (m+n):=by
 unfold Addr.add;by_cases hm:m=0<;>by_cases e:n=0<;>simp[hm,e,R2]
theorem JZ{base:Nat}{a:Addr}(h:w.cells? base a n=σ cs):cs.length=n/\∀j v,cs[j]?=σ v->w.cell? (a.add j)=σ v:=by
 unfold x3.cells? at h;split at h
 .have e:cs.length=n:=by
   have:=mapM_some_length h;simpa using this
  refine⟨e,λj v ad=>?_⟩;have f:=(x4.1 ad).1;have:=mapM_some_get h j j (List.getElem?_range Ω);rw[this,ad]
 .cases h
theorem J0{G:α->Prop}(L:P.underlying t=σ (.slice e))(he:mK P e α G)(M:P.cellsOf e=ap.n α)(U:0<ap.n α):mK P t (List α) λl=>∀a∈l,G a:=by
 constructor;intro H enc w base spare held fuel cs x h;rcases DataW.trod_slice L h with⟨rfl,_⟩|⟨a,len,cap,V,rest,n,_,rfl,rfl,W,X,hm,Y,N,_,_⟩
 .exact⟨[],hv,λ_ h=>by cases h⟩
 .
  have J:∀i,i<len->∃(c:List x1)(y:α),c.length=ap.n α/\(∀j v,c[j]?=σ v->w.cell? (a.add (i*ap.n α+j))=σ v)/\Seen fi w c y/\G y:=by
   intro i hi;have h1:=N i hi;rw[x6 Ω,M,Option.bind_eq_some_iff]at h1;obtain⟨c,q,r⟩:=h1;obtain⟨A,B⟩:=JZ q;obtain⟨y,C,O⟩:=he.op r;exact⟨c,y,A,λj v ad=>by have:=B j v ad;rwa [JY]at this,C,O⟩
  have all:∀m,m<=len->∃(vs:List (List x1))(l:List α),vs.length=m/\l.length=m/\(∀c∈vs,c.length=ap.n α)/\(∀(j:Nat)(v:x1),vs.flatten[j]?=σ v->w.cell? (a.add j)=σ v)/\
    (∀(i:Nat)(c:List x1)(y:α),vs[i]?=σ c->l[i]?=σ y->Seen fi w c y)/\∀y∈l,G y:=by
   intro m;induction m with
   |zero=>exact λ_=>⟨[],[],rfl,rfl,(λ_ h=>by cases h),(λj v h=>by simp at h),(λi c y h=>by simp at h),(λ_ h=>by cases h)⟩
   |succ m Q=>
    intro hm;obtain⟨vs,l,h1,q,r,A,B,C⟩:=Q Ω;obtain⟨c,y,g1,E,R,S⟩:=J m Ω;refine⟨vs++[c],l++[y],by simp[h1],by simp[q],λd f=>?_,λj v ad=>?_,λi d z f p=>?_,λz p=>?_⟩
    .rcases o5.1 f with f|f
     .exact r d f
     .simp at f;subst f;exact g1
    .have s:=qk r;rw[h1]at s;rw[List.flatten_append]at ad;by_cases T:j<m*ap.n α
     .rw[Y5 Ω]at ad;exact A j v ad
     .rw[Y6 Ω,s]at ad;simp at ad;have:=E _ v ad;rwa [show m*ap.n α+(j-m*ap.n α)=j by omega]at this
    .by_cases hi:i<m
     .rw[Y5 Ω]at f p;exact B i d z f p
     .have F:=(x4.1 f).1;simp[h1]at F;have F:i=m:=Ω
      subst F;rw[Y6 Ω,h1]at f;rw[Y6 Ω,q]at p;simp at f p;subst f p;exact R
    .rcases o5.1 p with p|p
     .exact C z p
     .simp at p;subst p;exact S
  obtain⟨vs,l,h1,q,r,A,B,C⟩:=all len (o4 _);have s:=qk r;rw[h1]at s;have K:0<len->a=⟨a.block,a.off,ν⟩:=λI=>by
   obtain⟨c,y,g1,E,_⟩:=J 0 Ω;have:=E 0 c[0] (x6 Ω);rw[Nat.zero_mul]at this;exact vB this
  refine⟨l,⟨_,rfl,vs,0,λ_ _=>False,⟨λ_ _ h=>h.elim,(λh=>by cases h),(λh=>by cases h)⟩,⟨Ω,B⟩,⟨by rw[s,q],a.block,a.off,σ a,cap,by rw[q],Ω,hm,λI=>congrArg σ (K Ω),λ_=>.inr trivial,λj v ad=>?_⟩,λh=>by cases h⟩,C⟩;have:=A j v ad;have T:=(x4.1 ad).1;have I:0<len:=by
   rcases Q0 len with h|h
   .rw[h,Nat.zero_mul]at s;omega
   .exact h
  rw[K I,U7]at this;exact this
structure sN(P:W5)(fs:List Field)(off:Nat)(α:Type)[ap α](G:α->Prop):Prop where
 op:∀{H:Type}{enc:p9×x1->H}{w:x3}{base:Nat}{spare:Nat->Bool}{held:Bool}{n:Nat}{cs:List x1},cs.length=off+ap.n α->
  (∀f∈fs,∃x,DataW.trod enc P w base spare held n f.type ((cs.drop f.offset).take (P.cellsOf f.type))=σ x)->∃a:α,Seen fi w (cs.drop off) a/\G a
theorem J1{f:Field}{G:α->Prop}(h:mK P f.type α G)(e:f.offset=off)(p:P.cellsOf f.type=ap.n α):sN P [f] off α G:=by
 constructor;intro H enc w base spare held n cs r ag;obtain⟨x,J⟩:=ag f (.head _);obtain⟨a,h1,q⟩:=h.op J;rw[e,p,b6 Θ]at h1;exact⟨a,h1,q⟩
theorem sO{f:Field}{e:List Field}{G:α->Prop}{q:β->Prop}(h:mK P f.type α G)(r:f.offset=off)(s:P.cellsOf f.type=ap.n α)(y:sN P e (off+ap.n α) β q):
  sN P (f::e) off (α×β) λp=>G p.1/\q p.2:=by
 constructor;intro H enc w base spare held n cs E ag;obtain⟨x,J⟩:=ag f (.head _);obtain⟨a,h1,z⟩:=h.op J;rw[r,s]at h1;have F:ap.n (α×β)=ap.n α+ap.n β:=rfl;obtain⟨b,A,B⟩:=y.op Ω λg C=>ag g (.tail _ C);refine⟨(a,b),⟨(cs.drop off).take (ap.n α),cs.drop (off+ap.n α),λ_=>False,λ_=>False,?_,λ_ h=>h,λ_ h=>h,(λh=>by cases h),h1,A⟩,z,B⟩;rw[<-List.drop_drop,List.take_append_drop]
theorem J2{a:List Field}{G:α->Prop}(e:P.underlying t=σ (.struct a.toArray))(ag:sN P a 0 α G)(y:P.cellsOf t=ap.n α):mK P t α G:=by
 constructor;intro H enc w base spare held fuel cs x h;obtain⟨xs,n,_,rfl,z,p,q⟩:=DataW.trod_struct e h;have:=ag.op (enc:=enc) (w:=w) (base:=base) (spare:=spare) (held:=held) (n:=n) (cs:=cs) Ω λf r=>by
  obtain⟨i,hi,rfl⟩:=List.mem_iff_getElem.1 r;have s:i<xs.length:=by simpa[p]using hi
  have:=q i a[i] (by simp[hi]);rw[x6 s]at this;exact⟨_,this⟩
 simpa using this
end
end Go.Vc
