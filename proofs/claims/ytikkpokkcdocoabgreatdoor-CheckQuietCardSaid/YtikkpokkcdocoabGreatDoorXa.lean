/- own texts, made small by a tool (wip/ holds them as they were written): no statement of the seat. -/
import Derived.RangeFuncNested
import Derived.RangeFuncLeaves
import Derived.OrdersIn
import Derived.KernelRfl
import Derived.Deep.Upon
import Derived.RangeFuncBound
import Derived.Deep.MidRow
import Derived.Laws.Cover3
import Derived.Laws.Pointers
import Derived.Laws.StructEq
import Derived.Laws.Tables
import Derived.Below
import Derived.Laws.MakeOwn
import Derived.Lib.Overlaps
import Derived.Lib.AppendZerosOnto
import Derived.Lib.SliceRun
import Derived.OpenShut
import Derived.Lib.ConvBytes
import Derived.Laws.BytesArg
import Derived.Laws.Concat
import Derived.MapKept
import Derived.Carry
import Derived.WideKeyArr
import Derived.WideKeyMaps
import Derived.Laws.IdiomRangeMap
import Derived.Shelf.SlSortCmp.NoneTotal
import Derived.Shelf.SlSortCmp.WholeK
import Derived.Ground.SlsfProg
import Derived.WideKeyEntry
import Derived.WalkKit
import Derived.Test.YtikkpokkcdocoabGreatDoorProg
import Derived.Test.YtikkpokkcdocoabGreatDoorChecked
set_option linter.unusedVariables false
set_option linter.unusedSimpArgs false
set_option linter.unnecessarySimpa false
open Array renaming getElem?_eq_some_iff→j4,getElem?_toList→S9
open BitVec renaming ofInt→T4
open Bool renaming not_true→Y7,not_false→V0,and_eq_true→U1,or_eq_false_iff→S7
open Decidable renaming not_not→Y0
open Go renaming Value→x1,World→x3,TypeId→p8,IntKind→o6,Builtin→Z6,Program→W8,Oper→T7,Operand→S4,FuncId→R7
open Go.Addr renaming add_mid→T3
open Go.Builtin renaming append_→Z2,len_→V2
open Go.Instr renaming loadAt→u5,fieldAt→u6,storeAt→o9,indexAt→c9,extract→Y1,buildSlice→Y3,sliceAt→U3
open Go.IntKind renaming i64→X9,u64→T0
open Go.Proofs.Tryz renaming prog→x7
open Go.Result renaming andThen→W7
open Go.Sem renaming run_bind→W6,run_pure→V3
open Go.Sort renaming Holds→S6
open Go.Value renaming int→V5
open Go.World renaming putObj_heap_other→Q0
open Int renaming toNat_natCast→r9,eq_ofNat_of_zero_le→U2
open List renaming getElem?_eq_some_iff→x4,mem_of_getElem?→x5,getElem?_eq_getElem→x6,getElem?_map→x8,getD_eq_getElem?_getD→u4,take_add_one→u7,length_map→u9,length_append→r8,replicate→p9,mem_append→o5,take_length→o7,length_take→n9,mem_singleton→l9,mem_map→j5,take_of_length_le→j6,length_cons→j9,eq_nil_of_length_eq_zero→c8,length_set→b8,getElem?_set_self→b9,map_append→Z3,getElem?_eq_none→Z4,getElem?_take_of_lt→Z9,getElem?_set_ne→Y4,ext_getElem?→Y5,append_assoc→Y6,getElem?_append_left→Y9,getElem?_append_right→X0,getElem?_set→X2,range→X3,append_nil→X5,drop_eq_getElem_cons→W3,mem_or_eq_of_mem_set→W5,length_eq_one_iff→W9,mem_cons→V4,map_set→U9,map_cons→T1,getElem_mem→T2,mem_range→T6,set_append_right→T8,mem_of_mem_take→S0,mem_flatMap→R2
open Nat renaming le_refl→o4,le_trans→Y8,mul_le_mul_right→X1,zero_le→X6,zero_add→X8,add_mul→U4,mul_one→U7,sub_self→U8,beq→S1,add_assoc→R5,lt_of_lt_of_le→Q1,eq_zero_or_pos→Q2
open Option renaming toList_some→o8,isNone_some→Z5,map_some→Z7,getD_some→V1,map→V7
open Option.some renaming injEq→Y2
open Prod.mk renaming injEq→T5
set_option maxHeartbeats 16000000
open Option renaming some→σ,none→ν
abbrev Λ:=List Int
namespace Go
theorem Ω{p:Prop}(h:p:=by omega):p:=h
theorem Ψ{p:Prop}(h:p:=by kernel_rfl):p:=h
theorem Φ{p:Prop}(h:p:=by decide):p:=h
theorem Ξ{p:Prop}(h:p:=by simp):p:=h
theorem Θ{p:Prop}(h:p:=by simp;omega):p:=h
abbrev Γ(n:Nat):Value:=.pointer (some ⟨n,0,none⟩)
abbrev Δ:Int→Value:=Value.int .i64
end Go
variable{a y:Int}{c h j n off:Nat}{w w':x3}{S:Nat->Prop}{aL f s1 sv v z:x1}{args cs vs xs:List x1}{K:x1->Prop}{aj l:Λ}{D:List Nat}{k:o6}{e t:p8}{cx cy:Bool}
namespace Go.Vc
open Go Go.RowKit
def fF:Obj->Bool
 | .loop _=>false
 | .deferred _=>false
 | .mapIter ..=>false
 |_=>true
def book:Obj->Bool
 | .loop _=>true
 | .deferred _=>true
 |_=>false
theorem yu{o:Obj}(h:book o=true):fF o=false:=by cases o<;>first|rfl|cases h
def rY:Obj->Bool
 | .mapIter ..=>true
 |_=>false
theorem FG{o:Obj}(h:rY o=true):fF o=false:=by cases o<;>first|rfl|cases h
structure Ext(w w':x3):Prop where
 size:w.heap.size<=w'.heap.size
 aZ:∀(r:Nat)(o:Obj),w.heap[r]?=σ o->fF o=true->w'.heap[r]?=σ o
theorem Ext.refl(w:x3):Ext w w:=⟨o4 _,λ_ _ h _=>h⟩
theorem Ext.trans{a b c:x3}(h:Ext a b)(k:Ext b c):Ext a c:=
 ⟨Y8 h.size k.size,λr o e U=>k.aZ r o (h.aZ r o e U) U⟩
structure ai(S:Nat->Prop)(w w':x3):Prop where
 size:w.heap.size<=w'.heap.size
 aZ:∀(r:Nat)(o:Obj),w.heap[r]?=σ o->fF o=true->¬S r->w'.heap[r]?=σ o
theorem Ext.ab(S:Nat->Prop)(h:Ext w w'):ai S w w':=⟨h.size,λr o a U _=>h.aZ r o a U⟩
theorem ai.ext(h:ai S w w')(e:∀r,r<w.heap.size->¬S r):Ext w w':=
 ⟨h.size,λr o a U=>h.aZ r o a U (e r (j4.1 a).1)⟩
theorem ai.refl(S:Nat->Prop)(w:x3):ai S w w:=⟨o4 _,λ_ _ h _ _=>h⟩
theorem ai.trans{a b c:x3}(h:ai S a b)(k:ai S b c):ai S a c:=
 ⟨Y8 h.size k.size,λr o f U e=>k.aZ r o (h.aZ r o f U e) U e⟩
theorem ai.mono{T:Nat->Prop}{a b:x3}(h:ai S a b)(f:∀r,r<a.heap.size->S r->T r):ai T a b:=
 ⟨h.size,λr o e U p=>h.aZ r o e U λq=>p (f r (j4.1 e).1 q)⟩
theorem Ext.then{a b c:x3}(h:Ext a b)(k:ai S b c)(f:∀r,r<a.heap.size->¬S r):Ext a c:=
 ⟨Y8 h.size k.size,λr o e U=>k.aZ r o (h.aZ r o e U) U (f r (j4.1 e).1)⟩
def jL(w w':x3):Prop:=w'.tape=w.tape/\w.drawn<=w'.drawn
theorem jL.km(h:w'.tape=w.tape:=by rfl)(k:w'.drawn=w.drawn:=by rfl):jL w w':=⟨h,Nat.le_of_eq k.symm⟩
theorem jL.trans{a b c:x3}(k:jL b c)(h:jL a b):jL a c:=⟨k.1.trans h.1,Y8 h.2 k.2⟩
structure cN(w w':x3):Prop where
 os:w'.os=w.os
 tape:jL w w'
 output:w'.output=w.output
 size:w.heap.size<=w'.heap.size
 aZ:∀(r:Nat)(o:Obj),w.heap[r]?=σ o->fF o=false->w'.heap[r]?=σ o
structure cC(n:Nat)(w w':x3):Prop where
 os:w'.os=w.os
 tape:jL w w'
 output:w'.output=w.output
 size:w.heap.size<=w'.heap.size
 aZ:∀(r:Nat)(o:Obj),w.heap[r]?=σ o->book o=true->w'.heap[r]?=σ o
 old:∀(r:Nat)(o:Obj),r<n->w.heap[r]?=σ o->fF o=false->w'.heap[r]?=σ o
theorem cN.b(h:cN w w'):cC n w w':=⟨h.os,h.tape,h.output,h.size,λr o a U=>h.aZ r o a (yu U),λr o _ a U=>h.aZ r o a U⟩
theorem cC.refl(n:Nat)(w:x3):cC n w w:=⟨rfl,.km,rfl,o4 _,λ_ _ h _=>h,λ_ _ _ h _=>h⟩
theorem cC.trans{a b c:x3}(h:cC n a b)(k:cC n b c):cC n a c:=
 ⟨k.os.trans h.os,k.tape.trans h.tape,k.output.trans h.output,Y8 h.size k.size,λr o e U=>k.aZ r o (h.aZ r o e U) U,λr o f e U=>k.old r o f (h.old r o f e U) U⟩
theorem cC.cw(h:cC n w w')(e:w.heap.size<=n):cN w w':=
 ⟨h.os,h.tape,h.output,h.size,λr o a U=>h.old r o (Q1 (j4.1 a).1 e) a U⟩
structure fG(n:Nat)(w w':x3):Prop where
 os:w'.os=w.os
 tape:jL w w'
 output:w'.output=w.output
 size:w.heap.size<=w'.heap.size
 old:∀(r:Nat)(o:Obj),r<n->w.heap[r]?=σ o->fF o=false->w'.heap[r]?=σ o
theorem cC.o(h:cC n w w'):fG n w w':=⟨h.os,h.tape,h.output,h.size,h.old⟩
theorem cN.o(h:cN w w'):fG n w w':=⟨h.os,h.tape,h.output,h.size,λr o _ a U=>h.aZ r o a U⟩
theorem fG.mono{m:Nat}(h:fG n w w')(hm:m<=n):fG m w w':=⟨h.os,h.tape,h.output,h.size,λr o a=>h.old r o (Q1 a hm)⟩
theorem cC.yv{m:Nat}{a b c:x3}(h:cC n a b)(k:fG m b c)(hm:a.heap.size<=m):cC n a c:=
 ⟨k.os.trans h.os,k.tape.trans h.tape,k.output.trans h.output,Y8 h.size k.size,
  λr o e U=>k.old r o (Q1 (j4.1 e).1 hm) (h.aZ r o e U) (yu U),
  λr o f e U=>k.old r o (Q1 (j4.1 e).1 hm) (h.old r o f e U) U⟩
def e0(w w':x3):Prop:=∀(r:Nat)(o:Obj),w.heap[r]?=σ o->rY o=true->w'.heap[r]?=σ o
theorem e0.refl(w:x3):e0 w w:=λ_ _ h _=>h
theorem e0.trans{a b c:x3}(h:e0 a b)(k:e0 b c):e0 a c:=λr o e U=>k r o (h r o e U) U
theorem cN.ko(h:cN w w'):e0 w w':=λr o a U=>h.aZ r o a (FG U)
abbrev fH:=Bool×Nat
theorem cN.refl(w:x3):cN w w:=⟨rfl,.km,rfl,o4 _,λ_ _ h _=>h⟩
theorem cN.trans{a b c:x3}(h:cN a b)(k:cN b c):cN a c:=
 ⟨k.os.trans h.os,k.tape.trans h.tape,k.output.trans h.output,Y8 h.size k.size,λr o e U=>k.aZ r o (h.aZ r o e U) U⟩
theorem rZ(w:x3)(n:Nat):Ext w {w with drawn:=n}:=⟨o4 _,λ_ _ h _=>h⟩
theorem qe(w:x3)(n:Nat)(h:w.drawn<=n):cN w {w with drawn:=n}:=⟨rfl,⟨rfl,h⟩,rfl,o4 _,λ_ _ h _=>h⟩
theorem qf(w:x3)(o:Obj):Ext w {w with heap:=w.heap.push o}:=
 ⟨Ξ,λr o' h _=>by
  have a:=(j4.1 h).1;simp only[Array.getElem?_push];rw[if_neg Ω];exact h⟩
theorem qg(w:x3)(o:Obj):cN w {w with heap:=w.heap.push o}:=
 ⟨rfl,.km,rfl,Ξ,λr o' h _=>by
  have a:=(j4.1 h).1;simp only[Array.getElem?_push];rw[if_neg Ω];exact h⟩
inductive ev where
 |v (x:x1)
 |b (c:Bool)
 |u
def ev.val:ev->x1
 | .v x=>x
 | .b c=>.bool c
 | .u=>undef
def ev.ofConst:x1->ev
 | .bool c=>.b c
 |x=>.v x
theorem ev.FH(x:x1):(ev.ofConst x).val=x:=by cases x<;>rfl
abbrev Env:=List (Nat×ev)
def look:Env->Nat->Option ev
 |[],_=>ν
 |(s,x)::r,t=>bif S1 s t then σ x else look r t
def eD(e:Env):S4->Option ev
 | .tmp t=>look e t
 | .const x=>σ (ev.ofConst x)
 | .global g=>σ (.v (Γ g))
 | .func f=>σ (.v (.func (.func f) #[] #[]))
def cV(e:Env)(x:S4):x1:=
 match eD e x with
 |some y=>y.val
 |none=>undef
def known(e:Env):List S4->Bool
 |[]=>true
 |x::r=>(eD e x).isSome&&known e r
def S6(N:Nat)(e:Env)(a:Act):Prop:=
 a.tmps.size=N/\∀t x,look e t=σ x->a.tmps.getD t undef=x.val
theorem S6.eD{N:Nat}{e:Env}{a:Act}(h:S6 N e a){x:S4}{y:ev}(J:Vc.eD e x=σ y):a.eval x=y.val:=by
 cases x with
 |tmp t=>exact h.2 t y J
 |const v=>simp[Vc.eD]at J;subst J;simp[Act.eval,ev.FH]
 |global g=>simp[Vc.eD]at J;subst J;rfl
 |func f=>simp[Vc.eD]at J;subst J;rfl
theorem S6.eval{N:Nat}{e:Env}{a:Act}(h:S6 N e a){x:S4}(J:(Vc.eD e x).isSome=true):a.eval x=cV e x:=by
 obtain⟨y,f⟩:=Option.isSome_iff_exists.1 J;rw[h.eD f];simp[cV,f]
theorem uT{e:Env}:∀{l:List S4},known e l=true->∀x∈l,(eD e x).isSome=true
 |[],_,_,J=>by cases J
 |y::r,h,x,J=>by
  simp only[known,U1]at h;cases J with
  |head=>exact h.1
  |tail _ J=>exact uT h.2 x J
def dU(e:Env)(d:Option Tmp)(x:ev):Env:=
 match d with
 |some t=>(t,x)::e
 |none=>e
def jM(N:Nat)(d:Option Tmp):Bool:=
 match d with
 |some t=>Nat.blt t N
 |none=>true
theorem S6.put{N:Nat}{e:Env}{a:Act}(h:S6 N e a){d:Option Tmp}(q:jM N d=true){x:ev}(ad:x.val=v):
  S6 N (dU e d x) (a.put d v):=by
 cases d with
 |none=>exact h
 |some t=>
  have r:t<N:=by simpa[jM,Nat.blt_eq]using q
  refine⟨by simp[Act.put,h.1],λs y U=>?_⟩;simp only[dU,look]at U;cases f:S1 t s with
  |true=>
   have p:t=s:=Nat.eq_of_beq_eq_true f;subst p;simp only[f,cond_true,Y2]at U;subst U;simp[Act.put,h.1,r,ad]
  |false=>
   have p:t≠s:=Nat.ne_of_beq_eq_false f;simp only[f,cond_false]at U;have:=h.2 s y U;simp only[Act.put,Array.getD_eq_getD_getElem?]at this ⊢;rw[Array.getElem?_setIfInBounds_ne p];exact this
def ep(r:Option Nat):Fence:={Fence.wide with round:=r}
theorem uU(r:Option Nat)(n:Nat):(ep r).depth.isSome=true->1<=n:=λh=>by simp[ep,Fence.wide]at h
theorem yw{r:Option Nat}{P:W8}{f:R7}{args:Array x1}{R:Ending->x3->Prop}(h:Calls P f args w R):CallsIn (ep r) n P f args w R:=by
 have:=(callsIn_wide (n:=n)).2 h;exact this
section
variable(P:W8)
def aD{α:Type}(s:Sem α)(w:x3)(K:α->x3->Prop):Prop:=∃v w',s.run P w= .ok v w'/\cN w w'/\K v w'
def r0{α:Type}(free:fH)(s:Sem α)(w:x3)(K:α->x3->Prop):Prop:=∃v w',s.run P w= .ok v w'/\(free.1=false->cC free.2 w w')/\K v w'
def Split(x:x1)(A B:Prop):Prop:=∃c,x= .bool c/\(c=true->A)/\(c=false->B)
def a6:Bool->S4
 |true=>.const (.bool true)
 |false=>.tmp 0
def oQ:S4->Bool
 | .const _=>true
 |_=>false
theorem FI(op:BinOp)(t:p8)(x y:S4)(a b:x1):eqGuard op t x y a b=eqGuard op t (a6 (oQ x)) (a6 (oQ y)) a b:=by
 cases x<;>cases y<;>rfl
def aN(op:BinOp)(t:p8)(cx cy:Bool)(a b:x1):Sem x1:=do eqGuard op t (a6 cx) (a6 cy) a b;binOp op t a b
def r1(s:Sem Next):Sem x1:=do
 match <-s with
 | .value v=>pure v
 |_=>stuck "no value"
def bP(x:x1):Sem x1:=r1 (execOp (λ_=>x) {dst:=ν,op:=.nilCheck (.tmp 0),type:=0,pos:= "",after:=#[],guard:=ν})
def bR(a:S4->x1):List S4->List x1
 |[]=>[]
 |x::r=>a x::bR a r
theorem r2(a:S4->x1):∀l,bR a l=l.map a
 |[]=>rfl
 |x::r=>by simp[bR,r2 a r]
theorem uV(a:S4->x1)(l:Array S4):(bR a l.toList).toArray=l.map a:=by
 apply Array.toList_inj.1;simp[r2]
def partsOf(a:S4->x1):List (Nat×S4)->List (Nat×x1)
 |[]=>[]
 |x::r=>(x.1,a x.2)::partsOf a r
theorem yx(a:S4->x1):∀l,partsOf a l=l.map λ(i,x)=>(i,a x)
 |[]=>rfl
 |x::r=>by simp[partsOf,yx a r]
theorem FJ(a:S4->x1)(l:Array (Nat×S4)):(partsOf a l.toList).toArray=l.map λ(i,x)=>(i,a x):=by
 apply Array.toList_inj.1;simp[yx]
def opsOf:Op->List S4
 | .alloc _| .ready _| .waits _=>[]
 | .move x| .assign x| .box _ x| .load _ x| .nilCheck x| .unOp _ _ x| .convert _ _ x| .sliceToArrayPointer _ x| .makeInterface _ x
 | .makeChan _ x| .fieldAddr _ x _| .field _ x _| .range _ x| .next x _| .entry x| .typeAssert x _ _ _| .extract x _| .panic x| .recv _ x _=>[x]
 | .pick c a b=>[c,a,b]
 | .build _ e| .buildSlice _ _ e=>e.toList.map (·.2)
 | .store _ a v| .binOp _ _ a v _| .makeSlice _ a v| .indexAddr _ a v| .index _ a v| .lookup _ a v _| .mapEntry _ a v| .send a v=>[a,v]
 | .makeFunc _ first p=>first.toList++p.toList
 | .makeMap _ r=>match r with
  |some x=>[x]
  |none=>[]
 | .slice _ x l h m=>x::((match l with
  |some y=>[y]
  |none=>[])++((match h with
  |some y=>[y]
  |none=>[])++(match m with
  |some y=>[y]
  |none=>[])))
 | .mapUpdate _ m k v| .entryStore _ m k v| .insert _ m k v=>[m,k,v]
 | .call c=>match c.callee with
  | .value f=>f::c.args.toList
  | .invoke r _=>r::c.args.toList
  | .builtin _=>c.args.toList
 | .go _| .defer _| .select ..=>[]
theorem FK{op:Op}(h1:∀c,op≠ .go c)(a:∀c,op≠ .defer c)(e:∀cs b,op≠ .select cs b):∀x∈op.operands,x∈opsOf op:=by
 intro x J;cases op<;>simp only[Op.operands,opsOf]at J ⊢<;>try (first|(simp at J;done)|(simp at J ⊢;exact J))
 case go c=>exact absurd rfl (h1 c)
 case defer c=>exact absurd rfl (a c)
 case select cs b=>exact absurd rfl (e cs b)
 case makeMap t r=>cases r<;>simp at J ⊢<;>exact J
 case slice t y l h m=>cases l<;>cases h<;>cases m<;>simpa[or_assoc]using J
 case call c=>cases f:c.callee<;>simpa[Call.operands,f]using J
def qh(e:S4->x1):Op->Option (Sem x1)
 | .pick c a b=>σ (do pure (if <-asBool (e c)then e a else e b))
 | .alloc p=>σ (Instr.alloc p true (.tuple #[]))
 | .box p x=>σ (Instr.box p (e x))
 | .build t parts=>σ (Instr.build t (partsOf e parts.toList).toArray)
 | .buildSlice t len parts=>σ (Y3 t len (partsOf e parts.toList).toArray)
 | .load t a=>σ (u5 t (e a))
 | .nilCheck x=>σ (bP (e x))
 | .binOp op h9 x y _=>σ (aN op h9 (oQ x) (oQ y) (e x) (e y))
 | .unOp op _ x=>σ (Op.unary op (e x))
 | .convert src dst x=>σ (convert src dst (e x))
 | .makeInterface h9 x=>σ (Instr.makeInterface h9 (e x))
 | .makeFunc fn first q=>σ (Instr.makeFunc fn (bR e first.toList).toArray (bR e q.toList).toArray)
 | .makeMap t r=>σ (Instr.makeMap t (r.map e))
 | .makeSlice t l c=>σ (Instr.makeSlice t (e l) (e c))
 | .slice t x lo hi mx=>σ (U3 t (e x) (lo.map e) (hi.map e) (mx.map e))
 | .fieldAddr s x f=>σ (u6 s (e x) f)
 | .field h9 x f=>σ (Instr.field h9 (e x) f)
 | .indexAddr t x h=>σ (c9 t (e x) (e h))
 | .index h9 x h=>σ (Instr.index h9 (e x) (e h))
 | .lookup h9 x h ok=>σ (Instr.lookup h9 (e x) (e h) ok)
 | .mapEntry t m k=>σ (Instr.mapEntry t (e m) (e k))
 | .range h9 x=>σ (Instr.range h9 (e x))
 | .entry w=>σ (Instr.entry (e w))
 | .typeAssert x h9 z ok=>σ (Instr.typeAssert (e x) h9 z ok)
 | .extract t h=>σ (Y1 (e t) h)
 |_=>ν
def uW(e:S4->x1):Op->Option (Sem Unit)
 | .store t a x=>σ (o9 t (e a) (e x))
 | .mapUpdate t m k x=>σ (Instr.mapUpdate t (e m) (e k) (e x))
 | .insert t m k x=>σ (Instr.mapUpdate t (e m) (e k) (e x))
 | .entryStore t m s x=>σ (Instr.entryStore t (e m) (e s) (e x))
 |_=>ν
def oR(b:Z6)(ats:Array p8)(a:p8)(args:Array x1):Option (Sem x1):=
 match b with
 | .append=>σ (Z2 ats a args)
 | .cap=>σ (Z6.cap_ ats a args)
 | .clear=>σ (Z6.clear_ ats a args)
 | .copy=>σ (Z6.copy_ ats a args)
 | .delete=>σ (Z6.delete_ ats a args)
 | .len=>σ (V2 ats a args)
 | .max=>σ (Z6.max_ ats a args)
 | .min=>σ (Z6.min_ ats a args)
 |_=>ν
theorem FL{s:Sem Next}(h:(r1 s).run P w= .ok v w'):s.run P w= .ok (.value v) w':=by
 unfold r1 at h;rw[W6]at h;cases U:s.run P w with
 |halt x V=>rw[U]at h;simp[W7]at h
 |ok x V=>
  rw[U]at h;cases x<;>simp_all [W7,stuck,V3]
theorem FM(x:x1)(b:Bool)(t:p8):Instr.next x b 0=Instr.next x b t:=rfl
theorem uX{f:S4->x1}{o:T7}{s:Sem x1}(h:qh f o.op=σ s)(a:s.run P w= .ok v w'):
  (execOp f o).run P w= .ok (.value v) w':=by
 cases e:o.op with
 |nilCheck x=>
  rw[e]at h;cases h;have:=FL P a;unfold execOp at this ⊢;simpa[e]using this
 |pick c x y=>
  rw[e]at h;cases h;unfold execOp;simp only[e,W6,V3]at a ⊢;cases p:(asBool (f c)).run P w with
  |halt x V=>rw[p]at a;simp[W7]at a
  |ok x V=>rw[p]at a;simp only[W7,Result.ok.injEq]at a ⊢;simp[a]
 |binOp op h9 x y q=>
  rw[e]at h;cases h;unfold execOp;simp only[e];unfold aN at a;rw[<-FI]at a;simp only[W6,V3]at a ⊢;rw[a];rfl
 |_=>
  rw[e]at h
  first
   |(cases h;done)
   |(cases h;simp only[uV,FJ]at a;unfold execOp;simp only[e,W6,a,W7,V3])
   |(cases h;unfold execOp;simp only[e,W6,a,W7,V3])
theorem FN{a:S4->x1}{o:T7}{s:Sem Unit}(h:uW a o.op=σ s){v:Unit}(f:s.run P w= .ok v w'):
  (execOp a o).run P w= .ok .skip w':=by
 cases e:o.op with
 |_=>
  rw[e]at h
  first
   |(cases h;done)
   |(cases h;unfold execOp;simp only[e,W6,f,W7,V3])
def Enters(f:R7):Prop:=∀args w,(callFunc f args).run P w= .ok (.enter f args) w
inductive am(f:R7)(args:List x1)(w:x3)(K:x1->x3->Prop):Prop
 |code (h1:Enters P f) (h2:Calls P f args.toArray w λe w'=>∃v,e= .returned v/\cN w w'/\K v w')
 |ext (v:x1) (w':x3) (h1:(callFunc f args.toArray).run P w= .ok (.value v) w') (h2:cN w w') (h3:K v w')
inductive gF(f:R7)(args:List x1)(w:x3)(K:x1->x3->Prop):Prop
 |code (h1:Enters P f) (h2:Calls P f args.toArray w λe w'=>∃v,e= .returned v/\K v w')
 |ext (v:x1) (w':x3) (h1:(callFunc f args.toArray).run P w= .ok (.value v) w') (h3:K v w')
theorem gF.calls{f:R7}{K:x1->x3->Prop}(h:gF P f args w K)(a:Enters P f):Calls P f args.toArray w λe w'=>∃v,e= .returned v/\K v w':=by
 cases h with
 |code _ h=>exact h
 |ext v w' h1=>rw[a]at h1;cases h1
def hN(l:Nat)(args:List x1)(w:x3)(K:x1->x3->Prop):Prop:=
 YieldAt Fence.wide 0 P l args.toArray w λe w'=>∃v,e= .returned v/\K v w'
theorem hN.mono{P:W8}{l:Nat}{K a:x1->x3->Prop}(h:hN P l args w K)(e:∀v w',K v w'->a v w'):hN P l args w a:=by
 obtain⟨fn,tmps,f,body,p,q⟩:=h;exact⟨fn,tmps,f,body,p,RoundIn.mono q λ_ w' ⟨v,h1,r⟩=>⟨v,h1,e v w' r⟩⟩
def r3(free:Bool)(f:x1)(args:List x1)(w:x3)(K:x1->x3->Prop):Prop:=
 match f with
 | .func (.func g) first cap=>bif free then gF P g (first.toList++args++cap.toList) w K else am P g (first.toList++args++cap.toList) w K
 | .func (.yield l) first _=>bif free then free=true/\hN P l (first.toList++args) w K else hN P l (first.toList++args) w λv w'=>cN w w'/\K v w'
 |_=>False
def ac(s:Sem x1)(w:x3)(K:x1->Prop):Prop:=∃v,(∀w',Ext w w'->s.run P w'= .ok v w')/\K v
def FO:List (Nat×Nat):=[(9,22),(22,22)]
def FP(s d:Nat):Bool:=FO.any λp=>S1 p.1 s&&S1 p.2 d
def jb(o:T7):Bool:=
 match o.op with
 | .convert s d _=>!FP s d
 | .move _| .assign _| .pick .. | .load .. | .nilCheck _| .binOp .. | .unOp .. | .makeInterface .. | .makeFunc .. | .slice .. | .fieldAddr .. | .field ..
 | .indexAddr .. | .index .. | .lookup .. | .extract .. | .build .. | .typeAssert ..=>true
 | .call c=>
  match c.callee with
  | .builtin .len| .builtin .cap| .builtin .min| .builtin .max=>true
  |_=>false
 |_=>false
def cD(s:Sem x1)(v:x1)(w':x3):Prop:=∀a,Ext w' a->s.run P a= .ok v a
def lS(o:T7)(e:Env)(w:x3)(K:Env->(x3->Prop)->Prop):Prop:=
 bif known e (opsOf o.op)then
  match o.op with
  | .move x| .assign x=>
   match eD e x with
   |some y=>K (dU e o.dst y) (λ_=>True)
   |none=>False
  | .pick c a b=>
   match eD e c with
   |some (.b true)=>(match eD e a with|some y=>K (dU e o.dst y) (λ_=>True)|none=>False)
   |some (.b false)=>(match eD e b with|some y=>K (dU e o.dst y) (λ_=>True)|none=>False)
   |some (.v x)=>Split x (K (dU e o.dst (.v (cV e a))) (λ_=>True)) (K (dU e o.dst (.v (cV e b))) (λ_=>True))
   |some .u=>False
   |none=>False
  | .call c=>
   match c.callee with
   | .builtin b=>
    match oR b c.argTypes o.type (bR (cV e) c.args.toList).toArray with
    |some s=>ac P s w λv=>K (dU e o.dst (.v v)) (cD P s v)
    |none=>False
   |_=>False
  |op=>
   match qh (cV e) op with
   |some s=>ac P s w λv=>K (dU e o.dst (.v v)) (cD P s v)
   |none=>False
 else False
def uY(free:fH)(o:T7)(e:Env)(w:x3)(K:Env->x3->Prop):Prop:=
 bif known e (opsOf o.op)then
  match o.op with
  | .call c=>
   match c.callee with
   | .builtin b=>
    match oR b c.argTypes o.type (bR (cV e) c.args.toList).toArray with
    |some s=>aD P s w λv w'=>K (dU e o.dst (.v v)) w'
    |none=>False
   | .value (.func f)=>
    bif free.1 then gF P f (bR (cV e) c.args.toList) w λv w'=>K (dU e o.dst (.v v)) w'
    else am P f (bR (cV e) c.args.toList) w λv w'=>K (dU e o.dst (.v v)) w'
   | .value x=>r3 P free.1 (cV e x) (bR (cV e) c.args.toList) w λv w'=>K (dU e o.dst (.v v)) w'
   | .invoke _ _=>False
  | .next x str=>r0 P free (Instr.next (cV e x) str 0) w λv w'=>K (dU e o.dst (.v v)) w'
  |op=>
   match qh (cV e) op with
   |some s=>aD P s w λv w'=>K (dU e o.dst (.v v)) w'
   |none=>
    match uW (cV e) op with
    |some s=>aD P s w λ_ w'=>K (dU e o.dst (.v undef)) w'
    |none=>False
 else False
def oS(free:fH)(o:T7)(e:Env)(w:x3)(K:Env->x3->Prop):Prop:=
 bif jb o then lS P o e w (λa _=>K a w)else uY P free o e w K
theorem Enters.of{f:R7}{fn:Func}{c:Code}(ag:P.funcs[f]?=σ fn)(a:fn.body=σ c)(e:(fn.name == "runtime.NumGoroutine")=false):Enters P f:=by
 intro args w;have h:fn.name≠ "runtime.NumGoroutine":=by simpa using e
 unfold callFunc;simp[W6,program,Sem.run,W7,ag,h,a,V3]
variable{P}
variable{N:Nat}{r:Option Nat}{o:T7}{e:Env}{a:Act}{w:x3}
theorem kp(f:S6 N e a)(hk:known e (opsOf o.op)=true)(U:∀cs b,o.op≠ .select cs b)(h:∀c,o.op≠ .go c:=by simp_all)(p:∀c,o.op≠ .defer c:=by simp_all):
  execOp a.eval o=execOp (cV e) o:=
 execOp_congr o U λx J=>f.eval (uT hk x (FK h p U x J))
theorem qi{next:Act->x3->Prop}{Q:Exit->Act->x3->Prop}(p:S6 N e a)(hk:known e (opsOf o.op)=true)(U:∀cs b,o.op≠ .select cs b)(f:∀c,o.op≠ .defer c){v:x1}{w':x3}(q:(execOp (cV e) o).run P w= .ok (.value v) w')(h:next (a.put o.dst v) w')(s:∀c,o.op≠ .go c:=by simp_all):o.wpIn (ep r) 0 P a w next Q:=by
 refine⟨λ_ _=>trivial,?_⟩;rw[T7.semAt_eq _ _ _ f,kp p hk U s f,q,T7.uponIn_value];exact h
theorem FQ{next:Act->x3->Prop}{Q:Exit->Act->x3->Prop}(p:S6 N e a)(hk:known e (opsOf o.op)=true)(U:∀cs b,o.op≠ .select cs b)(f:∀c,o.op≠ .defer c){w':x3}(q:(execOp (cV e) o).run P w= .ok .skip w')(h:next (a.put o.dst undef) w')(s:∀c,o.op≠ .go c:=by simp_all):o.wpIn (ep r) 0 P a w next Q:=by
 refine⟨λ_ _=>trivial,?_⟩;rw[T7.semAt_eq _ _ _ f,kp p hk U s f,q,T7.uponIn_skip];exact h
def fk(N:Nat)(free:fH)(K:Env->x3->Prop)(o:T7)(a:Act)(w:x3)(a':Act)(w':x3):Prop:=
 ∃e v,K e w'/\S6 N e a'/\a'=a.put o.dst v/\(free.1=false->cC free.2 w w')
theorem fk.of{free:fH}{K:Env->x3->Prop}{x:ev}(f:K (dU e o.dst x) w')(h:S6 N e a)(p:jM N o.dst=true)(J:x.val=v)(q:free.1=false->cC free.2 w w'):fk N free K o a w (a.put o.dst v) w':=⟨_,v,f,h.put p J,rfl,q⟩
theorem yy{free:fH}{K:Env->x3->Prop}{Q:Exit->Act->x3->Prop}{f:R7}{args:Array x1}(q:S6 N e a)(s:jM N o.dst=true)(h:Calls P f args w λp w'=>∃v,p= .returned v/\(free.1=false->cC free.2 w w')/\K (dU e o.dst (.v v)) w'):
  o.uponIn (ep r) 0 P a (fk N free K o a w) Q (.ok (.enter f args) w):=by
 rw[T7.uponIn_enter];refine⟨uU _ _,CallsIn.mono (yw h) ?_⟩;rintro p w' ⟨v,rfl,x,y⟩;exact fk.of y q s rfl x
theorem lT{x:S4}{y:ev}(h:eD e x=σ y):cV e x=y.val:=by simp[cV,h]
theorem yz{l:List S4}{x:S4}(hk:known e l=true)(J:x∈l):∃y,eD e x=σ y:=Option.isSome_iff_exists.1 (uT hk x J)
theorem yA{K:Env->(x3->Prop)->Prop}(h:lS P o e w K)(A:S6 N e a)(L:jM N o.dst=true):
  ∃v,∃st:x3->Prop,(∀w',Ext w w'->(execOp a.eval o).run P w'= .ok (.value v) w')/\(∃B,K B st/\S6 N B (a.put o.dst v))/\(∀c,o.op≠ .defer c)/\
   (∀w',st w'->∀p,Ext w' p->(execOp a.eval o).run P p= .ok (.value v) p):=by
 unfold lS at h;cases hk:known e (opsOf o.op)with
 |false=>rw[hk]at h;exact h.elim
 |true=>
  rw[hk]at h;simp only[cond_true]at h;have put:∀{x:ev}{v:x1}{st:x3->Prop},K (dU e o.dst x) st->x.val=v->∃B,K B st/\S6 N B (a.put o.dst v):=λh1 C=>⟨_,h1,A.put L C⟩;cases f:o.op with
  |move x=>
   rw[f]at h;simp only at h;cases J:eD e x with
   |none=>rw[J]at h;exact h.elim
   |some y=>
    rw[J]at h;have all:∀w':x3,(execOp a.eval o).run P w'= .ok (.value y.val) w':=λw'=>by
     rw[kp A hk (by simp[f])];unfold execOp;simp only[f,V3,lT J]
    exact⟨y.val,_,λw' _=>all w',put h rfl,Ξ,λ_ _ p _=>all p⟩
  |assign x=>
   rw[f]at h;simp only at h;cases J:eD e x with
   |none=>rw[J]at h;exact h.elim
   |some y=>
    rw[J]at h;have all:∀w':x3,(execOp a.eval o).run P w'= .ok (.value y.val) w':=λw'=>by
     rw[kp A hk (by simp[f])];unfold execOp;simp only[f,V3,lT J]
    exact⟨y.val,_,λw' _=>all w',put h rfl,Ξ,λ_ _ p _=>all p⟩
  |pick c x y=>
   rw[f]at h;simp only at h;have F:=hk;rw[f]at F;obtain⟨Q,J⟩:=yz F (x:=x) (by simp[opsOf]);obtain⟨R,I⟩:=yz F (x:=y) (by simp[opsOf]);have E:∀(t:Bool)(w':x3),cV e c= .bool t->(execOp a.eval o).run P w'= .ok (.value (if t=true then cV e x else cV e y)) w':=by
    intro t w' G;rw[kp A hk (by simp[f])];unfold execOp;simp[f,G,asBool,V3]
   cases q:eD e c with
   |none=>rw[q]at h;exact h.elim
   |some M=>
    rw[q]at h;cases M with
    |b t=>
     cases t with
     |true=>
      simp only[J]at h;exact⟨_,_,λw' _=>E true w' (lT q),put h (by simp[lT J]),Ξ,λ_ _ w' _=>E true w' (lT q)⟩
     |false=>
      simp only[I]at h;exact⟨_,_,λw' _=>E false w' (lT q),put h (by simp[lT I]),Ξ,λ_ _ w' _=>E false w' (lT q)⟩
    |v z=>
     obtain⟨t,O,G,ag⟩:=h;have r:=λw'=>E t w' (by rw[lT q];exact O);cases t with
     |true=>exact⟨_,_,λw' _=>r w',put (G rfl) rfl,Ξ,λ_ _ w' _=>r w'⟩
     |false=>exact⟨_,_,λw' _=>r w',put (ag rfl) rfl,Ξ,λ_ _ w' _=>r w'⟩
    |u=>exact h.elim
  |call c=>
   rw[f]at h;simp only at h;cases q:c.callee with
   |builtin b=>
    rw[q]at h;simp only at h;rw[uV]at h;cases U:oR b c.argTypes o.type (c.args.map (cV e))with
    |none=>rw[U]at h;exact h.elim
    |some s=>
     rw[U]at h;obtain⟨v,r,H⟩:=h;have all:∀w':x3,s.run P w'= .ok v w'->(execOp a.eval o).run P w'= .ok (.value v) w':=λw' r=>by
      rw[kp A hk (by simp[f])];unfold execOp;cases b<;>simp only[oR]at U<;>first|(cases U;done)|(cases U;simp[f,q,resolve,invoke,builtin,r,W7])
     exact⟨v,_,λw' hw=>all w' (r w' hw),put H rfl,Ξ,λw' h1 p C=>all p (h1 p C)⟩
   |value x=>rw[q]at h;exact h.elim
   |invoke x m=>rw[q]at h;exact h.elim
  |_=>
   rw[f]at h
   first
    |(simp only[qh]at h;done)
    |(obtain⟨v,r,H⟩:=h
      refine⟨v,_,λw' hw=>?_,put H rfl,Ξ,λw' h1 p C=>?_⟩
      .rw[kp A hk (by simp[f])];exact uX P (by rw[f];rfl) (r w' hw)
      .rw[kp A hk (by simp[f])];exact uX P (by rw[f];rfl) (h1 p C))
theorem FR{free:fH}{K:Env->x3->Prop}{Q:Exit->Act->x3->Prop}(h:uY P free o e w K)(q:S6 N e a)(E:jM N o.dst=true):
  o.wpIn (ep r) 0 P a w (fk N free K o a w) Q:=by
 unfold uY at h;cases hk:known e (opsOf o.op)with
 |false=>rw[hk]at h;exact h.elim
 |true=>
  rw[hk]at h;simp only[cond_true]at h;cases p:o.op with
  |call c=>
   rw[p]at h;simp only at h;cases F:c.callee with
   |builtin b=>
    rw[F]at h;simp only at h;rw[uV]at h;cases U:oR b c.argTypes o.type (c.args.map (cV e))with
    |none=>rw[U]at h;exact h.elim
    |some s=>
     rw[U]at h;obtain⟨v,w',z,B,C⟩:=h;refine qi q hk (by simp[p]) (by simp[p]) (v:=v) (w':=w') ?_ (fk.of C q E rfl λ_=>B.b);unfold execOp;cases b<;>simp only[oR]at U<;>first|(cases U;done)|(cases U;simp[p,F,resolve,invoke,builtin,z,W7])
   |value x=>
    rw[F]at h;have step:∀(d:Deferred)(y:x1),cV e x=y->Deferred.ofValue y (c.args.map (cV e))=pure d->
      (invoke d.target d.args).run P w=(execOp (cV e) o).run P w:=by
     intro d y A S;unfold execOp;simp only[p,F,resolve,A,S,W6,V3,W7]
    have I:∀(g:R7)(first cap:Array x1),cV e x= .func (.func g) first cap->
      (execOp (cV e) o).run P w=(callFunc g (first.toList++bR (cV e) c.args.toList++cap.toList).toArray).run P w:=by
     intro g first cap A
     rw[<-step {target:=.fn (.func g) cap,args:=first++c.args.map (cV e)} _ A rfl];simp only[invoke];have J:first++c.args.map (cV e)++cap=(first.toList++bR (cV e) c.args.toList++cap.toList).toArray:=by apply Array.toList_inj.1;simp[r2]
     rw[J]
    have enter:∀(g:R7)(first cap:Array x1),cV e x= .func (.func g) first cap->Enters P g->
      (execOp (cV e) o).run P w= .ok (.enter g (first.toList++bR (cV e) c.args.toList++cap.toList).toArray) w:=by
     intro g first cap A G
     rw[I g first cap A,G]
    have go:∀(g:R7)(first cap:Array x1),cV e x= .func (.func g) first cap->
      (bif free.1 then gF P g (first.toList++bR (cV e) c.args.toList++cap.toList) w λv w'=>K (dU e o.dst (.v v)) w'
       else am P g (first.toList++bR (cV e) c.args.toList++cap.toList) w λv w'=>K (dU e o.dst (.v v)) w')->
      o.wpIn (ep r) 0 P a w (fk N free K o a w) Q:=by
     intro g first cap A h
     obtain⟨fr,T⟩:=free;cases fr with
     |true=>
      rcases h with⟨G,L⟩|⟨v,w',z,C⟩
      .refine⟨λ_ _=>trivial,?_⟩;rw[T7.semAt_eq _ _ _ (by simp[p]),kp q hk (by simp[p])];rw[enter g first cap A G];exact yy q E (L.mono λH w' ⟨v,h1,M⟩=>⟨v,h1,(λh=>by cases h),M⟩)
      .rw[<-I g first cap A]at z;exact qi q hk (by simp[p]) (by simp[p]) z (fk.of C q E rfl λh=>by cases h)
     |false=>
      rcases h with⟨G,L⟩|⟨v,w',z,B,C⟩
      .refine⟨λ_ _=>trivial,?_⟩;rw[T7.semAt_eq _ _ _ (by simp[p]),kp q hk (by simp[p])];rw[enter g first cap A G];exact yy q E (L.mono λH w' ⟨v,h1,B,M⟩=>⟨v,h1,λ_=>B.b,M⟩)
      .rw[<-I g first cap A]at z;exact qi q hk (by simp[p]) (by simp[p]) z (fk.of C q E rfl λ_=>B.b)
    have O:r3 P free.1 (cV e x) (bR (cV e) c.args.toList) w (λv w'=>K (dU e o.dst (.v v)) w')->
      o.wpIn (ep r) 0 P a w (fk N free K o a w) Q:=by
     intro h;unfold r3 at h;split at h
     .rename_i g first cap A
      exact go g first cap A h
     .rename_i l first cap A
      obtain⟨fn,tmps,R,body,V,W⟩:hN P l (first.toList++bR (cV e) c.args.toList) w λv w'=>(free.1=false->cC free.2 w w')/\K (dU e o.dst (.v v)) w':=by
       obtain⟨fr,T⟩:=free;cases fr with
       |true=>exact hN.mono h.2 λv w' hk=>⟨(λh=>by cases h),hk⟩
       |false=>exact hN.mono h λv w' hk=>⟨λ_=>hk.1.b,hk.2⟩
      refine⟨λ_ _=>trivial,?_⟩;rw[T7.semAt_eq _ _ _ (by simp[p]),kp q hk (by simp[p])];have:(execOp (cV e) o).run P w= .ok (.round l fn tmps R body) w:=by
       rw[<-step {target:=.fn (.yield l) cap,args:=first++c.args.map (cV e)} _ A rfl,<-V];have J:(first.toList++bR (cV e) c.args.toList).toArray=first++c.args.map (cV e):=by apply Array.toList_inj.1;simp[r2]
       rw[J];rfl
      rw[this,T7.uponIn_round];refine⟨uU _ _,?_⟩;have X:RoundIn (ep r) (0-1) P l fn tmps R body w λH w'=>∃v,H= .returned v/\(free.1=false->cC free.2 w w')/\K (dU e o.dst (.v v)) w':=W;refine RoundIn.mono X ?_;rintro H w' ⟨v,rfl,B,C⟩;exact fk.of C q E rfl B
     .exact h.elim
    cases x with
    |func f=>exact go f #[] #[] rfl (by simpa using h)
    |tmp t=>exact O h
    |const v=>exact O h
    |global g=>exact O h
   |invoke x m=>rw[F]at h;exact h.elim
  |next x str=>
   rw[p]at h;obtain⟨v,w',z,B,C⟩:=h;refine qi q hk (by simp[p]) (by simp[p]) (v:=v) (w':=w') ?_ (fk.of C q E rfl B);rw[FM _ _ o.type]at z;unfold execOp;simp only[p,W6,z,W7,V3]
  |_=>
   rw[p]at h
   first
    |(simp only[qh,uW]at h;done)
    |(obtain⟨v,w',z,B,C⟩:=h
      exact qi q hk (by simp[p]) (by simp[p]) (uX P (by rw[p];rfl) z) (fk.of C q E rfl λ_=>B.b))
    |(obtain⟨v,w',z,B,C⟩:=h
      exact FQ q hk (by simp[p]) (by simp[p]) (FN P (by rw[p];rfl) z) (fk.of C q E rfl λ_=>B.b))
theorem r4{free:fH}{K:Env->x3->Prop}{Q:Exit->Act->x3->Prop}(h:oS P free o e w K)(p:S6 N e a)(q:jM N o.dst=true):
  o.wpIn (ep r) 0 P a w (fk N free K o a w) Q:=by
 unfold oS at h;cases s:jb o with
 |false=>rw[s]at h;exact FR h p q
 |true=>
  rw[s]at h;have h:lS P o e w (λf _=>K f w):=h;obtain⟨v,st,x,⟨f,y,z⟩,A,_⟩:=yA h p q;refine⟨λ_ _=>trivial,?_⟩;rw[T7.semAt_eq _ _ _ A,x w (Ext.refl _),T7.uponIn_value];exact⟨f,v,y,z,rfl,λ_=>cC.refl _ _⟩
end
section
variable{P:W8}
def Still{α:Type}(P:W8)(s:Sem α):Prop:=∀w v V,s.run P w= .ok v V->V=w/\∀w',s.run P w'= .ok v w'
theorem Still.pure{α:Type}(a:α):Still P (Pure.pure a:Sem α):=λw v V h=>by
 rw[V3]at h;cases h;exact⟨rfl,λw'=>by rw[V3]⟩
theorem Still.bind{α β:Type}{s:Sem α}{f:α->Sem β}(U:Still P s)(ag:∀a,Still P (f a)):Still P (s >>= f):=λw v V h=>by
 rw[W6]at h;cases e:s.run P w with
 |halt x aa=>rw[e]at h;simp[W7]at h
 |ok a aa=>
  rw[e]at h;obtain⟨rfl,p⟩:=U w a aa e;obtain⟨rfl,q⟩:=ag a _ v V h;exact⟨rfl,λw'=>by rw[W6,p w'];exact q w'⟩
theorem Still.never{α:Type}{s:Sem α}(h:∀w v V,s.run P w≠ .ok v V):Still P s:=λw v V h'=>absurd h' (h w v V)
theorem Still.stuck{α:Type}(m:String):Still P (stuck m:Sem α):=.never λw v V h=>by simp[Go.stuck]at h
theorem Still.unsupported{α:Type}(m):Still P (unsupported m:Sem α):=.never λw v V h=>by simp[Go.unsupported]at h
theorem Still.program:Still P program:=λw v V h=>by cases h;exact⟨rfl,λ_=>rfl⟩
theorem Still.underlying(t:p8):Still P (underlying t):=Still.bind .program λp=>by
 cases p.underlying t with
 |some d=>exact Still.pure d
 |none=>exact Still.stuck _
theorem Still.typeInfo(t:p8):Still P (typeInfo t):=Still.bind .program λp=>by
 cases p.info? t with
 |some d=>exact Still.pure d
 |none=>exact Still.stuck _
theorem Still.sizeOf(t:p8):Still P (sizeOf t):=Still.bind (.typeInfo t) λ_=>Still.pure _
theorem Still.boundsPanic{α:Type}(k:o6)(x y:Int)(c:BoundsCode):Still P (boundsPanic k x y c:Sem α):=.never λw v V h=>by
 have e:∀(s:Sem Bool)(w:x3)(v:α)(V:x3),(s >>= λb=>(runtimePanic (.bounds (X9.wrap x) y b c):Sem α)).run P w≠ .ok v V:=by
  intro s w v V h;rw[W6]at h;cases f:s.run P w with
  |halt x aa=>rw[f]at h;simp[W7]at h
  |ok a aa=>rw[f]at h;simp[W7,Go.runtimePanic,Go.goPanic]at h
 unfold Go.boundsPanic at h;dsimp only at h;split at h
 .exact e _ _ _ _ h
 .exact e _ _ _ _ h
theorem Still.asIntOf(v:x1):Still P (asIntOf v):=by
 unfold Go.asIntOf;split
 .exact Still.pure _
 .exact Still.unsupported _
 .exact Still.stuck _
theorem Still.sureAddr(v:x1):Still P (Instr.sureAddr v):=by
 unfold Instr.sureAddr;split
 .exact Still.pure _
 .exact Still.stuck _
theorem Still.extract(v:x1)(i:Nat):Still P (Y1 v i):=by
 unfold Y1;split
 .split
  .exact Still.pure _
  .exact Still.stuck _
 .exact Still.stuck _
theorem Still.indexAt(t:p8)(x i:x1):Still P (c9 t x i):=by
 have tail:∀(t:p8)(k:o6)(i:Int)(base:Option Addr)(len:Nat)(e:p8),Still P (do
   let f:=len<=1&&(match <-Go.underlying t with| .array ..=>true|_=>false)
   match base with
   |some a=>
    if 0<=i/\i<len then Pure.pure (x1.pointer (σ (a.add (i.toNat*(<-Go.sizeOf e)))))
    else if f then Go.unsupported (.noEntry "op/indexAddr.an index out of range at an array of length 0 or 1 (ledger 616)")
    else Go.boundsPanic k i len .index
   |none=>Go.boundsPanic k i 0 .index):=by
  intro t k i base len e;refine .bind (.underlying t) λd=>?_;cases base with
  |none=>exact Still.boundsPanic _ _ _ _
  |some a=>
   dsimp only;split
   .exact .bind (.sizeOf e) λ_=>.pure _
   .split<;>split<;>first|exact Still.unsupported _|exact Still.boundsPanic _ _ _ _
 unfold c9;refine .bind (.asIntOf i) λh=>?_;refine .bind (.underlying t) λd=>?_;split
 .refine .bind (.sureAddr _) λb=>?_;refine .bind (.pure _) λy=>?_;exact tail _ _ _ _ _ _
 .refine .bind (.pure _) λy=>?_;exact tail _ _ _ _ _ _
 .refine .bind (.stuck _) λy=>?_;exact tail _ _ _ _ _ _
end
section
variable(P:W8)
def r5(free:fH)(ops:Array T7)(o:T7)(e:Env)(w:x3)(K:Env->x3->Prop):Prop:=
 match o.guard with
 |none=>oS P free o e w K
 |some (j,b)=>
  match(ops[j]?).bind (·.dst)with
  |none=>False
  |some s=>
   match look e s with
   |some (.b c)=>bif xor c b then K (dU e o.dst .u) w else oS P free o e w K
   |some (.v x)=>
    Split x (bif b then oS P free o ((s,.b true)::e) w K else K (dU ((s,.b true)::e) o.dst .u) w)
     (bif b then K (dU ((s,.b false)::e) o.dst .u) w else oS P free o ((s,.b false)::e) w K)
   |some .u=>K (dU e o.dst .u) w
   |none=>False
def oT(free:fH)(ops:Array T7):List T7->Env->x3->(Env->x3->Prop)->Prop
 |[],e,w,K=>K e w
 |o::l,e,w,K=>r5 P free ops o e w λa w'=>oT free ops l a w' K
def uZ(ops:Array T7)(o:T7)(e:Env)(w:x3)(K:Env->(x3->Prop)->Prop):Prop:=
 match o.guard with
 |none=>lS P o e w K
 |some (j,b)=>
  match(ops[j]?).bind (·.dst)with
  |none=>False
  |some s=>
   match look e s with
   |some (.b c)=>bif xor c b then K (dU e o.dst .u) (λ_=>True)else lS P o e w K
   |some (.v x)=>
    Split x (bif b then lS P o ((s,.b true)::e) w K else K (dU ((s,.b true)::e) o.dst .u) (λ_=>True))
     (bif b then K (dU ((s,.b false)::e) o.dst .u) (λ_=>True)else lS P o ((s,.b false)::e) w K)
   |some .u=>K (dU e o.dst .u) (λ_=>True)
   |none=>False
def lU(o:T7):Bool:=
 match o.op with
 | .move _| .assign _| .extract .. | .indexAddr ..=>true
 |_=>false
def my(ops:Array T7):List Nat->Option Nat
 |[]=>ν
 |i::r=>match ops[i]? with
  |some o=>bif jb o then σ i else my ops r
  |none=>my ops r
def u0(p:Nat->Prop):List Nat->Prop
 |[]=>True
 |[i]=>p i
 |i::r=>p i/\u0 p r
def k1(bs:Array Nat)(j k:Nat):Bool:=!(S1 k j)&&(!((bs.getD j 0).testBit k)&& !((bs.getD k 0).testBit j))
def qj(same:Bool)(q:Nat)(w:x3)(st:x3->Prop)(a:List (x3×List (Nat×(x3->Prop)))):List (x3×List (Nat×(x3->Prop))):=
 match same,a with
 |true,g::r=>(g.1,(q,st)::g.2)::r
 |_,a=>(w,[(q,st)])::a
def qk(bs:Array Nat)(j:Nat):List (Nat×(x3->Prop))->Bool
 |[]=>false
 |x::r=>k1 bs j x.1||qk bs j r
def oU(bs:Array Nat)(j:Nat)(w':x3):List (Nat×(x3->Prop))->Prop
 |[]=>True
 |x::r=>bif k1 bs j x.1 then x.2 w'/\oU bs j w' r else oU bs j w' r
def nA(bs:Array Nat)(j:Nat)(w':x3)(C:Prop):List (x3×List (Nat×(x3->Prop)))->Prop
 |[]=>C
 |g::r=>bif qk bs j g.2 then(Ext g.1 w'\/oU bs j w' g.2)/\nA bs j w' C r else nA bs j w' C r
def mz(free:fH)(ops:Array T7)(bs:Array Nat):Nat->Array Bool->Bool->List (x3×List (Nat×(x3->Prop)))->Env->x3->(Env->x3->Prop)->Prop
 |0,a,_,_,e,w,K=>match Region.ready .any ops a with|[]=>K e w|_=>False
 |fuel+1,a,same,f,e,w,K=>
  match Region.ready .any ops a with
  |[]=>K e w
  |i::r=>
   match my ops (i::r)with
   |some q=>
    bif Region.free .any ops a q then
     match ops[q]? with
     |some o=>uZ P ops o e w λh st=>
       bif lU o then mz free ops bs fuel (a.setIfInBounds q true) same f h w K
       else mz free ops bs fuel (a.setIfInBounds q true) true (qj same q w st f) h w K
     |none=>False
    else False
   |none=>
    u0 (λj=>match ops[j]? with
     |some o=>r5 P free ops o e w λh w'=>nA bs j w' (mz free ops bs fuel (a.setIfInBounds j true) false f h w' K) f
     |none=>False) (i::r)
def u1(free:fH)(ops:Array T7)(e:Env)(w:x3)(K:Env->x3->Prop):Prop:=
 bif Region.noSelect ops then mz P free ops (Region.before ops) ops.size (Array.replicate ops.size false) false [] e w K else False
end
section
variable{P:W8}{N:Nat}{r:Option Nat}{free:fH}{ops:Array T7}
theorem FS{e:Env}{a:Act}(p:S6 N e a){s:Nat}{c:Bool}(q:(ops[j]?).bind (·.dst)=σ s){x:ev}(U:look e s=σ x)(J:x.val= .bool c):
  yielded ops a.tmps j=σ c:=by
 have h:=p.2 s x U;rw[J]at h;have r:a.tmps[s]?=σ (.bool c):=by
  rw[Array.getD_eq_getD_getElem?]at h;cases f:a.tmps[s]? with
  |none=>rw[f]at h;simp[undef]at h
  |some y=>rw[f]at h;simpa using h
 simp[yielded,q,r]
theorem r6{e:Env}{a:Act}(f:S6 N e a){o:T7}{s:Nat}{b c:Bool}(h:o.guard=σ (j,b))(p:(ops[j]?).bind (·.dst)=σ s){x:ev}(U:look e s=σ x)(J:x.val= .bool c):Region.wanted o (yielded ops a.tmps)= !(xor c b):=by
 simp only[Region.wanted,h,FS f p U J];cases c<;>cases b<;>rfl
theorem yB{e:Env}{a:Act}(p:S6 N e a){o:T7}{s:Nat}{b:Bool}(q:o.guard=σ (j,b))(r:(ops[j]?).bind (·.dst)=σ s)(U:look e s=σ .u):Region.wanted o (yielded ops a.tmps)=false:=by
 have h:=p.2 s .u U;have w:yielded ops a.tmps j=ν:=by
  rw[Array.getD_eq_getD_getElem?]at h;unfold yielded;rw[r];cases f:a.tmps[s]? with
  |none=>simp[f]
  |some y=>
   rw[f]at h;simp only[V1,ev.val]at h;subst h;simp[f,undef]
 simp[Region.wanted,q,w]
theorem S6.lit{e:Env}{a:Act}(h:S6 N e a){s:Nat}{x:ev}{c:Bool}(U:look e s=σ x)(J:x.val= .bool c):S6 N ((s,.b c)::e) a:=by
 refine⟨h.1,λt y f=>?_⟩;simp only[look]at f;cases p:S1 s t with
 |true=>
  have:s=t:=Nat.eq_of_beq_eq_true p;subst this;simp only[p,cond_true,Y2]at f;subst f;rw[h.2 s x U,J];rfl
 |false=>simp only[p,cond_false]at f;exact h.2 t y f
theorem yC{o:T7}{e:Env}{a:Act}{K:Env->x3->Prop}{Q:Exit->Act->x3->Prop}(h:r5 P free ops o e w K)(f:S6 N e a)(p:jM N o.dst=true):
  (Region.wanted o (yielded ops a.tmps)=true/\o.wpIn (ep r) 0 P a w (fk N free K o a w) Q)\/
  (Region.wanted o (yielded ops a.tmps)=false/\fk N free K o a w (a.put o.dst undef) w):=by
 unfold r5 at h;cases q:o.guard with
 |none=>rw[q]at h;exact .inl ⟨by simp[Region.wanted,q],r4 h f p⟩
 |some C=>
  obtain⟨j,b⟩:=C;rw[q]at h;simp only at h;cases z:(ops[j]?).bind (·.dst)with
  |none=>rw[z]at h;exact h.elim
  |some s=>
   rw[z]at h;simp only at h;cases U:look e s with
   |none=>rw[U]at h;exact h.elim
   |some x=>
    rw[U]at h;cases x with
    |b c=>
     simp only at h;have hw:=r6 f q z U (c:=c) rfl;cases J:xor c b with
     |true=>
      rw[J]at h hw;exact .inr ⟨hw,fk.of h f p rfl λ_=>cC.refl _ _⟩
     |false=>
      rw[J]at h hw;exact .inl ⟨hw,r4 h f p⟩
    |v y=>
     simp only at h;obtain⟨c,rfl,A,ag⟩:=h;have hw:=r6 f q z U (c:=c) rfl;have B:=f.lit U (c:=c) rfl;cases c with
     |true=>
      have A:=A rfl;cases b with
      |true=>exact .inl ⟨hw,r4 A B p⟩
      |false=>exact .inr ⟨hw,fk.of A B p rfl λ_=>cC.refl _ _⟩
     |false=>
      have ag:=ag rfl;cases b with
      |true=>exact .inr ⟨hw,fk.of ag B p rfl λ_=>cC.refl _ _⟩
      |false=>exact .inl ⟨hw,r4 ag B p⟩
    |u=>exact .inr ⟨yB f q z U,fk.of h f p rfl λ_=>cC.refl _ _⟩
def gG(D:List Nat)(a a':Act):Prop:=a'.defers=a.defers/\∀t,t∉D->a'.tmps.getD t undef=a.tmps.getD t undef
theorem gG.refl(D:List Nat)(a:Act):gG D a a:=⟨rfl,λ_ _=>rfl⟩
theorem gG.trans{a b c:Act}(h:gG D a b)(k:gG D b c):gG D a c:=⟨k.1.trans h.1,λt e=>(k.2 t e).trans (h.2 t e)⟩
theorem gG.put(a:Act){d:Option Tmp}(v:x1)(e:∀t,d=σ t->t∈D):gG D a (a.put d v):=by
 cases d with
 |none=>exact gG.refl _ _
 |some s=>
  refine⟨rfl,λt f=>?_⟩;have p:s≠t:=λh=>f (h▸e s rfl);simp only[Act.put,Array.getD_eq_getD_getElem?];rw[Array.getElem?_setIfInBounds_ne p]
def mA(N:Nat)(free:fH)(K:Env->x3->Prop)(D:List Nat)(a:Act)(w:x3)(a':Act)(w':x3):Prop:=
 ∃e,K e w'/\S6 N e a'/\gG D a a'/\(free.1=false->cC free.2 w w')
theorem mA.step{K:Env->x3->Prop}{a e a':Act}{V:x3}(h:mA N free K D e V a' w')(hk:gG D a e)(f:free.1=false->cC free.2 w V):
  mA N free K D a w a' w':=by
 obtain⟨p,h1,q,r,s⟩:=h;exact⟨p,h1,q,hk.trans r,λag=>(f ag).trans (s ag)⟩
def nB(N:Nat)(l:List T7):Bool:=l.all λo=>jM N o.dst
theorem FT{K:Env->x3->Prop}{Q:Exit->Act->x3->Prop}(A:∀o∈ops.toList,∀t,o.dst=σ t->t∈D)(x:nB N ops.toList=true):
  ∀(l:List T7)(k:Nat)(e:Env)(a:Act)(w:x3),(∀j,l[j]?=ops[k+j]?)->oT P free ops l e w K->S6 N e a->
   (∀a' w',mA N free K D a w a' w'->Q .normal a' w')->wpOpsIn (ep r) 0 P ops Q (List.range' k l.length) a w:=by
 intro l;induction l with
 |nil=>
  intro k e a w _ h f p;exact p a w ⟨e,h,f,gG.refl _ _,λ_=>cC.refl _ _⟩
 |cons o l B=>
  intro k e a w y h f p;have q:=y 0;simp only[List.getElem?_cons_zero,Nat.add_zero]at q;have z:o∈ops.toList:=by
   have:=q.symm;rw[<-S9]at this;exact x5 this
  have C:jM N o.dst=true:=by
   simp only[nB,List.all_eq_true]at x;exact x o z
  have E:∀j,l[j]?=ops[k+1+j]?:=λj=>by
   have:=y (j+1);rw[List.getElem?_cons_succ]at this;rw[this];congr 1;omega
  have next:∀s V,fk N free (λF w'=>oT P free ops l F w' K) o a w s V->wpOpsIn (ep r) 0 P ops Q (List.range' (k+1) l.length) s V:=by
   rintro s V ⟨G,v,H,I,rfl,L⟩;refine B (k+1) G _ V E H I λa' w' M=>p a' w' (M.step (gG.put a v λt O=>A o z t O) L)
  simp only[oT]at h;show wpOpsIn (ep r) 0 P ops Q (k::List.range' (k+1) l.length) a w;unfold wpOpsIn;rw[<-q];simp only;rcases yC (r:=r) (Q:=Q) h f C with⟨hw,J⟩|⟨hw,J⟩
  .rw[if_pos hw];exact T7.wpIn_mono next J
  .rw[hw];exact⟨λ_ _=>trivial,next _ _ J⟩
theorem FU{K:Env->x3->Prop}{Q:Exit->Act->x3->Prop}{id:Nat}{e:Env}{a:Act}(f:∀o∈ops.toList,∀t,o.dst=σ t->t∈D)(p:nB N ops.toList=true)(h:oT P free ops ops.toList e w K)(q:S6 N e a)(s:∀a' w',mA N free K D a w a' w'->Q .normal a' w'):
  (Code.region id ops false).wpIn (ep r) 0 P Q a w:=by
 refine wpIn_region ?_;have:=FT (r:=r) f p ops.toList 0 e a w (λj=>Ξ) h q s;rw[List.range_eq_range'];simpa using this
end
section
variable{P:W8}{N:Nat}{r:Option Nat}{free:fH}{ops:Array T7}{Q:Exit->Act->x3->Prop}
theorem FV(e:Option Nat)(o:T7)(U:∀cs b,o.op≠ .select cs b)(a:Act)(d:Option Tmp)(v:x1)(h:∀t,d=σ t->t∉o.looksAt ops):
  o.semAt e (a.put d v).eval=o.semAt e a.eval:=by
 have he:=execOp_put o U a d v h;unfold T7.semAt;split
 .rename_i l c f;have:resolve (a.put d v).eval c o.type=resolve a.eval c o.type:=resolve_congr c o.type λx J=>Act.eval_put λt p q=>h t p (by
   subst q;refine List.mem_append_left _ (List.mem_filterMap.2 ⟨.tmp t,?_,rfl⟩);rw[f];simpa[Op.operands]using J)
  rw[this]
 .exact he
def mB(o:T7)(w0:x3)(st:x3->Prop)(w':x3):Prop:=lU o=true\/Ext w0 w'\/∃V,st V/\Ext V w'
theorem mB.ext{o:T7}{w0:x3}{st:x3->Prop}(h:mB o w0 st w)(k:Ext w w'):mB o w0 st w':=by
 rcases h with h|h|⟨V,h1,a⟩
 .exact .inl h
 .exact .inr (.inl (h.trans k))
 .exact .inr (.inr ⟨V,h1,a.trans k⟩)
theorem FW{o:T7}(hm:lU o=true){a:S4->x1}(h:(execOp a o).run P w= .ok (.value v) w):(execOp a o).run P w'= .ok (.value v) w':=by
 unfold lU at hm;split at hm
 .rename_i x J;unfold execOp at h ⊢;simp only[J,V3,Result.ok.injEq,and_true]at h ⊢;exact h
 .rename_i x J;unfold execOp at h ⊢;simp only[J,V3,Result.ok.injEq,and_true]at h ⊢;exact h
 .rename_i x i J;unfold execOp at h ⊢;simp only[J]at h ⊢;exact((Still.bind (Still.extract _ _) λ_=>Still.pure _) _ _ _ h).2 _
 .rename_i t x i J;unfold execOp at h ⊢;simp only[J]at h ⊢;exact((Still.bind (Still.indexAt _ _ _) λ_=>Still.pure _) _ _ _ h).2 _
 .cases hm
def ia(P:W8)(ops:Array T7)(o:T7)(v:x1)(a:Act)(w0:x3->Prop):Prop:=
 (Region.wanted o (yielded ops a.tmps)=true/\(∀c,o.op≠ .defer c)/\∀w',w0 w'->(execOp a.eval o).run P w'= .ok (.value v) w')\/
 (Region.wanted o (yielded ops a.tmps)=false/\v=undef)
theorem ia.put{o e:T7}{a:Act}{w0:x3->Prop}(f:ia P ops o v a w0)(U:∀cs b,o.op≠ .select cs b)(h:∀t,e.dst=σ t->t∉o.looksAt ops)(u:x1):
  ia P ops o v (a.put e.dst u) w0:=by
 unfold ia at*;rw[execOp_put o U a e.dst u h,wanted_put o a e.dst u h];exact f
theorem ia.go{i:Nat}{e:T7}{a:Act}{w0:x3->Prop}(hi:ops[i]?=σ e)(f:ia P ops e v a w0)(hw:w0 w){K:Act->x3->Prop}(h:K (a.put e.dst v) w):
  wpOpIn (ep r) 0 P ops Q i K a w:=by
 unfold wpOpIn;simp only[hi];rcases f with⟨h1,p,q⟩|⟨h1,rfl⟩
 .rw[if_pos h1];refine⟨λ_ _=>trivial,?_⟩;rw[T7.semAt_eq _ _ _ p,q w hw,T7.uponIn_value];exact h
 .rw[h1];exact⟨λ_ _=>trivial,h⟩
theorem FX{p s:T7}(B:ops[j]?=σ s)(C:p.apart ops s=true)(E:∀cs b,p.op≠ .select cs b)(F:∀cs b,s.op≠ .select cs b)(z:∀c a w,¬Q (.panic c) a w){K:Act->x3->Prop}{a:Act}{w:x3}{w0:x3->Prop}(q:ia P ops p v a w0)(h:wpOpIn (ep r) 0 P ops Q j K (a.put p.dst v) w):
  wpOpIn (ep r) 0 P ops Q j (λa' w'=>ia P ops p v a' w0/\K (a'.put p.dst v) w') a w:=by
 obtain⟨h1,y,G⟩:=T7.apart_spec C;have aZ:∀(a:Act),ia P ops p v a w0->∀u,ia P ops p v (a.put s.dst u) w0:=λa q u=>q.put E G u;have H:∀d,ia P ops p v {a with defers:=d::a.defers} w0:=λd=>q;unfold wpOpIn at*;simp only[B]at*;rw[wanted_put s a p.dst v h1]at h;split
 .rename_i hw;simp only[hw,if_true]at h;obtain⟨_,h⟩:=h;refine⟨λ_ _=>trivial,?_⟩;rw[FV _ s F a p.dst v h1]at h;generalize (s.semAt (ep r).round a.eval).run P w=res at*;cases res with
  |ok n w'=>
   cases n<;>simp only[T7.uponIn]at h ⊢
   case value u=>exact⟨aZ a q u,by rw[<-Act.put_comm a v u y];exact h⟩
   case skip=>exact⟨aZ a q _,by rw[<-Act.put_comm a v undef y];exact h⟩
   case defer d=>
    refine⟨aZ _ (H d) _,?_⟩;rw[<-Act.put_comm _ v undef y,<-Act.put_defers];exact h
   case enter f args=>
    refine⟨h.1,CallsIn.mono h.2 λe A he=>?_⟩;cases e with
    |returned u=>exact⟨aZ a q u,by rw[<-Act.put_comm a v u y];exact he⟩
    |panicked c=>exact absurd he (z _ _ _)
    |outgrown=>exact he
   case row row args=>exact⟨h.1,RowsIn.mono h.2 λu A he=>⟨aZ a q u,by rw[<-Act.put_comm a v u y];exact he⟩⟩
   case round l f tmps I body=>
    refine⟨h.1,RoundIn.mono h.2 λe A he=>?_⟩;cases e with
    |returned u=>exact⟨aZ a q u,by rw[<-Act.put_comm a v u y];exact he⟩
    |panicked c=>exact absurd he (z _ _ _)
    |outgrown=>exact he
  |halt x w'=>
   cases x<;>simp only[T7.uponIn]at h ⊢
   case panic u=>exact absurd h (z _ _ _)
 .rename_i hw;simp only[hw]at h;exact⟨λ_ _=>trivial,aZ a q _,by rw[<-Act.put_comm a v undef y];exact h.2⟩
def lV(ops:Array T7)(bs:Array Nat):Bool:=
 (X3 ops.size).all λj=>(X3 ops.size).all λk=>!((bs.getD j 0).testBit k)||
  (match ops[j]? with
   |some o=>o.after.any λe=>Region.binds .any e&&Nat.blt e.on j&&(S1 e.on k||(bs.getD e.on 0).testBit k)
   |none=>false)
def Down(ops:Array T7)(a:Array Bool):Prop:=
 ∀(x:Nat)(o:T7),ops[x]?=σ o->a.getD x false=true->∀e∈o.after,Region.binds .any e=true->a.getD e.on false=true
theorem yD{bs:Array Nat}(a:lV ops bs=true){k:Nat}(p:j<ops.size)(hk:k<ops.size)(h:(bs.getD j 0).testBit k=true):
  ∃o,ops[j]?=σ o/\∃e∈o.after,Region.binds .any e=true/\e.on<j/\(e.on=k\/(bs.getD e.on 0).testBit k=true):=by
 simp only[lV,List.all_eq_true,T6]at a;have:=a j p k hk;rw[h]at this;simp only[Y7,Bool.false_or]at this;cases f:ops[j]? with
 |none=>rw[f]at this;cases this
 |some o=>
  rw[f]at this;obtain⟨e,he,J⟩:=Array.any_eq_true'.1 this;simp only[U1,Nat.blt_eq,Bool.or_eq_true]at J;exact⟨o,rfl,e,he,J.1.1,J.1.2,J.2.imp (λh=>Nat.eq_of_beq_eq_true h) id⟩
theorem FY{bs:Array Nat}{a:Array Bool}(p:lV ops bs=true)(q:Down ops a):∀(j k:Nat),j<ops.size->k<ops.size->a.getD j false=true->
  (bs.getD j 0).testBit k=true->a.getD k false=true:=by
 intro j;induction j using Nat.strongRecOn with
 |_ j r=>
  intro k s hk w h;obtain⟨o,x,e,he,y,z,h⟩:=yD p s hk h;have f:=q j o x w e he y;rcases h with rfl|h
  .exact f
  .exact r e.on z k Ω hk f h
theorem yE{bs:Array Nat}{a:Array Bool}(f:lV ops bs=true)(s:Down ops a){k:Nat}(hk:k<ops.size)(w:j∈Region.ready .any ops a)(h:(bs.getD j 0).testBit k=true):a.getD k false=true:=by
 obtain⟨_,o,p,x⟩:=mem_ready.1 w;have y:=(j4.1 p).1;obtain⟨o',q,e,he,z,A,h⟩:=yD f y hk h;rw[p]at q;cases q;have r:=x e he z;rcases h with rfl|h
 .exact r
 .exact FY f s e.on k Ω hk r h
theorem Down.set{a:Array Bool}(r:Down ops a){i:Nat}(s:i∈Region.ready .any ops a):Down ops (a.setIfInBounds i true):=by
 intro x o J f e he h;by_cases p:x=i
 .subst p;obtain⟨_,o',q,w⟩:=mem_ready.1 s;rw[J]at q;cases q;exact getD_set_true (w e he h)
 .rw[getD_set_ne false (Ne.symm p)]at f;exact getD_set_true (r x o J f e he h)
theorem u2{a:Array Bool}{k:Nat}(h:a.getD k true=false):a.getD k false=false:=by
 rcases Nat.lt_or_ge k a.size with h'|h'
 .simpa[h']using h
 .simp[Array.getElem?_eq_none h']at h
def mC(ops:Array T7)(i:Nat):Bool:=match ops[i]? with
 |some o=>jb o
 |none=>false
def mD(bs:Array Nat)(a:List (x3×List (Nat×(x3->Prop))))(j:Nat)(w':x3):Prop:=∀g∈a,∀x∈g.2,k1 bs j x.1=true->Ext g.1 w'\/x.2 w'
theorem u3{bs:Array Nat}{j:Nat}{w':x3}:∀{l:List (Nat×(x3->Prop))},oU bs j w' l->∀x∈l,k1 bs j x.1=true->x.2 w'
 |[],_,_,h,_=>by cases h
 |y::l,h,x,J,hu=>by
  unfold oU at h;cases a:k1 bs j y.1 with
  |true=>
   rw[a]at h;cases J with
   |head=>exact h.1
   |tail _ J=>exact u3 h.2 x J hu
  |false=>
   rw[a]at h;cases J with
   |head=>rw[a]at hu;cases hu
   |tail _ J=>exact u3 (show oU bs j w' l from h) x J hu
theorem yF{bs:Array Nat}{j:Nat}:∀{l:List (Nat×(x3->Prop))},qk bs j l=false->∀x∈l,k1 bs j x.1=false
 |[],_,_,h=>by cases h
 |y::l,h,x,J=>by
  simp only[qk,S7]at h;cases J with
  |head=>exact h.1
  |tail _ J=>exact yF h.2 x J
theorem va{bs:Array Nat}{j:Nat}{w':x3}{C:Prop}:∀{q:List (x3×List (Nat×(x3->Prop)))},nA bs j w' C q->C/\mD bs q j w'
 |[],h=>⟨h,λg s=>by cases s⟩
 |g::r,h=>by
  unfold nA at h;cases hu:qk bs j g.2 with
  |true=>
   rw[hu]at h;obtain⟨h1,f⟩:=va h.2;refine⟨h1,λp a x J e=>?_⟩;cases a with
   |head=>exact h.1.imp id λh=>u3 h x J e
   |tail _ a=>exact f p a x J e
  |false=>
   rw[hu]at h;obtain⟨h1,f⟩:=va (show nA bs j w' C r from h);refine⟨h1,λp a x J e=>?_⟩;cases a with
   |head=>rw[yF hu x J]at e;cases e
   |tail _ a=>exact f p a x J e
def vb(ops:Array T7)(bs:Array Nat)(a:List (x3×List (Nat×(x3->Prop))))(j:Nat)(w w':x3):Prop:=(mC ops j=true->Ext w w')/\(mC ops j=false->mD bs a j w')
def iD(r:Option Nat)(P:W8)(ops:Array T7)(bs:Array Nat)(Q:Exit->Act->x3->Prop):Nat->Array Bool->List (x3×List (Nat×(x3->Prop)))->Act->x3->Prop
 |0,e,_,a,w=>Region.ready .any ops e=[]/\Q .normal a w
 |fuel+1,e,f,a,w=>(Region.ready .any ops e=[]->Q .normal a w)/\
  ∀i∈Region.ready .any ops e,wpOpIn (ep r) 0 P ops Q i (λa' w'=>vb ops bs f i w w'/\iD r P ops bs Q fuel (e.setIfInBounds i true) f a' w') a w
theorem iD.any{bs:Array Nat}:∀(fuel:Nat)(e:Array Bool)(f:List (x3×List (Nat×(x3->Prop))))(a:Act)(w:x3),iD r P ops bs Q fuel e f a w->wpAnyIn (ep r) 0 P .any ops Q fuel e a w
 |0,_,_,_,_,h=>h
 |fuel+1,_,_,_,_,h=>⟨h.1,λi hi=>wpOpIn_mono (λa' w' h'=>iD.any fuel _ _ a' w' h'.2) (h.2 i hi)⟩
theorem FZ{bs:Array Nat}{a:Array Bool}(e:lV ops bs=true)(f:Down ops a){i:Nat}{r:T7}(hi:ops[i]?=σ r)(p:i∈Region.ready .any ops a)(q:j∈Region.ready .any ops a)(s:j≠i):k1 bs j i=true:=by
 have w:=(j4.1 hi).1;obtain⟨x,B,y,_⟩:=mem_ready.1 q;have z:=(j4.1 y).1;have A:=(mem_ready.1 p).1;simp only[k1,U1,Bool.not_eq_true'];refine⟨?_,?_,?_⟩
 .cases h:S1 i j with
  |true=>exact absurd (Nat.eq_of_beq_eq_true h).symm s
  |false=>rfl
 .cases h:(bs.getD j 0).testBit i with
  |true=>have:=yE e f w q h;rw[u2 A]at this;cases this
  |false=>rfl
 .cases h:(bs.getD i 0).testBit j with
  |true=>have:=yE e f z p h;rw[u2 x]at this;cases this
  |false=>rfl
theorem iD.take{bs:Array Nat}(S:lV ops bs=true)(T:Region.noSelect ops=true)(U:∀c a w,¬Q (.panic c) a w){i:Nat}{p:T7}(hi:ops[i]?=σ p)(V:jb p=true){w0:x3}{A ev':List (x3×List (Nat×(x3->Prop)))}(G:∀j w',mD bs ev' j w'->mD bs A j w'){st:x3->Prop}(W:lU p=false->∀j w',k1 bs j i=true->mD bs ev' j w'->Ext w0 w'\/st w'):
  ∀(fuel:Nat)(f:Array Bool)(a:Act)(w:x3),Down ops f->
   (∀j y,ops[j]?=σ y->j≠i->f.getD j true=false->(∀e∈y.after,Region.binds .any e=true->e.on≠i)->p.apart ops y=true)->
   i∈Region.ready .any ops f->ia P ops p v a (mB p w0 st)->mB p w0 st w->
   iD r P ops bs Q fuel (f.setIfInBounds i true) ev' (a.put p.dst v) w->iD r P ops bs Q (fuel+1) f A a w:=by
 have I:=Region.noSelect_spec T;have X:mC ops i=true:=by simp[mC,hi,V]
 have hP:∀(fuel:Nat)(f:Array Bool)(a:Act)(w:x3),iD r P ops bs Q fuel f ev' a w->iD r P ops bs Q fuel f A a w:=by
  intro fuel;induction fuel with
  |zero=>intro f a w h;exact h
  |succ fuel C=>intro f a w h;exact⟨h.1,λj s=>wpOpIn_mono (λa' w' h'=>⟨⟨h'.1.1,λE=>G _ _ (h'.1.2 E)⟩,C _ a' w' h'.2⟩) (h.2 j s)⟩
 have J:∀w,vb ops bs A i w w:=λw=>⟨λ_=>Ext.refl _,λh=>by rw[X]at h;cases h⟩;intro fuel;induction fuel with
 |zero=>
  intro f a w _ _ x B hw H;refine⟨λh=>(by rw[h]at x;cases x),λj s=>?_⟩;by_cases q:j=i
  .subst q;exact B.go hi hw ⟨J w,hP _ _ _ _ H⟩
  .have:=ready_mono s q;rw[H.1]at this;cases this
 |succ fuel C=>
  intro f a w K L x B hw H;refine⟨λh=>(by rw[h]at x;cases x),λj s=>?_⟩;by_cases q:j=i
  .subst q;exact B.go hi hw ⟨J w,hP _ _ _ _ H⟩
  .have h1:=H.2 j (ready_mono s q);have hu:=FZ S K hi x s q;obtain⟨M,y,F,Y⟩:=mem_ready.1 s;have Z:∀e∈y.after,Region.binds .any e=true->e.on≠i:=λe he aa ab=>by
    have h1:=Y e he aa;rw[ab,u2 (mem_ready.1 x).1]at h1;cases h1
   have ac:=FX F (L j y F q M Z) (λcs b=>I i p cs b hi) (λcs b=>I j y cs b F) U B h1;have ad:∀k ok,ops[k]?=σ ok->k≠i->(f.setIfInBounds j true).getD k true=false->
     (∀e∈ok.after,Region.binds .any e=true->e.on≠i)->p.apart ops ok=true:=λk ok hk ae N af=>by
    refine L k ok hk ae ?_ af;by_cases O:j=k
    .subst O;exact M
    .rw[getD_set_ne true O]at N;exact N
   refine wpOpIn_mono (λa' w' z=>⟨⟨z.2.1.1,λE=>G _ _ (z.2.1.2 E)⟩,C (f.setIfInBounds j true) a' w' (K.set s) ad (ready_mono x (Ne.symm q)) z.1 ?_ ?_⟩) ac
   .cases hm:lU p with
    |true=>exact .inl hm
    |false=>
     cases R:mC ops j with
     |true=>exact hw.ext (z.2.1.1 R)
     |false=>exact .inr ((W hm j w' hu (z.2.1.2 R)).imp id λh=>⟨w',h,Ext.refl _⟩)
   .rw[Array.setIfInBounds_comm _ _ q];exact z.2.2
theorem yG{p:Nat->Prop}:∀{l:List Nat},u0 p l->∀i∈l,p i
 |[],_,_,h=>by cases h
 |[i],h,j,a=>by cases a with
  |head=>exact h
  |tail _ h=>cases h
 |i::k::l,h,j,a=>by
  obtain⟨h1,e⟩:=h;cases a with
  |head=>exact h1
  |tail _ a=>exact yG e j a
theorem vc:∀{l:List Nat}{q:Nat},my ops l=σ q->q∈l/\∃o,ops[q]?=σ o/\jb o=true
 |[],q,h=>by cases h
 |i::l,q,h=>by
  simp only[my]at h;cases a:ops[i]? with
  |none=>rw[a]at h;obtain⟨h1,e⟩:=vc h;exact⟨.tail _ h1,e⟩
  |some o=>
   rw[a]at h;simp only at h;cases f:jb o with
   |true=>rw[f]at h;simp only[cond_true,Y2]at h;subst h;exact⟨.head _,o,a,f⟩
   |false=>rw[f]at h;obtain⟨h1,e⟩:=vc h;exact⟨.tail _ h1,e⟩
theorem F0{o:T7}{e:Env}{a:Act}{K:Env->(x3->Prop)->Prop}(h:uZ P ops o e w K)(f:S6 N e a)(C:jM N o.dst=true):
  ∃v st,ia P ops o v a (mB o w st)/\∃p,K p st/\S6 N p (a.put o.dst v):=by
 unfold uZ at h;have z:∀{e:Env},S6 N e a->lS P o e w K->Region.wanted o (yielded ops a.tmps)=true->∃v st,ia P ops o v a (mB o w st)/\∃p,K p st/\S6 N p (a.put o.dst v):=λf h hw=>by
  obtain⟨v,st,h1,E,F,G⟩:=yA h f C;exact⟨v,st,.inl ⟨hw,F,λw' J=>J.elim (λhm=>FW hm (h1 w (Ext.refl w))) λh=>h.elim (h1 w') λ⟨V,H,I⟩=>G V H w' I⟩,E⟩
 have skip:∀{e:Env},S6 N e a->K (dU e o.dst .u) (λ_=>True)->Region.wanted o (yielded ops a.tmps)=false->∃v st,ia P ops o v a (mB o w st)/\∃p,K p st/\S6 N p (a.put o.dst v):=λf h hw=>
  ⟨undef,_,.inr ⟨hw,rfl⟩,_,h,f.put C rfl⟩
 cases q:o.guard with
 |none=>rw[q]at h;exact z f h (by simp[Region.wanted,q])
 |some L=>
  obtain⟨j,b⟩:=L;rw[q]at h;simp only at h;cases r:(ops[j]?).bind (·.dst)with
  |none=>rw[r]at h;exact h.elim
  |some s=>
   rw[r]at h;simp only at h;cases U:look e s with
   |none=>rw[U]at h;exact h.elim
   |some x=>
    rw[U]at h;cases x with
    |b c=>
     simp only at h;have hw:=r6 f q r U (c:=c) rfl;cases J:xor c b with
     |true=>rw[J]at h hw;exact skip f h hw
     |false=>rw[J]at h hw;exact z f h hw
    |v y=>
     simp only at h;obtain⟨c,rfl,A,ag⟩:=h;have hw:=r6 f q r U (c:=c) rfl;have B:=f.lit U (c:=c) rfl;cases c with
     |true=>
      have A:=A rfl;cases b with
      |true=>exact z B A hw
      |false=>exact skip B A hw
     |false=>
      have ag:=ag rfl;cases b with
      |true=>exact skip B ag hw
      |false=>exact z B ag hw
    |u=>exact skip f h (yB f q r U)
theorem vd:∀{l:List Nat},my ops l=ν->∀j∈l,mC ops j=false
 |[],_,_,h=>by cases h
 |i::l,h,j,a=>by
  simp only[my]at h;cases e:ops[i]? with
  |none=>
   rw[e]at h;cases a with
   |head=>simp[mC,e]
   |tail _ a=>exact vd h j a
  |some o=>
   rw[e]at h;simp only at h;cases f:jb o with
   |true=>rw[f]at h;cases h
   |false=>
    rw[f]at h;cases a with
    |head=>simp[mC,e,f]
    |tail _ a=>exact vd h j a
theorem F3{bs:Array Nat}{same:Bool}{q:Nat}{st:x3->Prop}{a:List (x3×List (Nat×(x3->Prop)))}(U:same=true->∃ks r,a=(w,ks)::r):
  (∀j w',mD bs (qj same q w st a) j w'->mD bs a j w')/\(∀j w',k1 bs j q=true->mD bs (qj same q w st a) j w'->Ext w w'\/st w')/\∃ks r,qj same q w st a=(w,ks)::r:=by
 cases same with
 |true=>
  obtain⟨ks,r,rfl⟩:=U rfl;refine⟨λj w' h g e x J hu=>?_,λj w' hu h=>h (w,(q,st)::ks) (.head _) (q,st) (.head _) hu,_,_,rfl⟩;cases e with
  |head=>exact h (w,(q,st)::ks) (.head _) x (.tail _ J) hu
  |tail _ e=>exact h g (.tail _ e) x J hu
 |false=>
  refine⟨λj w' h g e x J hu=>h g (.tail _ e) x J hu,λj w' hu h=>h (w,[(q,st)]) (.head _) (q,st) (.head _) hu,_,_,rfl⟩
theorem F4{K:Env->x3->Prop}{bs:Array Nat}(U:lV ops bs=true)(W:Region.noSelect ops=true)(X:∀c a w,¬Q (.panic c) a w)(M:∀o∈ops.toList,∀t,o.dst=σ t->t∈D)(Y:nB N ops.toList=true):
  ∀(fuel:Nat)(p:Array Bool)(same:Bool)(s:List (x3×List (Nat×(x3->Prop))))(e:Env)(a:Act)(w:x3),Down ops p->(same=true->∃ks r,s=(w,ks)::r)->
   mz P free ops bs fuel p same s e w K->S6 N e a->
   (∀a' w',mA N free K D a w a' w'->Q .normal a' w')->iD r P ops bs Q fuel p s a w:=by
 have F:∀{j:Nat}{o:T7},ops[j]?=σ o->o∈ops.toList:=λh=>by
  rw[<-S9]at h;exact x5 h
 have ok:∀{j:Nat}{o:T7},ops[j]?=σ o->jM N o.dst=true:=λh=>by
  simp only[nB,List.all_eq_true]at Y;exact Y _ (F h)
 intro fuel;induction fuel with
 |zero=>
  intro p same s e a w A O h C B;unfold mz at h;cases y:Region.ready .any ops p with
  |nil=>rw[y]at h;exact⟨y,B a w ⟨e,h,C,gG.refl _ _,λ_=>cC.refl _ _⟩⟩
  |cons i l=>rw[y]at h;exact h.elim
 |succ fuel R=>
  intro p same s e a w A O h C B;unfold mz at h;cases y:Region.ready .any ops p with
  |nil=>
   rw[y]at h;refine⟨λ_=>B a w ⟨e,h,C,gG.refl _ _,λ_=>cC.refl _ _⟩,λi hi=>?_⟩;rw[y]at hi;cases hi
  |cons i l=>
   rw[y]at h;simp only at h;cases G:my ops (i::l)with
   |some q=>
    rw[G]at h;simp only at h;obtain⟨ae,o,f,Z⟩:=vc G;cases H:Region.free .any ops p q with
    |false=>rw[H]at h;exact h.elim
    |true=>
     rw[H,f]at h;simp only[cond_true]at h;obtain⟨v,st,aa,I,z,ab⟩:=F0 h C (ok f);have L:q∈Region.ready .any ops p:=by rw[y];exact ae
     cases hm:lU o with
     |true=>
      rw[hm]at z;refine iD.take U W X f Z (w0:=w) (ev':=s) (λ_ _ h=>h) (λh=>by rw[hm]at h;cases h) fuel p a w A (Region.free_spec f H) L aa (.inr (.inl (Ext.refl _))) ?_;exact R _ same s I _ w (A.set L) O z ab λa' w' x=>B a' w' (x.step (gG.put a v λt E=>M o (F f) t E) λ_=>cC.refl _ _)
     |false=>
      rw[hm]at z;obtain⟨h1,af,ag⟩:=F3 (bs:=bs) (q:=q) (st:=st) O;refine iD.take U W X f Z (w0:=w) (ev':=qj same q w st s) h1 (λ_=>af) fuel p a w A (Region.free_spec f H) L aa (.inr (.inl (Ext.refl _))) ?_;exact R _ true _ I _ w (A.set L) (λ_=>ag) z ab λa' w' x=>B a' w' (x.step (gG.put a v λt E=>M o (F f) t E) λ_=>cC.refl _ _)
   |none=>
    rw[G]at h;simp only at h;refine⟨(λac=>by rw[y]at ac;cases ac),λj ad=>?_⟩;have S:=ad;rw[y]at S;have ah:=vd G j S;have x:=yG h j S;cases f:ops[j]? with
    |none=>rw[f]at x;exact x.elim
    |some o=>
     rw[f]at x;simp only at x;unfold wpOpIn;simp only[f];have next:∀T V,fk N free (λI w'=>nA bs j w' (mz P free ops bs fuel (p.setIfInBounds j true) false s I w' K) s) o a w T V->
       vb ops bs s j w V/\iD r P ops bs Q fuel (p.setIfInBounds j true) s T V:=by
      rintro T V ⟨ai,v,z,aj,rfl,ak⟩;obtain⟨z,al⟩:=va z;exact⟨⟨λh=>(by rw[ah]at h;cases h),λ_=>al⟩,
       R _ false s ai _ V (A.set ad) (λh=>by cases h) z aj λa' w' x=>B a' w' (x.step (gG.put a v λt E=>M o (F f) t E) ak)⟩
     rcases yC (r:=r) (Q:=Q) x C (ok f)with⟨hw,J⟩|⟨hw,J⟩
     .rw[if_pos hw];exact T7.wpIn_mono next J
     .rw[hw];exact⟨λ_ _=>trivial,next _ _ J⟩
theorem F5(hm:P.follows .mixedOrders=true){K:Env->x3->Prop}{id:Nat}{e:Env}{a:Act}(q:lV ops (Region.before ops)=true)(s:∀c a w,¬Q (.panic c) a w)(y:∀o∈ops.toList,∀t,o.dst=σ t->t∈D)(z:nB N ops.toList=true)(h:∀w',Ext w w'->Ext w' w->cN w w'->u1 P free ops e w' K)(A:S6 N e a)(B:∀a' w',mA N free K D a w a' w'->Q .normal a' w'):
  (Code.region id ops true).wpIn (ep r) 0 P Q a w:=by
 refine wpIn_region_any hm ?_;have h:=h {w with drawn:=w.drawn+1} (rZ w _) ⟨o4 _,λ_ _ h _=>h⟩ (qe w _ (Nat.le_succ _));unfold u1 at h;cases f:Region.noSelect ops with
 |false=>rw[f]at h;exact h.elim
 |true=>
  rw[f]at h;refine iD.any _ _ _ _ _ (F4 q f s y z ops.size _ false [] e a _ ?_ (λh=>by cases h) h A λa' w' C=>B a' w' (C.step (gG.refl _ _) λ_=>(qe w _ (Nat.le_succ _)).b));intro x o _ p;rcases Nat.lt_or_ge x ops.size with h'|h'
  .simp[h']at p
  .simp[h']at p
end
def jc(t:Nat):List Nat->Bool
 |[]=>false
 |s::r=>bif S1 s t then true else jc t r
theorem ve{t:Nat}:∀{l:List Nat},jc t l=true↔t∈l
 |[]=>by simp[jc]
 |s::r=>by
  simp only[jc];cases h:S1 s t with
  |true=>simp[Nat.eq_of_beq_eq_true h]
  |false=>
   have:=Nat.ne_of_beq_eq_false h;simp[ve (l:=r),Ne.symm this]
def nC:List T7->List Nat
 |[]=>[]
 |o::l=>match o.dst with
  |some d=>d::nC l
  |none=>nC l
def tmpsOf:List S4->List Nat
 |[]=>[]
 | .tmp t::l=>t::tmpsOf l
 |_::l=>tmpsOf l
def F6(ops:Array T7)(o:T7):List Nat:=
 match o.guard with
 |some (j,_)=>match(ops[j]?).bind (·.dst)with
  |some s=>[s]
  |none=>[]
 |none=>[]
def r7(D:List Nat):List Nat->List Nat
 |[]=>[]
 |t::r=>bif jc t D then r7 D r else t::r7 D r
def vf(D:List Nat):List Nat->List Nat
 |[]=>[]
 |t::r=>bif jc t D then t::vf D r else vf D r
def yH(ops:Array T7):List T7->List Nat->List Nat
 |[],_=>[]
 |o::l,D=>r7 D (tmpsOf (opsOf o.op)++F6 ops o)++yH ops l (match o.dst with
  |some d=>d::D
  |none=>D)
def dw:Code->List Nat
 | .region _ ops _=>nC ops.toList
 | .seq a b=>dw a++dw b
 | .cond _ a b=>dw a++dw b
 | .block _ c=>dw c
 | .loop c=>dw c
 | .scope c=>dw c
 |_=>[]
def jN(id:Nat):Code->Nat
 | .seq a b=>jN id a+jN id b
 | .cond _ a b=>jN id a+jN id b
 | .block _ c=>jN id c
 | .loop c=>jN id c
 | .scope c=>jN id c
 | .exit i=>bif S1 i id then 1 else 0
 | .rangeFunc _ _ _ b=>jN id b
 |_=>0
def F7(ops:Array T7):Bool:=
 let bs:=Region.before ops;let a:=λ(i:Nat)=>match ops[i]? with|some o=>!(jb o)|none=>false
 (X3 ops.size).any λj=>a j&&((X3 j).any λi=>a i&&(!((bs.getD j 0).testBit i)&& !((bs.getD i 0).testBit j)))
def k2:Code->Nat
 | .region _ ops e=>bif (e&&F7 ops)||ops.any (·.guard.isSome)then 2 else 1
 | .seq a b=>bif S1 (k2 a) 0 then 0 else k2 b
 | .cond _ a b=>k2 a+k2 b
 | .block id c=>k2 c+jN id c
 | .loop _=>0
 | .scope c=>k2 c
 | .exit _=>0
 | .goto _=>0
 | .ret=>0
 | .refuse _=>0
 |_=>1
def lW:Code->List Nat
 | .region _ ops _=>nC ops.toList
 | .seq a b=>lW a++lW b
 | .cond _ a b=>bif S1 (k2 a) 0 then lW b else bif S1 (k2 b) 0 then lW a else vf (lW a) (lW b)
 | .block id c=>bif S1 (jN id c) 0 then lW c else[]
 | .scope c=>lW c
 |_=>[]
def reads:Code->List Nat
 | .region _ ops _=>yH ops ops.toList []
 | .seq a b=>reads a++r7 (lW a) (reads b)
 | .cond c a b=>tmpsOf [c]++(reads a++reads b)
 | .block _ c=>reads c
 | .loop c=>reads c
 | .scope c=>reads c
 | .rangeFunc f _ a b=>tmpsOf [f]++(reads a++reads b)
 |_=>[]
def kq:Code->Bool
 | .seq a b=>kq a||kq b
 | .cond _ a b=>kq a||kq b
 | .block _ c=>kq c
 | .loop c=>kq c
 | .scope c=>kq c
 | .rangeFunc ..=>true
 |_=>false
def wf(N:Nat):Code->Bool
 | .region _ ops e=>nB N ops.toList&&(!e||lV ops (Region.before ops))
 | .seq a b=>wf N a&&wf N b
 | .cond _ a b=>wf N a&&wf N b
 | .block _ c=>wf N c
 | .loop c=>wf N c
 | .scope c=>wf N c
 | .rangeFunc _ f a b=>(f.toList.all λt=>Nat.blt t N)&&(wf N a&&wf N b)
 |_=>true
def nD:Nat->Type->Type
 |0,β=>β
 |n+1,β=>x1->nD n β
def app{β:Type}:(n:Nat)->nD n β->List x1->β
 |0,f,_=>f
 |n+1,f,[]=>app n (f undef) []
 |n+1,f,v::r=>app n (f v) r
def lam{β:Type}:(n:Nat)->(List x1->β)->nD n β
 |0,f=>f []
 |n+1,f=>λv=>lam n λr=>f (v::r)
def sa:(n:Nat)->nD n Prop->Prop
 |0,p=>p
 |n+1,p=>∀v,sa n (p v)
theorem sb{β:Type}:∀(n:Nat)(f:List x1->β)(vs:List x1),vs.length=n->app n (lam n f) vs=f vs
 |0,f,[],_=>rfl
 |n+1,f,v::r,h=>by
  simp only[app,lam];exact sb n _ r (by simpa using h)
theorem sd:∀(n:Nat)(p:nD n Prop)(vs:List x1),sa n p->app n p vs
 |0,_,_,h=>h
 |n+1,_,[],h=>sd n _ [] (h undef)
 |n+1,_,v::r,h=>sd n _ r (h v)
def F8(n:Nat)(vs:List x1)(w:x3)(B:List x1->x3->(List x1->x3->Prop)->Prop):Prop:=
 ∃(I:nD n (x3->Prop))(a:nD n (x3->Nat)),app n I vs w/\
  sa n (lam n λus=>∀w',app n I us w'->B us w' λe f=>app n I e f/\app n a e f<app n a us w')
def F9(w:x3)(B:x3->(x3->Prop)->Prop):Prop:=
 ∃(I:x3->Prop)(a:x3->Nat),I w/\∀w',I w'->B w' λe=>I e/\a e<a w'
def ce(a:x1)(w:x3)(B:x1->x3->(x1->x3->Prop)->Prop):Prop:=
 ∃(I:x1->x3->Prop)(e:x1->x3->Nat),I a w/\∀a w',I a w'->B a w' λa' f=>I a' f/\e a' f<e a w'
def b5(a b:x1)(w:x3)(B:x1->x1->x3->(x1->x1->x3->Prop)->Prop):Prop:=
 ∃(I:x1->x1->x3->Prop)(e:x1->x1->x3->Nat),I a b w/\∀a b w',I a b w'->B a b w' λa' f h=>I a' f h/\e a' f h<e a b w'
def nE(a b c:x1)(w:x3)(B:x1->x1->x1->x3->(x1->x1->x1->x3->Prop)->Prop):Prop:=
 ∃(I:x1->x1->x1->x3->Prop)(e:x1->x1->x1->x3->Nat),I a b c w/\
  ∀a b c w',I a b c w'->B a b c w' λa' f h p=>I a' f h p/\e a' f h p<e a b c w'
def se(a b c d:x1)(w:x3)(B:x1->x1->x1->x1->x3->(x1->x1->x1->x1->x3->Prop)->Prop):Prop:=
 ∃(I:x1->x1->x1->x1->x3->Prop)(e:x1->x1->x1->x1->x3->Nat),I a b c d w/\
  ∀a b c d w',I a b c d w'->B a b c d w' λa' f h p q=>I a' f h p q/\e a' f h p q<e a b c d w'
def ql(a b c d e:x1)(w:x3)(B:x1->x1->x1->x1->x1->x3->(x1->x1->x1->x1->x1->x3->Prop)->Prop):Prop:=
 ∃(I:x1->x1->x1->x1->x1->x3->Prop)(f:x1->x1->x1->x1->x1->x3->Nat),I a b c d e w/\∀a b c d e w',I a b c d e w'->B a b c d e w' λa' h p q r s=>I a' h p q r s/\f a' h p q r s<f a b c d e w'
def Ga(a b c d e f:x1)(w:x3)(B:x1->x1->x1->x1->x1->x1->x3->(x1->x1->x1->x1->x1->x1->x3->Prop)->Prop):Prop:=
 ∃(I:x1->x1->x1->x1->x1->x1->x3->Prop)(h:x1->x1->x1->x1->x1->x1->x3->Nat),I a b c d e f w/\∀a b c d e f w',I a b c d e f w'->B a b c d e f w' λa' p q r s x y=>I a' p q r s x y/\h a' p q r s x y<h a b c d e f w'
def cz{α:Type}(aB:α)(B:α->Prop):Prop:=B aB
def vg(n:Nat)(w:x3)(K:x3->Prop):Prop:=∀w',Ext w w'->Ext w' w/\fG n w w'->K w'
def Over(n:Nat)(w:x3)(K:x3->Prop):Prop:=∀w',Ext w w'->Ext w' w/\fG n w w'->e0 w w'->K w'
def er(w:x3)(K:x3->Prop):Prop:=∀w',Ext w w'->Ext w' w->cN w w'->K w'
def kr(e:Env):List Nat->Option (List x1)
 |[]=>σ []
 |t::r=>match look e t with
  |some x=>match kr e r with
   |some vs=>σ (x.val::vs)
   |none=>ν
  |none=>ν
def jd:List Nat->List x1->Env->Env
 |t::r,v::vs,e=>(t,.v v)::jd r vs e
 |_,_,e=>e
def lX(D:List Nat):Env->Env
 |[]=>[]
 |(t,x)::r=>bif jc t D then lX D r else(t,x)::lX D r
def qm(N:Nat)(D R:List Nat):List Nat:=(X3 N).filter λt=>jc t D&&jc t R
def qn(N:Nat)(D R:List Nat)(e:Env):List Nat:=(X3 N).filter λt=>jc t D&&((look e t).isSome&&jc t R)
def je:Code->Bool
 | .seq a b=>je a||je b
 | .cond _ a b=>je a||je b
 | .block _ c=>je c
 | .loop c=>je c
 | .scope c=>je c
 | .rangeFunc _ _ a b=>je a||je b
 | .ret=>true
 |_=>false
def Gb(i:Nat)(l:List Nat):List Nat:=bif jc i l then l else i::l
def sf:List Nat->List Nat->List Nat
 |[],l=>l
 |i::r,l=>Gb i (sf r l)
def vh(i:Nat):List Nat->List Nat
 |[]=>[]
 |j::r=>bif S1 i j then vh i r else j::vh i r
def jO:Code->List Nat
 | .seq a b=>sf (jO a) (jO b)
 | .cond _ a b=>sf (jO a) (jO b)
 | .block id c=>vh id (jO c)
 | .loop c=>jO c
 | .scope c=>jO c
 | .rangeFunc _ _ a b=>sf (jO a) (jO b)
 | .exit i=>[i]
 |_=>[]
def nF:List (Nat×(x3->Prop))->Nat->x3->Prop
 |[],_,_=>False
 |(j,k)::r,i,w=>(i=j/\k w)\/nF r i w
def vi(K:Nat->x3->Prop):List Nat->List (Nat×(x3->Prop))
 |[]=>[]
 |i::r=>(i,λw=>K i w)::vi K r
theorem yI{K:Nat->x3->Prop}:∀{l:List Nat}{i:Nat}{w:x3},nF (vi K l) i w->K i w
 |[],_,_,h=>h.elim
 |j::r,i,w,h=>by
  rcases h with⟨rfl,h⟩|h
  .exact h
  .exact yI h
section
variable(P:W8)
def oV{a:Type}(G:Bool)(g:R7)(cap:List x1)(q:a)(r:a->Prop)(s:a->List x1->a->x3->Prop)(h:x3->Prop):Prop:=
 Enters P g/\∀(l:Nat)(aB e:a->x3->Prop)(w:x3),
  (∀k V aa,Ext V aa->cC w.heap.size V aa->aB k V->aB k aa)->(∀k V aa,Ext V aa->cC w.heap.size V aa->e k V->e k aa)->
  (∀k p vs w',h w'->s k vs p w'->aB k w'->hN P l vs w' λv f=>(v= .bool true/\h f/\aB p f/\(G=true->cN w' f))\/(v= .bool false/\e k f))->
  h w->aB q w->gF P g (.func (.yield l) #[] #[]::cap) w λ_ w'=>(∃k,r k/\aB k w')\/∃k,e k w'
def vj(G:Bool)(g:R7)(cap:List x1)(n:Nat)(h:Nat->List x1->x3->Prop)(f:x3->Prop):Prop:=
 Enters P g/\∀(l:Nat)(aB a:Nat->x3->Prop)(w:x3),
  (∀k V aa,Ext V aa->cC w.heap.size V aa->aB k V->aB k aa)->(∀k V aa,Ext V aa->cC w.heap.size V aa->a k V->a k aa)->
  (∀k vs w',k<n->f w'->h k vs w'->aB k w'->hN P l vs w' λv e=>(v= .bool true/\f e/\aB (k+1) e/\(G=true->cN w' e))\/(v= .bool false/\a k e))->
  f w->aB 0 w->gF P g (.func (.yield l) #[] #[]::cap) w λ_ w'=>aB n w'\/∃k,k<n/\a k w'
def qo{e:Type}(o G:Bool)(g:R7)(cap:List x1)(q:e)(s:e->Prop)(x:e->List x1->e->x3->Prop)(h:(Nat->Prop)->x3->Prop):Prop:=
 Enters P g/\∀(l:Nat)(aB f:(Nat->Prop)->e->x3->Prop)(w:x3),
  (∀D k V aa,ai (λr=>o=true/\w.heap.size<=r/\¬D r) V aa->fG w.heap.size V aa->aB D k V->aB D k aa)->
  (∀D k V aa,ai (λr=>o=true/\w.heap.size<=r/\¬D r) V aa->fG w.heap.size V aa->f D k V->f D k aa)->
  (∀D k p vs w',(∀r,D r->w.heap.size<=r/\r<w'.heap.size)->w.heap.size<=w'.heap.size->h D w'->x k vs p w'->aB D k w'->hN P l vs w' λv a=>
   (v= .bool true/\(∃D',(∀r,D' r->D r\/w'.heap.size<=r/\r<a.heap.size)/\(∀r,D r->D' r)/\h D' a/\aB D' p a)/\(G=true\/o=true->cN w' a)/\w'.heap.size<=a.heap.size/\(o=true->ai (λr=>r<w.heap.size\/D r) w' a))\/(o=false/\v= .bool false/\f D k a))->
  (h (λ_=>False) w)->aB (λ_=>False) q w->gF P g (.func (.yield l) #[] #[]::cap) w λ_ w'=>(∃D k,s k/\aB D k w')\/∃D k,f D k w'
abbrev oW(g:R7)(cap:List x1)(n:Nat)(a:Nat->List x1->x3->Prop)(e:x3->Prop):Prop:=vj P false g cap n a e
def Gc(z:x1)(q:Nat)(w:x3)(B:List x1->x3->(Exit->x3->Prop)->Prop)(A C:x3->Prop)(E:List (Nat×(x3->Prop))):Prop:=
 ∃(f:Type)(o G:Bool)(g:R7)(cap:Array x1)(x:f)(y:f->Prop)(s:f->List x1->f->x3->Prop)(e:(Nat->Prop)->x3->Prop)(I:(Nat->Prop)->f->x3->Prop)(h:(Nat->Prop)->f->Exit->x3->Prop),
  z= .func (.func g) #[] cap/\qo P o G g cap.toList x y s e/\(∀k vs p w,s k vs p w->vs.length=q)/\
  (∀m w w',Ext w w'->e m w->e m w')/\(∀m k V aa,ai (λr=>o=true/\w.heap.size<=r/\¬m r) V aa->fG w.heap.size V aa->I m k V->I m k aa)/\(∀m k ex V aa,ai (λr=>o=true/\w.heap.size<=r/\¬m r) V aa->fG w.heap.size V aa->h m k ex V->h m k ex aa)/\
  e (λ_=>False) w/\I (λ_=>False) x w/\
  sa q (lam q λvs=>∀m k p w',(∀r,m r->w.heap.size<=r/\r<w'.heap.size)->w.heap.size<=w'.heap.size->e m w'->s k vs p w'->I m k w'->B vs w' λex a=>match ex with
   | .normal=>bif o then(∃cg,(∀r,cg r->m r\/w'.heap.size<=r/\r<a.heap.size)/\(∀r,m r->cg r)/\e cg a/\I cg p a)/\e0 w' a/\ai (λr=>r<w.heap.size\/m r) w' a else e m a/\I m p a/\(G=true->e0 w' a)
   |ex=>bif o then False else h m k ex a)/\
  (∀m k w',y k->I m k w'->A w')/\(∀m k w',h m k .ret w'->C w')/\(∀m k i w',h m k (.exit i) w'->nF E i w')
def jf(z:x1)(w:x3)(B:x1->x3->(Exit->x3->Prop)->Prop)(A C:x3->Prop)(E:List (Nat×(x3->Prop))):Prop:=
 ∃(h:Type)(o G:Bool)(g:R7)(cap:Array x1)(x:h)(y:h->Prop)(s:h->List x1->h->x3->Prop)(f:(Nat->Prop)->x3->Prop)(I:(Nat->Prop)->h->x3->Prop)(p:(Nat->Prop)->h->Exit->x3->Prop),
  z= .func (.func g) #[] cap/\qo P o G g cap.toList x y s f/\(∀k vs q w,s k vs q w->vs.length=1)/\
  (∀m w w',Ext w w'->f m w->f m w')/\(∀m k V aa,ai (λr=>o=true/\w.heap.size<=r/\¬m r) V aa->fG w.heap.size V aa->I m k V->I m k aa)/\(∀m k ex V aa,ai (λr=>o=true/\w.heap.size<=r/\¬m r) V aa->fG w.heap.size V aa->p m k ex V->p m k ex aa)/\
  f (λ_=>False) w/\I (λ_=>False) x w/\
  (∀a,∀m k q w',(∀r,m r->w.heap.size<=r/\r<w'.heap.size)->w.heap.size<=w'.heap.size->f m w'->s k [a] q w'->I m k w'->B a w' λex e=>match ex with
   | .normal=>bif o then(∃cg,(∀r,cg r->m r\/w'.heap.size<=r/\r<e.heap.size)/\(∀r,m r->cg r)/\f cg e/\I cg q e)/\e0 w' e/\ai (λr=>r<w.heap.size\/m r) w' e else f m e/\I m q e/\(G=true->e0 w' e)
   |ex=>bif o then False else p m k ex e)/\
  (∀m k w',y k->I m k w'->A w')/\(∀m k w',p m k .ret w'->C w')/\(∀m k i w',p m k (.exit i) w'->nF E i w')
def nG(z:x1)(w:x3)(B:x1->x1->x3->(Exit->x3->Prop)->Prop)(A C:x3->Prop)(E:List (Nat×(x3->Prop))):Prop:=
 ∃(h:Type)(o G:Bool)(g:R7)(cap:Array x1)(x:h)(y:h->Prop)(s:h->List x1->h->x3->Prop)(f:(Nat->Prop)->x3->Prop)(I:(Nat->Prop)->h->x3->Prop)(p:(Nat->Prop)->h->Exit->x3->Prop),
  z= .func (.func g) #[] cap/\qo P o G g cap.toList x y s f/\(∀k vs q w,s k vs q w->vs.length=2)/\
  (∀m w w',Ext w w'->f m w->f m w')/\(∀m k V aa,ai (λr=>o=true/\w.heap.size<=r/\¬m r) V aa->fG w.heap.size V aa->I m k V->I m k aa)/\(∀m k ex V aa,ai (λr=>o=true/\w.heap.size<=r/\¬m r) V aa->fG w.heap.size V aa->p m k ex V->p m k ex aa)/\
  f (λ_=>False) w/\I (λ_=>False) x w/\
  (∀a b,∀m k q w',(∀r,m r->w.heap.size<=r/\r<w'.heap.size)->w.heap.size<=w'.heap.size->f m w'->s k [a,b] q w'->I m k w'->B a b w' λex e=>match ex with
   | .normal=>bif o then(∃cg,(∀r,cg r->m r\/w'.heap.size<=r/\r<e.heap.size)/\(∀r,m r->cg r)/\f cg e/\I cg q e)/\e0 w' e/\ai (λr=>r<w.heap.size\/m r) w' e else f m e/\I m q e/\(G=true->e0 w' e)
   |ex=>bif o then False else p m k ex e)/\
  (∀m k w',y k->I m k w'->A w')/\(∀m k w',p m k .ret w'->C w')/\(∀m k i w',p m k (.exit i) w'->nF E i w')
theorem vj.s{P:W8}{G:Bool}{g:R7}{cap:List x1}{f:Nat->List x1->x3->Prop}{a:x3->Prop}(h:vj P G g cap n f a):
  oV P G g cap 0 (λk=>k=n) (λk vs p w=>k<n/\p=k+1/\f k vs w) a:=by
 refine⟨h.1,λl aB q w r x y ha z=>?_⟩;have:=h.2 l aB (λk w=>q k w) w r x (λk vs w' hk hA B C=>y k (k+1) vs w' hA ⟨hk,rfl,B⟩ C) ha z;cases this with
 |code h1 E=>exact .code h1 (E.mono λ_ _ ⟨v,F,e⟩=>⟨v,F,e.elim (λh=>.inl ⟨n,rfl,h⟩) (λ⟨k,_,h⟩=>.inr ⟨k,h⟩)⟩)
 |ext v w' h1 e=>exact .ext v w' h1 (e.elim (λh=>.inl ⟨n,rfl,h⟩) (λ⟨k,_,h⟩=>.inr ⟨k,h⟩))
theorem oV.x{P:W8}{s:Type}{G:Bool}{g:R7}{cap:List x1}{E:s}{F:s->Prop}{H:s->List x1->s->x3->Prop}{y:x3->Prop}(h:oV P G g cap E F H y):qo P false G g cap E F H λ_=>y:=by
 refine⟨h.1,λl aB I w K L M hy N=>?_⟩;have:=h.2 l (λk w'=>w.heap.size<=w'.heap.size/\∃D,(∀r,D r->w.heap.size<=r/\r<w'.heap.size)/\aB D k w') (λk w'=>∃D,I D k w') w
  (λk V aa J A ⟨U,D,a,f⟩=>⟨Y8 U J.size,D,λr z=>⟨(a r z).1,Q1 (a r z).2 J.size⟩,K D k V aa (J.ab _) A.o f⟩) (λk V aa J A ⟨D,f⟩=>⟨D,L D k V aa (J.ab _) A.o f⟩)
  (λk O vs w' hQ R ⟨U,D,a,f⟩=>hN.mono (M D k O vs w' a U hQ R f) λv W S=>S.imp (λ⟨h1,⟨D',d1,_,p,B⟩,q,e,_⟩=>⟨h1,p,⟨Y8 U e,D',λr z=>(d1 r z).elim (λh=>⟨(a r h).1,Q1 (a r h).2 e⟩) λh=>⟨Y8 U h.1,h.2⟩,B⟩,λT=>q (.inl T)⟩) λ⟨_,h1,p⟩=>⟨h1,D,p⟩) hy ⟨o4 _,_,λ_ h=>h.elim,N⟩
 cases this with
 |code h1 p=>exact .code h1 (p.mono λ_ _ ⟨v,B,q⟩=>⟨v,B,q.imp (λ⟨k,e,_,D,_,C⟩=>⟨D,k,e,C⟩) (λ⟨k,D,h⟩=>⟨D,k,h⟩)⟩)
 |ext v w' h1 q=>exact .ext v w' h1 (q.imp (λ⟨k,e,_,D,_,C⟩=>⟨D,k,e,C⟩) (λ⟨k,D,h⟩=>⟨D,k,h⟩))
theorem jf.old{P:W8}{C:x1}{B:x1->x3->(Exit->x3->Prop)->Prop}{E F:x3->Prop}{H:List (Nat×(x3->Prop))}(h:∃(f:Type)(G:Bool)(g:R7)(cap:Array x1)(s:f)(y:f->Prop)(r:f->List x1->f->x3->Prop)(e:x3->Prop)(I:f->x3->Prop)(p:f->Exit->x3->Prop),
  C= .func (.func g) #[] cap/\oV P G g cap.toList s y r e/\(∀k vs q w,r k vs q w->vs.length=1)/\
  (∀w w',Ext w w'->e w->e w')/\(∀k w w',Ext w w'->I k w->I k w')/\(∀k ex w w',Ext w w'->p k ex w->p k ex w')/\
  e w/\I s w/\
  (∀a,∀k q w',e w'->r k [a] q w'->I k w'->B a w' λex z=>match ex with
   | .normal=>e z/\I q z/\(G=true->e0 w' z)
   |ex=>p k ex z)/\
  (∀k w',y k->I k w'->E w')/\(∀k w',p k .ret w'->F w')/\(∀k i w',p k (.exit i) w'->nF H i w')):jf P C w B E F H:=by
 obtain⟨f,G,g,cap,s,y,r,e,I,p,h1,J,K,L,M,N,O,Q,R,S,T,U⟩:=h;exact⟨f,false,G,g,cap,s,y,r,λ_=>e,λ_=>I,λ_=>p,h1,J.x,K,λ_=>L,λ_ k V aa A _=>M k V aa (A.ext λ_ _ h=>nomatch h.1),λ_ k ex V aa A _=>N k ex V aa (A.ext λ_ _ h=>nomatch h.1),O,Q,
  λa _ k q w' _ _ he W X=>R a k q w' he W X,λ_=>S,λ_=>T,λ_=>U⟩
theorem nG.old{P:W8}{C:x1}{B:x1->x1->x3->(Exit->x3->Prop)->Prop}{E F:x3->Prop}{H:List (Nat×(x3->Prop))}(h:∃(f:Type)(G:Bool)(g:R7)(cap:Array x1)(s:f)(y:f->Prop)(r:f->List x1->f->x3->Prop)(e:x3->Prop)(I:f->x3->Prop)(p:f->Exit->x3->Prop),
  C= .func (.func g) #[] cap/\oV P G g cap.toList s y r e/\(∀k vs q w,r k vs q w->vs.length=2)/\
  (∀w w',Ext w w'->e w->e w')/\(∀k w w',Ext w w'->I k w->I k w')/\(∀k ex w w',Ext w w'->p k ex w->p k ex w')/\
  e w/\I s w/\
  (∀a b,∀k q w',e w'->r k [a,b] q w'->I k w'->B a b w' λex z=>match ex with
   | .normal=>e z/\I q z/\(G=true->e0 w' z)
   |ex=>p k ex z)/\
  (∀k w',y k->I k w'->E w')/\(∀k w',p k .ret w'->F w')/\(∀k i w',p k (.exit i) w'->nF H i w')):nG P C w B E F H:=by
 obtain⟨f,G,g,cap,s,y,r,e,I,p,h1,J,K,L,M,N,O,Q,R,S,T,U⟩:=h;exact⟨f,false,G,g,cap,s,y,r,λ_=>e,λ_=>I,λ_=>p,h1,J.x,K,λ_=>L,λ_ k V aa A _=>M k V aa (A.ext λ_ _ h=>nomatch h.1),λ_ k ex V aa A _=>N k ex V aa (A.ext λ_ _ h=>nomatch h.1),O,Q,
  λa b _ k q w' _ _ he W X=>R a b k q w' he W X,λ_=>S,λ_=>T,λ_=>U⟩
def ew(N:Nat)(free:fH):Code->List Nat->Env->x3->(Exit->Env->x3->Prop)->Prop
 | .skip,_,e,w,K=>K .normal e w
 | .label _,_,e,w,K=>K .normal e w
 | .ret,_,e,w,K=>K .ret e w
 | .exit i,_,e,w,K=>K (.exit i) e w
 | .region _ ops q,_,e,w,K=>
  bif q then er w λw'=>u1 P free ops e w' (K .normal)
  else oT P free ops ops.toList e w (K .normal)
 | .seq x y,rd,e,w,K=>
  bif Nat.ble 2 (k2 x)then
   cz (lam (qm N (dw x) (reads y++rd)).length λvs=>λw'=>ew N free y rd (jd (qm N (dw x) (reads y++rd)) vs (lX (dw x) e)) w' K)
    λaB=>ew N free x (reads y++rd) e w λex a w'=>match ex with
     | .normal=>match kr a (qm N (dw x) (reads y++rd))with
      |some vs=>app (qm N (dw x) (reads y++rd)).length aB vs w'
      |none=>False
     |ex=>K ex a w'
  else ew N free x (reads y++rd) e w λex a w'=>match ex with
   | .normal=>ew N free y rd a w' K
   |ex=>K ex a w'
 | .cond c x y,rd,e,w,K=>
  match eD e c with
  |some (.b true)=>ew N free x rd e w K
  |some (.b false)=>ew N free y rd e w K
  |some (.v v)=>Split v (ew N free x rd e w K) (ew N free y rd e w K)
  |some .u=>False
  |none=>False
 | .block id c,rd,e,w,K=>ew N free c rd e w λex a w'=>match ex with
  | .exit i=>bif S1 i id then K .normal a w' else K (.exit i) a w'
  |ex=>K ex a w'
 | .loop c,rd,e,w,K=>
  match kr e (qn N (dw c) (reads c++rd) e)with
  |some vs=>
   F8 (qn N (dw c) (reads c++rd) e).length vs w λus w' k=>
    ew N free c (reads c++rd) (jd (qn N (dw c) (reads c++rd) e) us (lX (dw c) e)) w' λex a h=>match ex with
     | .normal=>match kr a (qn N (dw c) (reads c++rd) e)with
      |some r=>k r h
      |none=>False
     |ex=>K ex a h
  |none=>False
 | .scope c,rd,e,w,K=>ew N free c rd e w K
 | .rangeFunc f p s body,_,e,w,K=>
  bif free.1 then False else
  match eD e f with
  |some z=>
   Gc P z.val p.size w
    (λvs w' k=>ew N free s (reads body) (jd p.toList.reverse vs.reverse e) w' λex a h=>match ex with
     | .normal=>Over w.heap.size h λA=>ew N free body [] a A λex _ B=>k ex B
     |_=>False)
    (λw'=>K .normal e w') (bif je body then λw'=>K .ret e w' else λ_=>False) (vi (λi w'=>K (.exit i) e w') (jO body))
  |none=>False
 | .goto _,_,_,_,_=>False
 | .refuse _,_,_,_,_=>False
end
theorem sg{w0:x3}(h:cC n w0 w){l:Nat}(p:w0.heap.size<=l)(o:Obj):cC n w0 (w.putObj l o):=
 ⟨h.os,h.tape,h.output,by simpa using h.size,λr x a U=>by
  have e:=(j4.1 a).1;rw[Q0 Ω];exact h.aZ r x a U,λr x f a U=>by
  have e:=(j4.1 a).1;rw[Q0 Ω];exact h.old r x f a U⟩
theorem Gd{w0:x3}(h:e0 w0 w){l:Nat}{a:Obj}(f:w.heap[l]?=σ a)(p:rY a=false)(o:Obj):e0 w0 (w.putObj l o):=λr x q U=>by
 have h1:=h r x q U;by_cases e:r=l
 .subst e;rw[f]at h1;cases h1;rw[p]at U;cases U
 .rw[Q0 e];exact h1
theorem qp{l:Nat}{e:Obj}(h:w.heap[l]?=σ e)(p:fF e=false)(o:Obj):Ext w (w.putObj l o):=
 ⟨Ξ,λr x a U=>by
  by_cases f:r=l
  .subst f;rw[h]at a;cases a;rw[p]at U;cases U
  .rw[Q0 f];exact a⟩
theorem yJ{l:Nat}{o:Obj}(f:fF o=false):Ext (w.putObj l o) w:=
 ⟨Ξ,λr x a U=>by
  by_cases e:r=l
  .subst e;rcases Nat.lt_or_ge r w.heap.size with h|h
   .rw[x3.putObj_heap_same h]at a;cases a;rw[f]at U;cases U
   .rw[Array.getElem?_eq_none (by simpa using h)]at a;cases a
  .rw[Q0 e]at a;exact a⟩
theorem oX(w:x3)(o:Obj):Ext w (w.alloc o):=qf w o
theorem oY(w:x3)(o:Obj):cN w (w.alloc o):=qg w o
def kt(D:Nat):Deferred:={target:=.collected D,args:=#[]}
def lY(w:x3)(e:List Deferred):Prop:=∃a:List Nat,e=a.map kt/\a.Nodup/\∀D∈a,w.heap[D]?=σ (.deferred (σ []))
theorem lY.cw{a:List Deferred}(h:lY w a)(e:cC n w w'):lY w' a:=by
 obtain⟨f,h1,p,q⟩:=h;exact⟨f,h1,p,λD r=>e.aZ D _ (q D r) rfl⟩
section
variable{P:W8}{N:Nat}
def Ge(w:x3)(e f:List Deferred):Prop:=∃a:List Nat,f=a.map kt++e/\∀D∈a,w.heap.size<=D
def gH(n:Nat)(w:x3)(e:List Deferred)(w':x3)(a:List Deferred):Prop:=cC n w w'/\lY w' a/\Ge w e a
theorem gH.refl{a:List Deferred}(h:lY w a):gH n w a w a:=⟨cC.refl _ _,h,[],rfl,λ_ h=>by cases h⟩
theorem gH.trans{V:x3}{a e f:List Deferred}(h:gH n w a V e)(k:gH n V e w' f):gH n w a w' f:=by
 obtain⟨p,B,q,a3,a4⟩:=h;obtain⟨r,s,x,y,z⟩:=k;refine⟨p.trans r,s,x++q,by simp[y,a3],λD A=>?_⟩;rcases o5.1 A with h|h
 .exact Y8 p.size (z D h)
 .exact a4 D h
theorem gH.same{a:List Deferred}(h:lY w a)(e:cC n w w'):gH n w a w' a:=⟨e,h.cw e,[],rfl,λ_ h=>by cases h⟩
def k3:Exit->Bool
 | .panic _=>false
 | .outgrown=>false
 | .goto _=>false
 |_=>true
def mE(N:Nat)(free:fH)(f:Bool)(K:Exit->Env->x3->Prop)(D:List Nat)(a:Act)(w:x3)(ex:Exit)(a':Act)(w':x3):Prop:=
 k3 ex=true/\∃e,K ex e w'/\S6 N e a'/\(∀t,t∉D->a'.tmps.getD t undef=a.tmps.getD t undef)/\(f=true->a'.defers=a.defers)/\
  (free.1=false->gH free.2 w a.defers w' a'.defers)
theorem mE.step{free:fH}{f p:Bool}{K:Exit->Env->x3->Prop}{D':List Nat}{a e a':Act}{V:x3}{ex:Exit}(h:mE N free p K D' e V ex a' w')(r:∀t,t∈D'->t∈D)(hk:∀t,t∉D->e.tmps.getD t undef=a.tmps.getD t undef)(s:f=true->p=true)(ag:f=true->e.defers=a.defers)(x:free.1=false->gH free.2 w a.defers V e.defers):mE N free f K D a w ex a' w':=by
 obtain⟨y,z,h1,A,B,C,E⟩:=h;exact⟨y,z,h1,A,λt q=>(B t λh=>q (r t h)).trans (hk t q),λh=>(C (s h)).trans (ag h),λh=>(x h).trans (E h)⟩
theorem sh{D:List Nat}{t:Nat}{x:ev}:∀{e:Env},look (lX D e) t=σ x->look e t=σ x/\t∉D
 |[],h=>by cases h
 |(s,y)::r,h=>by
  simp only[lX]at h;cases hm:jc s D with
  |true=>
   rw[hm]at h;simp only[cond_true]at h;obtain⟨h1,f⟩:=sh h;refine⟨?_,f⟩;simp only[look];cases a:S1 s t with
   |true=>exact absurd (ve.1 hm) (by rw[Nat.eq_of_beq_eq_true a];exact f)
   |false=>exact h1
  |false=>
   rw[hm]at h;simp only[cond_false,look]at h ⊢;cases a:S1 s t with
   |true=>
    rw[a]at h;refine⟨h,λp=>?_⟩;rw[<-Nat.eq_of_beq_eq_true a]at p;rw[ve.2 p]at hm;cases hm
   |false=>
    rw[a]at h;exact sh h
theorem vk{a:Act}{e:Env}:∀{S:List Nat}{vs:List x1},S6 N e a->(∀p∈S.zip vs,a.tmps.getD p.1 undef=p.2)->S6 N (jd S vs e) a
 |[],_,h,_=>by simpa[jd]using h
 |t::r,[],h,_=>by simpa[jd]using h
 |t::r,v::vs,h,q=>by
  have w:=vk (S:=r) (vs:=vs) h λp y=>q p (by simp[y]);refine⟨w.1,λs x U=>?_⟩;simp only[jd,look]at U;cases f:S1 t s with
  |true=>
   rw[f]at U;simp only[cond_true,Y2]at U;subst U;rw[<-Nat.eq_of_beq_eq_true f];exact q (t,v) Ξ
  |false=>rw[f]at U;exact w.2 s x U
theorem si{e:Env}{a:Act}(s:S6 N e a):∀{S:List Nat}{vs:List x1},kr e S=σ vs->vs.length=S.length/\∀p∈S.zip vs,a.tmps.getD p.1 undef=p.2
 |[],vs,h=>by simp[kr]at h;subst h;simp
 |t::r,vs,h=>by
  simp only[kr]at h;cases q:look e t with
  |none=>rw[q]at h;cases h
  |some x=>
   rw[q]at h;simp only at h;cases ad:kr e r with
   |none=>rw[ad]at h;cases h
   |some us=>
    rw[ad]at h;simp only[Y2]at h;subst h;obtain⟨h1,w⟩:=si s ad;refine⟨by simp[h1],λp f=>?_⟩;simp only[List.zip_cons_cons,V4]at f;rcases f with rfl|f
    .exact s.2 t x q
    .exact w p f
theorem Gf{a a':Act}{e f:Env}(p:S6 N e a)(q:S6 N f a')(hk:∀t,t∉D->a'.tmps.getD t undef=a.tmps.getD t undef):S6 N (lX D e) a':=
 ⟨q.1,λt x h=>by
  obtain⟨h1,r⟩:=sh h;rw[hk t r];exact p.2 t x h1⟩
theorem Gg{o:T7}{t:Nat}(a:o.dst=σ t)(l:List T7)(hm:o∈l):t∈nC l:=by
 induction l with
 |nil=>cases hm
 |cons o' l e=>
  simp only[nC];rcases V4.1 hm with h|h
  .rw[<-h,a];simp
  .have:=e h;cases o'.dst with
   |none=>exact this
   |some d=>exact .tail _ this
theorem yK{free:fH}{f:Bool}{K:Exit->Env->x3->Prop}{a a':Act}(p:free.1=false->lY w a.defers)(h:mA N free (K .normal) D a w a' w'):
  mE N free f K D a w .normal a' w':=by
 obtain⟨q,h1,r,e,s⟩:=h;exact⟨rfl,q,h1,r,e.2,λ_=>e.1,λag=>by rw[e.1];exact gH.same (p ag) (s ag)⟩
theorem yL:∀(a:List Nat)(vs:List x1)(p:Nat)(v:x1)(e:Env),a.length=vs.length->jd (a++[p]) (vs++[v]) e=jd a vs ((p,.v v)::e)
 |[],[],_,_,_,_=>rfl
 |[],_::_,_,_,_,h=>by simp at h
 |_::_,[],_,_,_,h=>by simp at h
 |q::a,u::vs,p,v,e,h=>by
  simp only[List.cons_append,jd];rw[yL a vs p v e (by simpa using h)]
theorem yM:∀(a:List Nat)(vs:List x1)(iE:Array x1)(e:Env),a.length=vs.length->(a.all λt=>Nat.blt t N)=true->S6 N e {tmps:=iE,defers:=[]}->
  S6 N (jd a.reverse vs.reverse e) {tmps:=(a.zip vs).foldl (λiE (p:Nat×x1)=>iE.setIfInBounds p.1 p.2) iE,defers:=[]}
 |[],[],_,_,_,_,h=>h
 |[],_::_,_,_,h,_,_=>by simp at h
 |_::_,[],_,_,h,_,_=>by simp at h
 |p::a,v::vs,iE,e,r,f,h=>by
  have q:a.length=vs.length:=by simpa using r
  simp only[List.all_cons,U1]at f;simp only[List.zip_cons_cons,List.foldl_cons,List.reverse_cons];rw[yL _ _ _ _ _ (by simpa using q)];exact yM a vs _ _ q f.2 (h.put (d:=σ p) (x:=.v v) (v:=v) f.1 rfl)
def jg(free:fH)(c:Code):Bool:=free.1|| !kq c
theorem yN:∀f a b:Bool,(f|| !(a||b))=true->(f|| !a)=true:=Φ
theorem yO:∀f a b:Bool,(f|| !(a||b))=true->(f|| !b)=true:=Φ
def exitCode:Exit->Option Code
 | .ret=>σ .ret
 | .exit id=>σ (.exit id)
 |_=>ν
end
section
variable{P:W8}{N:Nat}
def Sound(P:W8)(N:Nat)(c:Code):Prop:=
 ∀(free:fH)(r:Option Nat)(rd:List Nat)(e:Env)(a:Act)(w:x3)(K:Exit->Env->x3->Prop)(Q:Exit->Act->x3->Prop),
  wf N c=true->(∀l,r=σ l->free.1=false/\∃f,w.heap[l]?=σ (.loop f))->(free.1=false->lY w a.defers)->
  ew P N free c rd e w K->S6 N e a->(∀ex a' w',mE N free (jg free c) K (dw c) a w ex a' w'->Q ex a' w')->(∀h a w,¬Q (.panic h) a w)->
  c.wpIn (ep r) 0 P Q a w
theorem Gh{x y:Code}(J:Sound P N x)(aa:Sound P N y):Sound P N (.seq x y):=by
 intro free r rd e a w K Q E M ab h O R S;simp only[wf,U1]at E;have T:∀t,t∈dw x->t∈dw (.seq x y):=λt s=>by simp[dw,s]
 have ac:∀t,t∈dw y->t∈dw (.seq x y):=λt s=>by simp[dw,s]
 have U:jg free (.seq x y)=true->jg free x=true:=λh=>yN _ _ _ h;have ae:jg free (.seq x y)=true->jg free y=true:=λh=>yO _ _ _ h;refine wpIn_seq ?_;have W:∀(f:Env)(p:Act)(V:x3),ew P N free y rd f V K->S6 N f p->(∀t,t∉dw x->p.tmps.getD t undef=a.tmps.getD t undef)->
   (jg free (.seq x y)=true->p.defers=a.defers)->(free.1=false->gH free.2 w a.defers V p.defers)->y.wpIn (ep r) 0 P Q p V:=by
  intro f p V h1 z hk ag q;refine aa free r rd f p V K Q E.2 ?_ (λh=>(q h).2.1) h1 z ?_ S
  .intro l af;obtain⟨X,ah,C⟩:=M l af;exact⟨X,ah,(q X).1.aZ _ _ C rfl⟩
  .intro ex a' w' B;exact R ex a' w' (B.step ac (λt s=>hk t λh=>s (T t h)) ae ag q)
 have Y:∀(A:Exit->Env->x3->Prop),ew P N free x (reads y++rd) e w A->
   (∀f p V,mE N free (jg free x) A (dw x) a w .normal p V->S6 N f p->A .normal f V->(∀t,t∉dw x->p.tmps.getD t undef=a.tmps.getD t undef)->
    (jg free (.seq x y)=true->p.defers=a.defers)->(free.1=false->gH free.2 w a.defers V p.defers)->y.wpIn (ep r) 0 P Q p V)->
   (∀ex f V,ex≠ .normal->A ex f V->K ex f V)->x.wpIn (ep r) 0 P (Exit.then (y.wpIn (ep r) 0 P Q) Q) a w:=by
  intro A ad q ai;refine J free r _ e a w A _ E.1 M ab ad O ?_ ?_
  .intro ex p V B;cases ex with
   |normal=>
    have aj:=B;obtain⟨C,f,h1,F,G,H,I⟩:=B;exact q f p V aj F h1 G (λh=>H (U h)) I
   |_=>
    obtain⟨C,f,h1,F,G,H,I⟩:=B;refine R _ p V ⟨C,f,ai _ f V Ξ h1,F,λt s=>G t λh=>s (T t h),λh=>H (U h),I⟩
  .intro ak a w al;exact S ak a w al
 simp only[ew]at h;cases Z:Nat.ble 2 (k2 x)with
 |false=>
  rw[Z]at h;refine Y _ h (λf p V _ z h1 hk ag q=>W f p V h1 z hk ag q) ?_;intro ex f V L h1;cases ex<;>first|exact absurd rfl L|exact h1
 |true=>
  rw[Z]at h;refine Y _ h (λf p V _ z h1 hk ag q=>?_) ?_
  .simp only at h1;cases ad:kr f (qm N (dw x) (reads y++rd))with
   |none=>rw[ad]at h1;exact h1.elim
   |some vs=>
    rw[ad]at h1;obtain⟨am,an⟩:=si z ad;simp only at h1;rw[sb _ _ _ am]at h1;exact W _ p V h1 (vk (Gf O z hk) an) hk ag q
  .intro ex f V L h1;cases ex<;>first|exact absurd rfl L|exact h1
theorem Gi{c:Code}(ac:Sound P N c):Sound P N (.loop c):=by
 intro free r rd e a w K Q T ae af h F ah ai;simp only[wf]at T;simp only[ew]at h;generalize ay:qn N (dw c) (reads c++rd) e=S at h;cases ad:kr e S with
 |none=>rw[ad]at h;exact h.elim
 |some vs=>
  rw[ad]at h;simp only at h;obtain⟨I,aj,s,ak⟩:=h;obtain⟨al,am⟩:=si F ad;let Inv:Act->x3->Prop:=λf V=>∃us,us.length=S.length/\app S.length I us V/\(∀p∈S.zip us,f.tmps.getD p.1 undef=p.2)/\f.tmps.size=N/\
   (∀t,t∉dw c->f.tmps.getD t undef=a.tmps.getD t undef)/\(jg free c=true->f.defers=a.defers)/\(free.1=false->gH free.2 w a.defers V f.defers)
  let y:Act->List x1:=λf=>S.map λt=>f.tmps.getD t undef;have U:∀(f:Act)(us:List x1),us.length=S.length->(∀p∈S.zip us,f.tmps.getD p.1 undef=p.2)->y f=us:=by
   intro f us z A;apply List.ext_getElem
   .simp[y,z]
   .intro i h1 q;have hi:i<S.length:=by simpa[y]using h1
    have an:(S[i],us[i])∈S.zip us:=by
     have:=T2 (l:=S.zip us) (n:=i) (by simp[List.length_zip,z,hi]);simpa using this
    simpa[y]using A _ an
  refine wpIn_loop Inv (λf V=>app S.length aj (y f) V) ⟨vs,al,s,am,F.1,λ_ _=>rfl,λ_=>rfl,λag=>gH.refl (af ag)⟩ ?_;rintro f V ⟨us,z,ao,A,ap,hk,ag,B⟩;have C:=sd S.length _ us ak;rw[sb _ _ _ z]at C;have C:=C V ao;have aq:S6 N (jd S us (lX (dw c) e)) f:=by
   refine vk (a:=f) (e:=lX (dw c) e) ⟨ap,λt x E=>?_⟩ A;obtain⟨h1,q⟩:=sh E;rw[hk t q];exact F.2 t x h1
  refine ac free r _ _ f V _ _ T ?_ (λh=>(B h).2.1) C aq ?_ ?_
  .intro l au;obtain⟨W,av,s⟩:=ae l au;exact⟨W,av,(B W).1.aZ _ _ s rfl⟩
  .intro ex G aa H;have X:∀t,t∉dw c->G.tmps.getD t undef=a.tmps.getD t undef:=by
    obtain⟨_,_,_,_,J,_,_⟩:=H;exact λt E=>(J t E).trans (hk t E)
   cases ex with
   |normal=>
    obtain⟨s,L,h1,q,J,M,O⟩:=H;simp only at h1;cases R:kr L S with
    |none=>rw[R]at h1;exact h1.elim
    |some Y=>
     rw[R]at h1;obtain⟨Z,ab⟩:=si q R;refine⟨⟨Y,Z,h1.1,ab,q.1,X,λh=>(M h).trans (ag h),λh=>(B h).trans (O h)⟩,?_⟩;rw[U f us z A,U G Y Z ab];exact h1.2
   |_=>
    obtain⟨s,L,h1,q,J,M,O⟩:=H;exact ah _ G aa ⟨s,L,h1,q,X,λh=>(M h).trans (ag h),λh=>(B h).trans (O h)⟩
  .intro aw a w ax;exact ai aw a w ax
theorem Gj{o:Obj}(h:fF o=false):book o=true\/rY o=true:=by cases o<;>first|exact .inl rfl|exact .inr rfl|cases h
theorem Gk{l:Nat}{f h:x3}{y z:Obj}(A:f.heap[l]?=σ y)(a:cC n f w)(e:cC n (w.putObj l z) h)(B:l<h.heap.size)(hi:e0 f h):cN f (h.putObj l y):=
 ⟨e.os.trans a.os,jL.trans e.tape a.tape,e.output.trans a.output,by have h1:=a.size;have C:=e.size;simp at C ⊢;omega,λr x p U=>by
  by_cases s:r=l
  .subst s;rw[A]at p;cases p;exact x3.putObj_heap_same B
  .rw[Q0 s];rcases Gj U with q|q
   .exact e.aZ r x (by rw[Q0 s];exact a.aZ r x p q) q
   .exact hi r x p q⟩
theorem Gl{f:S4}{V:Array Tmp}{Z body:Code}(be:Sound P N Z)(al:Sound P N body):Sound P N (.rangeFunc f V Z body):=by
 intro free r rd e a w K Q aN U ay h ae bf b1;simp only[wf,U1]at aN;obtain⟨bg,bh,bi⟩:=aN;simp only[ew]at h;obtain⟨fr,b⟩:=free;cases fr with
 |true=>exact h.elim
 |false=>
  simp only[cond_false]at h;cases ag:eD e f with
  |none=>rw[ag]at h;exact h.elim
  |some b2=>
   rw[ag]at h;obtain⟨aO,o,G,g,cap,b3,b4,b5,am,I,az,bj,⟨aP,bk⟩,bl,haQ,an,aA,hbm,bn,bo,bp,bq,br⟩:=h;have bt:∀m k ex w',k3 ex=true->ex≠ .normal->az m k ex w'->K ex e w':=by
    intro m k ex w' af aC J;cases ex with
    |normal=>exact absurd rfl aC
    |ret=>
     have:=bq m k w' J;cases U:je body with
     |true=>rw[U]at this;exact this
     |false=>rw[U]at this;exact this.elim
    |exit i=>exact yI (br m k i w' J)
    |_=>cases af
   have bu:a.eval f= .func (.func g) #[] cap:=by rw[ae.eD ag];exact bj
   refine wpIn_rangeFunc ?_;intro fn _;obtain⟨D,mark,l,C,y,bw,E,aR,ao,R,aS,ap⟩:∃(D:Nat)(mark:List Deferred)(l:Nat)(C:x3)(y:LoopState->Option Code->Loop),
     (Instr.enterLoop fn a.tmps V Z body (ep r).round).run P w= .ok (l,mark) C/\
     y=(λst bx=>{state:=st,pending:=bx,fn,tmps:=a.tmps,params:=V,assign:=Z,body,defers:=D})/\
     C.heap[l]?=σ (.loop (y .ready ν))/\(mark=[]\/(mark=[kt D]/\C.heap[D]?=σ (.deferred (σ []))/\w.heap.size<=D/\D≠l))/\Ext w C/\cN w C/\w.heap.size<=l:=by
    cases r with
    |none=>
     refine⟨w.heap.size,[kt w.heap.size],w.heap.size+1,_,_,run_enterLoop_outer _ _ _ _ _,rfl,?_,.inr ⟨rfl,?_,o4 _,Ω⟩,?_,?_,Ω⟩
     .have:=x3.alloc_heap_new (w.alloc (.deferred (σ []))) (.loop {state:=.ready,pending:=ν,fn,tmps:=a.tmps,params:=V,assign:=Z,body,defers:=w.heap.size});rwa [x3.size_alloc]at this
     .exact (Below.heap_alloc _ _ _ Ξ).trans (x3.alloc_heap_new w _)
     .exact (oX w _).trans (oX _ _)
     .exact (oY w _).trans (oY _ _)
    |some bz=>
     obtain⟨_,bA,S⟩:=U bz rfl;exact⟨bA.defers,[],w.heap.size,_,_,run_enterLoop_inner S _ _ _ _ _,rfl,x3.alloc_heap_new w _,.inl rfl,oX _ _,oY _ _,o4 _⟩
   let T:x3->Prop:=λq=>mark=[]\/(mark=[kt D]/\q.heap[D]?=σ (.deferred (σ []))/\w.heap.size<=D/\D≠l);have aD:∀{m:Nat}{A B:x3},cC m A B->T A->T B:=λF h=>h.imp id λ⟨h1,s,z⟩=>⟨h1,F.aZ _ _ s rfl,z⟩;have aq:∀{A:x3}(o:Obj),T A->T (A.putObj l o):=λo h=>h.imp id λ⟨h1,s,z,L⟩=>⟨h1,(Q0 L).trans s,z,L⟩;have bB:cC b w C:=aS.b;have aT:=(j4.1 aR).1;have aU:∀{A B:x3},fG C.heap.size A B->T A->T B:=λF h=>h.imp id λ⟨h1,s,z⟩=>⟨h1,F.old _ _ (by
    rcases ao with hm|⟨_,ay,_⟩
    .rw[hm]at h1;cases h1
    .exact (j4.1 ay).1) s rfl,z⟩
   have ah:∀{A:x3}(o:Obj),fG w.heap.size A (A.putObj l o):=λ{A}o=>⟨rfl,.km,rfl,Ξ,λr x U J _=>by rw[Q0 Ω];exact J⟩;let aB:(Nat->Prop)->aO->x3->Prop:=λm k q=>I m k q/\q.heap[l]?=σ (.loop (y .ready ν))/\cC b w q/\T q;let aV:(Nat->Prop)->aO->x3->Prop:=λm k q=>∃ex c,k3 ex=true/\exitCode ex=σ c/\az m k ex q/\q.heap[l]?=σ (.loop (y .done (σ c)))/\cC b w q/\T q;have own:∀{m:Nat->Prop}{A B:x3},ai (λr=>o=true/\C.heap.size<=r/\¬m r) A B->ai (λr=>o=true/\w.heap.size<=r/\¬m r) A B:=λh=>h.mono λr _ h=>⟨h.1,Y8 R.size h.2.1,h.2.2⟩;have aE:=bk l aB aV C (λm k A B he F ⟨h1,s,z,L⟩=>⟨an m k A B (own he) (F.mono R.size) h1,F.old _ _ aT s rfl,z.yv F R.size,aU F L⟩)
    (λm k A B he F ⟨ex,c,S,h1,s,z,L,aj⟩=>⟨ex,c,S,h1,aA m k ex A B (own he) (F.mono R.size) s,F.old _ _ aT z rfl,L.yv F R.size,aU F aj⟩) ?round (haQ _ _ _ R hbm) ⟨an _ _ _ _ (R.ab _) aS.o bn,aR,bB,ao⟩
   case round=>
    intro m k au vs q aW bC ham aX ⟨hi,av,bD,bE⟩;have aF:=bl k vs au q aX;have aY:=run_yield (P:=P) (args:=vs.toArray) av (by rw[E];simp[aF]);rw[E]at aY;refine⟨fn,_,Z,body,aY,roundIn_of_wpIn trivial ?_⟩;have bF:(V.zip vs.toArray).foldl (λtmps x=>match x with|(t,a)=>tmps.setIfInBounds t a) a.tmps=(V.toList.zip vs).foldl (λiE (p:Nat×x1)=>iE.setIfInBounds p.1 p.2) a.tmps:=by
     rw[<-Array.foldl_toList,Array.toList_zip]
    have a1:=yM (N:=N) V.toList vs a.tmps e (by simp[aF]) bg (show S6 N e {tmps:=a.tmps,defers:=[]}from⟨ae.1,ae.2⟩);rw[<-bF]at a1;have bG:q.heap[l]?=σ (.loop (y .ready ν)):=av;refine be (false,b) (σ l) _ _ _ q _ _ bh (λl' aG=>⟨rfl,by cases aG;exact⟨_,av⟩⟩) (λ_=>⟨[],rfl,List.nodup_nil,λD ao=>by cases ao⟩) (by have al:=sd _ _ vs bo;rw[sb _ _ _ aF]at al;exact al m k au q (λr U=>⟨Y8 R.size (aW r U).1,(aW r U).2⟩) (Y8 R.size bC) ham aX hi) a1 ?_ (λ_ _ _ h=>h);intro ex a2 H aH;obtain⟨S,b6,h1,s,z,L,aj⟩:=aH;obtain⟨W,bH,_⟩:=aj rfl;cases ex with
    |normal=>
     have aa:H.heap[l]?=σ (.loop (y .ready ν)):=W.aZ _ _ av rfl;have bI:=(j4.1 aa).1;refine⟨_,run_beginRound aa (by rw[E]),?_⟩;have bJ:Ext H (H.putObj l (.loop {y .ready ν with state:=.busy})):=qp aa rfl _;have a6:(H.putObj l (.loop {y .ready ν with state:=.busy})).heap[l]?=σ (.loop {y .ready ν with state:=.busy}):=x3.putObj_heap_same bI;have bK:lY (H.putObj l (.loop {y .ready ν with state:=.busy})) a2.defers:=by
      obtain⟨aw,ac,ad,ak⟩:=bH;refine⟨aw,ac,ad,λD' X=>?_⟩;have:=ak D' X;have aC:D'≠l:=λhe=>by rw[he,aa]at this;cases this
      rw[Q0 aC];exact this
     have a7:cC b w (H.putObj l (.loop {y .ready ν with state:=.busy})):=sg (bD.trans W) ap _;have a8:=aq (.loop {y .ready ν with state:=.busy}) (aD W bE);have bL:=h1 _ bJ ⟨yJ rfl,ah _⟩ (Gd (e0.refl _) aa rfl _);refine al (false,b) (σ l) _ _ a2 _ _ _ bi (λl' aG=>⟨rfl,by cases aG;exact⟨_,a6⟩⟩) (λ_=>bK) bL s ?_ (λ_ _ _ h=>h);intro bM b7 M aH;obtain⟨aI,b8,g1,b9,ca,cb,bN⟩:=aH;obtain⟨O,_,_⟩:=bN rfl;have aJ:M.heap[l]?=σ (.loop {y .ready ν with state:=.busy}):=O.aZ _ _ a6 rfl;have aK:=(j4.1 aJ).1;have ba:=λbO=>run_endRound (P:=P) bO aJ;have ax:∀(o:Obj),Ext M (M.putObj l o):=λo=>qp aJ rfl o;have bb:∀(ex:Exit)(c:Code),k3 ex=true->exitCode ex=σ c->(bif o then False else az m k ex M)->
       ∃v w',(Instr.endRound l (σ c)).run P M= .ok v w'/\∃aL,Ending.returned v= .returned aL/\((aL= .bool true/\(∃cg,(∀r,cg r->m r\/q.heap.size<=r/\r<w'.heap.size)/\(∀r,m r->cg r)/\am cg w'/\aB cg au w')/\(G=true\/o=true->cN q w')/\q.heap.size<=w'.heap.size/\(o=true->ai (λr=>r<C.heap.size\/m r) q w'))\/(o=false/\aL= .bool false/\aV m k w')):=by
      intro ex c af bP bc;cases o with
      |true=>exact bc.elim
      |false=>
       refine⟨_,_,ba (σ c),_,rfl,.inr ⟨rfl,rfl,ex,c,af,bP,aA m k ex _ _ ((ax _).ab _) (ah _) bc,?_,sg (a7.trans O) ap _,aq _ (aD O a8)⟩⟩;rw[x3.putObj_heap_same aK,E];rfl
     cases bM with
     |normal=>
      have bQ:q.heap.size<=M.heap.size:=by
       have h1:=W.size;have s:=O.size;simp at s;omega
      obtain⟨⟨cg,d1,d2,ac,ad⟩,bR,bS⟩:(∃cg,(∀r,cg r->m r\/q.heap.size<=r/\r<M.heap.size)/\(∀r,m r->cg r)/\am cg M/\I cg au M)/\(G=true\/o=true->e0 q M)/\(o=true->ai (λr=>r<C.heap.size\/m r) q M):=by
       cases o with
       |true=>exact⟨g1.1,λ_=>g1.2.1,λ_=>g1.2.2.mono λr _ h=>h.imp (λh=>Q1 h R.size) id⟩
       |false=>exact⟨⟨m,λr h=>.inl h,λ_ h=>h,g1.1,g1.2.1⟩,λh=>g1.2.2 (h.elim id λh=>nomatch h),λh=>nomatch h⟩
      refine⟨_,_,ba ν,_,rfl,.inl ⟨rfl,⟨cg,by simpa using d1,d2,haQ _ _ _ (ax _) ac,an _ _ _ _ ((ax _).ab _) (ah _) ad,?_,sg (a7.trans O) ap _,aq _ (aD O a8)⟩,λbT=>?_,?_,λbU=>(bS bU).trans ((ax _).ab _)⟩⟩
      .rw[x3.putObj_heap_same aK,E];rfl
      .have:=Gk bG W O aK (bR bT);subst E;exact this
      .simpa using bQ
     |ret=>exact bb .ret _ rfl rfl g1
     |exit id=>exact bb (.exit id) _ rfl rfl g1
     |goto t=>cases aI
     |panic bV=>cases aI
     |outgrown=>cases aI
    |_=>exact h1.elim
   have aE:=gF.calls P aE aP;refine⟨l,mark,C,{target:=.fn (.func g) cap,args:=#[.func (.yield l) #[] #[]]},C,g,#[.func (.yield l) #[] #[]]++cap,C,bw,?_,λ_ _=>trivial,?_,uU _ _,?_⟩
   .simp only[resolve,bu];simp[go_sem]
   .simp only[invoke];exact aP _ _
   .have bW:(#[.func (.yield l) #[] #[]]++cap:Array x1)=(x1.func (.yield l) #[] #[]::cap.toList).toArray:=by apply Array.toList_inj.1;simp
    rw[bW];refine CallsIn.mono (yw aE) ?_;rintro cc H ⟨v,rfl,bX⟩;have left:∀(Y:Loop)(ex:Exit),k3 ex=true->H.heap[l]?=σ (.loop Y)->Y.state≠ .busy->cC b w H->T H->K ex e (H.putObj l (.loop {Y with state:=.exhausted}))->
      Q ex {a with defers:=mark++a.defers} (H.putObj l (.loop {Y with state:=.exhausted})):=by
     intro Y ex af aa cd W bd bY;have O:cC b w (H.putObj l (.loop {Y with state:=.exhausted})):=sg W ap _;refine bf ex _ _ ⟨af,e,bY,⟨ae.1,ae.2⟩,λ_ _=>rfl,(λh=>by simp[jg,kq]at h),λ_=>⟨O,?_,?_⟩⟩
     case refine_2=>
      rcases bd with hm|⟨hm,_,bZ,_⟩
      .exact⟨[],by simp[hm],λ_ h=>by cases h⟩
      .exact⟨[D],by simp[hm],λD' X=>by simp at X;omega⟩
     obtain⟨aw,ac,ad,ak⟩:=ay rfl;have aM:=aq (.loop {Y with state:=.exhausted}) bd;rcases aM with hm|⟨hm,aM,bZ,_⟩
     .exact⟨aw,by simp[hm,ac],ad,λD' X=>O.aZ _ _ (ak D' X) rfl⟩
     .refine⟨D::aw,by simp[hm,ac],List.nodup_cons.2 ⟨λb0=>?_,ad⟩,λD' X=>?_⟩
      .have:=(j4.1 (ak D b0)).1;omega
      .rcases V4.1 X with h|h
       .rw[h];exact aM
       .exact O.aZ _ _ (ak D' h) rfl
    rcases bX with⟨m,k,hk,h1,s,z,L⟩|⟨m,k,ex,c,S,h1,s,z,L,aj⟩
    .refine⟨ν,_,by have:=run_endLoop (P:=P) s (by rw[E];simp);rw[E]at this;exact this,?_⟩;have:=left (y .ready ν) .normal rfl s (by rw[E];simp) z L (bp m _ _ hk (an m _ _ _ ((qp s rfl _).ab _) (ah _) h1));rw[E]at this;exact this
    .refine⟨σ c,_,by have:=run_endLoop (P:=P) z (by rw[E];simp);rw[E]at this;exact this,?_⟩;have:=left (y .done (σ c)) ex S z (by rw[E];simp) L aj (bt m k ex _ S (by intro he;rw[he]at h1;cases h1) (aA m _ _ _ _ ((qp z rfl _).ab _) (ah _) s));rw[E]at this;cases ex with
     |normal=>cases h1
     |ret=>cases h1;exact wpIn_ret this
     |exit id=>cases h1;exact wpIn_exit this
     |goto t=>cases S
     |panic bV=>cases S
     |outgrown=>cases S
theorem sj{b:Frame}{a:Act}{k:List Item}{cs:List Frame}{c:Code}:
  step P (lone (b.atR a (.code (.scope c)::k)) cs w)= .next (lone (b.atR a (.code c:: .inScope c::k)) cs w):=
 step_lone_go (by simp[stepG,stepG.exec,Frame.atR])
theorem Gm{b:Frame}{a:Act}{k:List Item}{cs:List Frame}{c:Code}:
  step P (lone (b.atR a (.inScope c::k)) cs w)= .next (lone (b.atR a k) cs w):=
 step_lone_go (by simp[stepG,stepG.exec,Frame.atR])
theorem Gn{F:Fence}{c:Code}{Q:Exit->Act->x3->Prop}{a:Act}(h:c.wpIn F n P (λex a' w'=>k3 ex=true/\Q ex a' w') a w):
  (Code.scope c).wpIn F n P Q a w:=by
 intro b k cs A q r;have f:(lone (b.atR a (.code (.scope c)::k)) cs w).fenced P F:=fenced_calm q r rfl;obtain⟨e,s,x,⟨y,z⟩,p⟩:=h b (.inScope c::k) cs A q r;have J:∀id,exitTo id (.inScope c::k)=exitTo id k:=λid=>by simp[exitTo]
 cases e with
 |normal=>exact⟨.normal,s,x,z,.head f sj (StepsIn.trans p (.one (fenced_calm q r rfl) Gm))⟩
 |exit id=>
  exact⟨.exit id,s,x,z,λB hk=>.head f sj (p.1 B (by rw[J];exact hk)),
   λC hk=>let⟨E,h1,G⟩:=p.2 C (by rw[J];exact hk);⟨E,h1,.head f sj G⟩⟩
 |ret=>exact⟨_,s,x,z,.of_steps (.one f sj) p⟩
 |goto l=>cases y
 |panic H=>cases y
 |outgrown=>cases y
theorem sound(hm:P.follows .mixedOrders=true)(c:Code):Sound P N c:=by
 induction c with
 |skip=>exact λfree r rd e a w K Q _ _ q h p A _=>wpIn_skip (A _ _ _ ⟨rfl,e,h,p,λ_ _=>rfl,λ_=>rfl,λag=>gH.refl (q ag)⟩)
 |label l=>exact λfree r rd e a w K Q _ _ q h p A _=>wpIn_label (A _ _ _ ⟨rfl,e,h,p,λ_ _=>rfl,λ_=>rfl,λag=>gH.refl (q ag)⟩)
 |ret=>exact λfree r rd e a w K Q _ _ q h p A _=>wpIn_ret (A _ _ _ ⟨rfl,e,h,p,λ_ _=>rfl,λ_=>rfl,λag=>gH.refl (q ag)⟩)
 |exit i=>exact λfree r rd e a w K Q _ _ q h p A _=>wpIn_exit (A _ _ _ ⟨rfl,e,h,p,λ_ _=>rfl,λ_=>rfl,λag=>gH.refl (q ag)⟩)
 |goto l=>exact λfree r rd e a w K Q _ _ q h p A _=>h.elim
 |refuse s=>exact λfree r rd e a w K Q _ _ q h p A _=>h.elim
 |region id ops aa=>
  intro free r rd e a w K Q B F q h p A G;simp only[wf,U1]at B;have W:∀o∈ops.toList,∀t,o.dst=σ t->t∈nC ops.toList:=λo ab t L=>Gg L _ ab;simp only[ew]at h;cases aa with
  |false=>exact FU W B.1 h p λa' w' C=>A _ _ _ (yK q C)
  |true=>
   simp only[Y7,Bool.false_or]at B;exact F5 hm B.2 G W B.1 (λw' h1 H I=>h w' h1 H I) p λa' w' C=>A _ _ _ (yK q C)
 |seq x y J S=>exact Gh J S
 |cond c x y J S=>
  intro free r rd e a w K Q B F q h p A G;simp only[wf,U1]at B;have X:∀ex a' w',mE N free (jg free x) K (dw x) a w ex a' w'->Q ex a' w':=λex a' w' C=>A ex a' w' (by
   obtain⟨R,M,h1,H,I,O,T⟩:=C;exact⟨R,M,h1,H,λt L=>I t λh=>L (by simp[dw,h]),(λh=>O (yN _ _ _ h)),T⟩)
  have Y:∀ex a' w',mE N free (jg free y) K (dw y) a w ex a' w'->Q ex a' w':=λex a' w' C=>A ex a' w' (by
   obtain⟨R,M,h1,H,I,O,T⟩:=C;exact⟨R,M,h1,H,λt L=>I t λh=>L (by simp[dw,h]),(λh=>O (yO _ _ _ h)),T⟩)
  simp only[ew]at h;cases E:eD e c with
  |none=>rw[E]at h;exact h.elim
  |some v=>
   rw[E]at h;cases v with
   |b t=>
    cases t with
    |true=>exact wpIn_cond (t:=true) (p.eD E) (J free r rd e a w K Q B.1 F q h p X G)
    |false=>exact wpIn_cond (t:=false) (p.eD E) (S free r rd e a w K Q B.2 F q h p Y G)
   |v z=>
    obtain⟨t,ac,L,ag⟩:=h;refine wpIn_cond (t:=t) ((p.eD E).trans ac) ?_;cases t with
    |true=>exact J free r rd e a w K Q B.1 F q (L rfl) p X G
    |false=>exact S free r rd e a w K Q B.2 F q (ag rfl) p Y G
   |u=>exact h.elim
 |block id c E=>
  intro free r rd e a w K Q B F q h p A G;simp only[wf]at B;simp only[ew]at h;refine wpIn_block (E free r rd e a w _ _ B F q h p ?_ λZ a w U=>G Z a w U);intro ex a' w' C;obtain⟨R,M,h1,H,I,O⟩:=C;cases ex with
  |exit i=>
   simp only[Exit.inBlock];simp only at h1;by_cases hi:i=id
   .rw[if_pos hi];rw[hi,Nat.beq_refl]at h1;exact A _ _ _ ⟨rfl,M,h1,H,I,O⟩
   .rw[if_neg hi];have:S1 i id=false:=by
     cases V:S1 i id with
     |true=>exact absurd (Nat.eq_of_beq_eq_true V) hi
     |false=>rfl
    rw[this]at h1;exact A _ _ _ ⟨rfl,M,h1,H,I,O⟩
  |_=>exact A _ _ _ ⟨R,M,h1,H,I,O⟩
 |loop c E=>exact Gi E
 |scope c E=>
  intro free r rd e a w K Q B F q h p A G;exact Gn (E free r rd e a w K (λex a' w'=>k3 ex=true/\Q ex a' w') B F q h p (λex a' w' C=>⟨C.1,A ex a' w' C⟩) λZ a w U=>by cases U.1)
 |rangeFunc f ae af body ad V=>exact Gl ad V
def k4:Nat->List x1->Env
 |_,[]=>[]
 |i,v::r=>(i,.v v)::k4 (i+1) r
def nH(P:W8)(e:Env)(w:x3):List ResultVar->(List x1->Prop)->Prop
 |[],K=>K []
 | .tmp t::r,K=>match look e t with
  |some x=>nH P e w r λvs=>K (x.val::vs)
  |none=>False
 | .cell a t::r,K=>match look e a with
  |some x=>ac P (do loadVar t (<-asAddr x.val)) w λv=>nH P e w r λvs=>K (v::vs)
  |none=>False
def sk:List x1->x1
 |[v]=>v
 |vs=>.tuple vs.toArray
def lZ(P:W8)(a:List ResultVar)(marks:Bool)(n:Nat)(Q:x1->x3->Prop):Exit->Env->x3->Prop
 | .normal,e,w| .ret,e,w=>nH P e w a λvs=>bif marks then vg n w λw'=>Q (sk vs) w' else Q (sk vs) w
 |_,_,_=>False
def mF:List ResultVar->List Nat
 |[]=>[]
 | .tmp t::r=>t::mF r
 | .cell a _::r=>a::mF r
theorem yP:∀(vs:List x1)(i t:Nat)(x:ev),look (k4 i vs) t=σ x->∃j v,t=i+j/\vs[j]?=σ v/\x= .v v
 |[],_,_,_,h=>by cases h
 |v::r,i,t,x,h=>by
  simp only[k4,look]at h;cases a:S1 i t with
  |true=>
   rw[a]at h;simp only[cond_true,Y2]at h;exact⟨0,v,by rw[Nat.eq_of_beq_eq_true a];rfl,rfl,h.symm⟩
  |false=>
   rw[a]at h;obtain⟨j,u,h1,e,f⟩:=yP r (i+1) t x h;exact⟨j+1,u,Ω,by simpa using e,f⟩
theorem vl(vs:List x1)(h:vs.length<=n):S6 n (k4 0 vs) {tmps:=vs.toArray++Array.replicate (n-vs.toArray.size) undef,defers:=[]}:=by
 refine⟨Θ,λt x J=>?_⟩;obtain⟨j,v,h1,a,rfl⟩:=yP vs 0 t x J;have h1:t=j:=Ω
 subst h1;have e:t<vs.length:=(x4.1 a).1;rw[Array.getD_eq_getD_getElem?,Array.getElem?_append_left (by simpa using e)];simp[a,ev.val]
def sm(iE:Array x1):ResultVar->Sem x1
 | .tmp t=>pure (iE.getD t undef)
 | .cell b t=>do loadVar t (<-asAddr (iE.getD b undef))
theorem Gp(fn:Func)(iE:Array x1):results fn iE=(do let vs <-fn.results.mapM (sm iE);pure (if h:vs.size=1 then vs[0]else .tuple vs)):=by
 unfold results;congr 2
theorem vm{e:Env}{a:Act}{w:x3}(p:S6 N e a):∀(q:List ResultVar)(K:List x1->Prop),nH P e w q K->
  ∃vs,K vs/\vs.length=q.length/\∀w',Ext w w'->(q.mapM (sm a.tmps)).run P w'= .ok vs w'
 |[],K,h=>⟨[],h,rfl,λw' _=>by simp[V3]⟩
 | .tmp t::r,K,h=>by
  simp only[nH]at h;cases f:look e t with
  |none=>rw[f]at h;exact h.elim
  |some x=>
   rw[f]at h;obtain⟨vs,h1,s,y⟩:=vm p r _ h;refine⟨x.val::vs,h1,by simp[s],λw' hw=>?_⟩;rw[List.mapM_cons];simp only[sm,W6,V3,W7,y w' hw,p.2 t x f]
 | .cell b t::r,K,h=>by
  simp only[nH]at h;cases f:look e b with
  |none=>rw[f]at h;exact h.elim
  |some x=>
   rw[f]at h;obtain⟨v,ad,h⟩:=h;obtain⟨vs,h1,s,y⟩:=vm p r _ h;refine⟨v::vs,h1,by simp[s],λw' hw=>?_⟩;rw[List.mapM_cons];have:=ad w' hw;rw[<-p.2 b x f]at this;rw[sm,W6,this];simp only[W7,W6,y w' hw,V3]
theorem vn{fn:Func}{e:Env}{a:Act}(p:S6 N e a){K:List x1->Prop}(h:nH P e w fn.results.toList K):
  ∃vs,K vs/\∀w',Ext w w'->(results fn a.tmps).run P w'= .ok (sk vs) w':=by
 obtain⟨vs,h1,q,f⟩:=vm p _ _ h;refine⟨vs,h1,λw' hw=>?_⟩;have f:=f w' hw;rw[Gp,W6,Array.mapM_eq_mapM_toList,map_eq_pure_bind,W6,f];simp only[W7,V3];cases vs with
 |nil=>rfl
 |cons v r=>
  cases r with
  |nil=>rfl
  |cons u r=>simp[sk]
theorem yQ{fn:Func}{tmps:Array x1}{R:Ending->x3->Prop}:∀(a:List Nat)(w:x3),a.Nodup->(∀D∈a,w.heap[D]?=σ (.deferred (σ [])))->
  (∀w',Ext w w'->Ext w' w->w'.os=w.os->jL w w'->w'.output=w.output->w.heap.size=w'.heap.size->
   (∀r,r∉a->w'.heap[r]?=w.heap[r]?)->∃v,(results fn tmps).run P w'= .ok v w'/\R (.returned v) w')->
  LeavesInM Fence.wide 0 P fn tmps R (a.map kt) .returning w
 |[],w,_,_,h=>by
  obtain⟨v,h1,e⟩:=h w (Ext.refl _) (Ext.refl _) rfl .km rfl rfl λ_ _=>rfl;exact⟨v,h1,e⟩
 |D::a,w,f,p,h=>by
  rw[List.nodup_cons]at f;have q:=p D (.head _);refine⟨Ξ,.inl ⟨D,_,rfl,run_takeDeferred q,?_⟩⟩;refine yQ a _ f.2 (λD' s=>?_) λw' h1 e y z A B C=>?_
  .rw[Q0 (λhe=>f.1 (by rw[<-he];exact s))];exact p D' (.tail _ s)
  .refine h w' ((qp q rfl _).trans h1) (e.trans (yJ rfl)) y z A (by simpa using B) λr x=>?_;rw[C r λhm=>x (.tail _ hm),Q0 λhe=>x (by rw[he];exact .head _)]
theorem am.enter(hm:P.follows .mixedOrders=true){f:R7}{fn:Func}{c:Code}(ag:P.funcs[f]?=σ fn)(z:fn.body=σ c)(A:(fn.name == "runtime.NumGoroutine")=false)(M:wf fn.ntmps c=true){args:List x1}(N:Nat.ble args.length fn.ntmps=true){w:x3}{Q:x1->x3->Prop}(h:ew P fn.ntmps (false,w.heap.size) c (mF fn.results.toList) (k4 0 args) w (lZ P fn.results.toList true w.heap.size Q)):am P f args w Q:=by
 refine .code (Enters.of P ag z A) (callsIn_wide (n:=0).1 (callsIn_of_wp_marks ag z trivial ?_));have O:=vl (n:=fn.ntmps) args (Nat.le_of_ble_eq_true N);refine wpIn_mono (Q:=λex a' w'=>k3 ex=true/\bodyPostM Fence.wide 0 P fn (λe w'=>∃v,e= .returned v/\cN w w'/\Q v w') ex a' w') ?_ λ_ _ _ h=>h.2;refine sound hm c (false,w.heap.size) ν _ _ _ w _ _ M (λl R=>by cases R) (λ_=>⟨[],rfl,List.nodup_nil,λD s=>by cases s⟩) h O ?_ (λ_ _ _ h=>by cases h.1)
 .intro ex a' w' S;obtain⟨T,V,p,W,_,_,U⟩:=S;obtain⟨a,⟨x,B,X,s⟩,Y,Z,ab⟩:=U rfl;have C:∀D∈x,w.heap.size<=D:=by
   intro D ac;have h1:kt D∈Y.map kt:=by
    have:kt D∈x.map kt:=j5.2 ⟨D,ac,rfl⟩;rw[<-B,Z]at this;simpa using this
   obtain⟨E,y,ad⟩:=j5.1 h1;have:E=D:=by simpa[kt]using ad
   exact this▸ab E y
  have F:lZ P fn.results.toList true w.heap.size Q .ret V w'->LeavesInM Fence.wide 0 P fn a'.tmps (λe G=>∃v,e= .returned v/\cN w G/\Q v G) a'.defers .returning w':=by
   intro p;rw[B];obtain⟨vs,h1,y⟩:=vn (fn:=fn) W p;refine yQ x w' X s λaa g1 ae H I J K L=>⟨_,y aa g1,_,rfl,?_,h1 aa g1 ⟨ae,H,I,J,Nat.le_of_eq K,λr o A q _=>by rw[L r λhm=>by have:=C r hm;omega];exact q⟩⟩;have a:=a.cw (o4 _);refine⟨H.trans a.os,I.trans a.tape,J.trans a.output,by rw[<-K];exact a.size,λr o q af=>?_⟩;have ah:=(j4.1 q).1;rw[L r λhm=>by have:=C r hm;omega];exact a.aZ r o q af
  cases ex with
  |normal=>exact⟨rfl,F p⟩
  |ret=>exact⟨rfl,F p⟩
  |exit id=>exact p.elim
  |_=>cases T
theorem am.Gq(hm:P.follows .mixedOrders=true){f:R7}{fn:Func}{c:Code}(ag:P.funcs[f]?=σ fn)(p:fn.body=σ c)(s:(fn.name == "runtime.NumGoroutine")=false)(x:wf fn.ntmps c=true){args:List x1}(y:Nat.ble args.length fn.ntmps=true)(aA:kq c=false){w:x3}{Q:x1->x3->Prop}(h:ew P fn.ntmps (false,w.heap.size) c (mF fn.results.toList) (k4 0 args) w (lZ P fn.results.toList false 0 Q)):am P f args w Q:=by
 refine .code (Enters.of P ag p s) (callsIn_wide (n:=0).1 (callsIn_of_wp ag p trivial ?_));have z:=vl (n:=fn.ntmps) args (Nat.le_of_ble_eq_true y);refine wpIn_mono (Q:=λex a' w'=>k3 ex=true/\bodyPost P fn (λe w'=>∃v,e= .returned v/\cN w w'/\Q v w') ex a' w') ?_ λ_ _ _ h=>h.2;refine sound hm c (false,w.heap.size) ν _ _ _ w _ _ x (λl A=>by cases A) (λ_=>⟨[],rfl,List.nodup_nil,λD B=>by cases B⟩) h z ?_ (λ_ _ _ h=>by cases h.1);intro ex a' w' C;obtain⟨E,F,a,G,_,H,U⟩:=C;have I:a'.defers=[]:=H (by simp[jg,aA]);have q:lZ P fn.results.toList false 0 Q .ret F w'->a'.defers=[]/\∃v,(results fn a'.tmps).run P w'= .ok v w'/\∃r,Ending.returned v= .returned r/\cN w w'/\Q r w':=by
  intro a;obtain⟨vs,h1,J⟩:=vn (fn:=fn) G a;exact⟨I,_,J w' (Ext.refl _),_,rfl,(U rfl).1.cw (o4 _),h1⟩
 cases ex with
 |normal=>exact⟨rfl,q a⟩
 |ret=>exact⟨rfl,q a⟩
 |exit id=>exact a.elim
 |_=>cases E
theorem gF.enter(hm:P.follows .mixedOrders=true){f:R7}{fn:Func}{c:Code}(ag:P.funcs[f]?=σ fn)(p:fn.body=σ c)(s:(fn.name == "runtime.NumGoroutine")=false)(x:wf fn.ntmps c=true){args:List x1}(y:Nat.ble args.length fn.ntmps=true){w:x3}{Q:x1->x3->Prop}(h:ew P fn.ntmps (true,0) c (mF fn.results.toList) (k4 0 args) w (lZ P fn.results.toList false 0 Q)):gF P f args w Q:=by
 refine .code (Enters.of P ag p s) (callsIn_wide (n:=0).1 (callsIn_of_wp ag p trivial ?_));have z:=vl (n:=fn.ntmps) args (Nat.le_of_ble_eq_true y);refine wpIn_mono (Q:=λex a' w'=>k3 ex=true/\bodyPost P fn (λe w'=>∃v,e= .returned v/\Q v w') ex a' w') ?_ λ_ _ _ h=>h.2;refine sound hm c (true,0) ν _ _ _ w _ _ x (λl A=>by cases A) (λh=>by cases h) h z ?_ (λ_ _ _ h=>by cases h.1);intro ex a' w' B;obtain⟨C,E,a,F,_,G,U⟩:=B;have H:a'.defers=[]:=G rfl;have q:lZ P fn.results.toList false 0 Q .ret E w'->a'.defers=[]/\∃v,(results fn a'.tmps).run P w'= .ok v w'/\∃r,Ending.returned v= .returned r/\Q r w':=by
  intro a;obtain⟨vs,h1,I⟩:=vn (fn:=fn) F a;exact⟨H,_,I w' (Ext.refl _),_,rfl,h1⟩
 cases ex with
 |normal=>exact⟨rfl,q a⟩
 |ret=>exact⟨rfl,q a⟩
 |exit id=>exact a.elim
 |_=>cases C
end
def qq(l:List S4)(d:Nat):Nat:=
 match l with
 |[]=>d
 | .tmp t::r=>qq r (Nat.lor d (Nat.shiftLeft 1 t))
 |_::r=>qq r d
def oZ:List T7->Nat->Option T7
 |[],_=>ν
 |o::_,0=>σ o
 |_::l,n+1=>oZ l n
def yR(a b:Nat):Nat:=Nat.xor a (Nat.land a b)
def qs(m t:Nat):Bool:=S1 (Nat.land (Nat.shiftRight m t) 1) 1
def ku(m t:Nat):Nat:=Nat.lor m (Nat.shiftLeft 1 t)
def Gr(ops:List T7)(o:T7):Nat:=
 match o.guard with
 |none=>0
 |some (j,_)=>match oZ ops j with
  |some ⟨σ d,_,_,_,_,_⟩=>Nat.shiftLeft 1 d
  |_=>0
def sn:List T7->Nat->Nat
 |[],d=>d
 |⟨σ t,_,_,_,_,_⟩::l,d=>sn l (ku d t)
 |_::l,d=>sn l d
def yS(ops:List T7):List T7->Nat->Nat->Nat
 |[],_,r=>r
 |o::l,d,r=>yS ops l (match o.dst with|some t=>ku d t|none=>d) (Nat.lor r (yR (qq (opsOf o.op) (Gr ops o)) d))
def sq:List Nat->Nat->Nat
 |[],_=>0
 |x::_,0=>x
 |_::l,n+1=>sq l n
def yT(e:Edge):Bool:=
 match e.ground with
 | .textOnly _=>false
 | .gcOnly _=>false
 |_=>true
def yU(bs:List Nat):List Edge->Nat->Nat
 |[],s=>s
 |e::r,s=>yU bs r (bif yT e then Nat.lor (ku s e.on) (sq bs e.on)else s)
def vo:List T7->List Nat->List Nat
 |[],bs=>bs
 |o::l,bs=>vo l (bs++[yU bs o.after.toList 0])
def yV:List T7->Bool
 |[]=>false
 |⟨_,_,_,_,_,σ _⟩::_=>true
 |_::l=>yV l
def vp(bs:List Nat)(j k:Nat):Bool:=!(S1 k j)&&(!(qs (sq bs j) k)&& !(qs (sq bs k) j))
def yW(bs:List Nat)(j:Nat):Nat->List T7->Bool
 |_,[]=>false
 |i,o::l=>bif Nat.ble j i then false else(!(jb o)&&vp bs j i)||yW bs j (Nat.succ i) l
def yX(ops:List T7)(bs:List Nat):Nat->List T7->Bool
 |_,[]=>false
 |j,o::l=>(!(jb o)&&yW bs j 0 ops)||yX ops bs (Nat.succ j) l
def l0:Code->Nat
 | .region _ ops e=>bif (e&&yX ops.toList (vo ops.toList []) 0 ops.toList)||yV ops.toList then 2 else 1
 | .seq a b=>bif S1 (l0 a) 0 then 0 else l0 b
 | .cond _ a b=>Nat.add (l0 a) (l0 b)
 | .block id c=>Nat.add (l0 c) (jN id c)
 | .loop _=>0
 | .scope c=>l0 c
 | .exit _=>0
 | .goto _=>0
 | .ret=>0
 | .refuse _=>0
 |_=>1
def ib:Code->Nat
 | .region _ ops _=>sn ops.toList 0
 | .seq a b=>Nat.lor (ib a) (ib b)
 | .cond _ a b=>Nat.lor (ib a) (ib b)
 | .block _ c=>ib c
 | .loop c=>ib c
 | .scope c=>ib c
 |_=>0
def l1:Code->Nat
 | .region _ ops _=>sn ops.toList 0
 | .seq a b=>Nat.lor (l1 a) (l1 b)
 | .cond _ a b=>bif S1 (l0 a) 0 then l1 b else bif S1 (l0 b) 0 then l1 a else Nat.land (l1 a) (l1 b)
 | .block id c=>bif S1 (jN id c) 0 then l1 c else 0
 | .scope c=>l1 c
 |_=>0
def gn:Code->Nat
 | .region _ ops _=>yS ops.toList ops.toList 0 0
 | .seq a b=>Nat.lor (gn a) (yR (gn b) (l1 a))
 | .cond c a b=>qq [c] (Nat.lor (gn a) (gn b))
 | .block _ c=>gn c
 | .loop c=>gn c
 | .scope c=>gn c
 | .rangeFunc f _ a b=>qq [f] (Nat.lor (gn a) (gn b))
 |_=>0
def mG:Nat->Nat->Nat->List Nat
 |0,_,_=>[]
 |n+1,k,m=>bif S1 m 0 then[]else bif S1 (Nat.land m 1) 1 then k::mG n (Nat.succ k) (Nat.shiftRight m 1)else mG n (Nat.succ k) (Nat.shiftRight m 1)
def qt(e:Env):List Nat->List Nat
 |[]=>[]
 |t::r=>match look e t with
  |some _=>t::qt e r
  |none=>qt e r
structure mH(B S aX:Type) where
 k5:{x:x1}->x1
 tup:List x1->x1
 no:B
 k6:B
 and:B->B->B
 or:B->B->B
 ext:x3->x3->B
 stays:S->x1->x3->B
 split:x1->B->B->B
 vq:S->x3->(x1->B)->B
 yY:S->x3->(x1->x3->B)->B
 yZ:aX->x3->(x3->B)->B
 runN:{fr:Bool}->{n:Nat}->S->x3->(x1->x3->B)->B
 y0:{f:R7}->List x1->x3->(x1->x3->B)->B
 y1:{f:R7}->List x1->x3->(x1->x3->B)->B
 y2:{fr:Bool}->x1->List x1->x3->(x1->x3->B)->B
 drew:x3->(x3->B)->B
 again:{n:Nat}->x3->(x3->B)->B
 over:{n:Nat}->x3->(x3->B)->B
 c5:(x3->B)->((x3->B)->B)->B
 aV:(x1->x3->B)->((x1->x3->B)->B)->B
 jh:(x1->x1->x3->B)->((x1->x1->x3->B)->B)->B
 y3:(x1->x1->x1->x3->B)->((x1->x1->x1->x3->B)->B)->B
 y4:(x1->x1->x1->x1->x3->B)->((x1->x1->x1->x1->x3->B)->B)->B
 y5:(x1->x1->x1->x1->x1->x3->B)->((x1->x1->x1->x1->x1->x3->B)->B)->B
 y6:x3->(x3->(x3->B)->B)->B
 y7:x1->x3->(x1->x3->(x1->x3->B)->B)->B
 y8:x1->x1->x3->(x1->x1->x3->(x1->x1->x3->B)->B)->B
 y9:x1->x1->x1->x3->(x1->x1->x1->x3->(x1->x1->x1->x3->B)->B)->B
 za:x1->x1->x1->x1->x3->(x1->x1->x1->x1->x3->(x1->x1->x1->x1->x3->B)->B)->B
 zb:x1->x1->x1->x1->x1->x3->(x1->x1->x1->x1->x1->x3->(x1->x1->x1->x1->x1->x3->B)->B)->B
 zc:x1->x1->x1->x1->x1->x1->x3->(x1->x1->x1->x1->x1->x1->x3->(x1->x1->x1->x1->x1->x1->x3->B)->B)->B
 zd:x1->x3->(x1->x3->(Exit->x3->B)->B)->(x3->B)->(x3->B)->List (Nat×(x3->B))->B
 ze:x1->x3->(x1->x1->x3->(Exit->x3->B)->B)->(x3->B)->(x3->B)->List (Nat×(x3->B))->B
 loadVar:{t:p8}->x1->S
 alloc:{t:p8}->S
 box:{t:p8}->x1->S
 build:{t:p8}->List (Nat×x1)->S
 buildSlice:{t:p8}->{n:Nat}->List (Nat×x1)->S
 load:{t:p8}->x1->S
 nil:x1->S
 bin:{op:BinOp}->{t:p8}->Bool->Bool->x1->x1->S
 un:{op:UnOp}->x1->S
 conv:{s d:p8}->x1->S
 zf:{t:p8}->x1->S
 zg:{f:Fn}->List x1->List x1->S
 zh:{t:p8}->Option x1->S
 zi:{t:p8}->x1->x1->S
 slice:{t:p8}->x1->Option x1->Option x1->Option x1->S
 zj:{t:p8}->x1->{f:Nat}->S
 field:{t:p8}->x1->{f:Nat}->S
 zk:{t:p8}->x1->x1->S
 index:{t:p8}->x1->x1->S
 lookup:{t:p8}->x1->x1->{ok:Bool}->S
 zl:{t:p8}->x1->x1->S
 range:{t:p8}->x1->S
 entry:x1->S
 assert:{t a:p8}->x1->{ok:Bool}->S
 extract:x1->{i:Nat}->S
 next:x1->{b:Bool}->S
 append:{ats:Array p8}->{t:p8}->List x1->S
 cap:{ats:Array p8}->{t:p8}->List x1->S
 clear:{ats:Array p8}->{t:p8}->List x1->S
 copy:{ats:Array p8}->{t:p8}->List x1->S
 delete:{ats:Array p8}->{t:p8}->List x1->S
 len:{ats:Array p8}->{t:p8}->List x1->S
 max:{ats:Array p8}->{t:p8}->List x1->S
 min:{ats:Array p8}->{t:p8}->List x1->S
 store:{t:p8}->x1->x1->aX
 vr:{t:p8}->x1->x1->x1->aX
 zm:{t:p8}->x1->x1->x1->aX
section
variable{B S aX:Type}(A:mH B S aX)
def ev.g:ev->x1
 | .v x=>x
 | .b c=>.bool c
 | .u=>A.k5 (x:=undef)
def nI(e:Env):S4->ev
 | .tmp t=>match look e t with
  |some x=>x
  |none=>.u
 | .const (.bool c)=>.b c
 | .const x=>.v (A.k5 (x:=x))
 | .global g=>.v (A.k5 (x:=Γ g))
 | .func f=>.v (A.k5 (x:=.func (.func f) #[] #[]))
def c6(e:Env)(x:S4):x1:=(nI A e x).g A
def nJ(e:Env):List S4->List x1
 |[]=>[]
 |x::r=>c6 A e x::nJ e r
def sr(e:Env):Option S4->Option x1
 |none=>ν
 |some x=>σ (c6 A e x)
def vt(e:Env):List (Nat×S4)->List (Nat×x1)
 |[]=>[]
 |(i,x)::r=>(i,c6 A e x)::vt e r
def Gs(b:Z6)(ats:Array p8)(t:p8)(l:List x1)(K:S->B):B:=
 match b with
 | .append=>K (A.append (ats:=ats) (t:=t) l)
 | .cap=>K (A.cap (ats:=ats) (t:=t) l)
 | .clear=>K (A.clear (ats:=ats) (t:=t) l)
 | .copy=>K (A.copy (ats:=ats) (t:=t) l)
 | .delete=>K (A.delete (ats:=ats) (t:=t) l)
 | .len=>K (A.len (ats:=ats) (t:=t) l)
 | .max=>K (A.max (ats:=ats) (t:=t) l)
 | .min=>K (A.min (ats:=ats) (t:=t) l)
 |_=>A.no
def zn(e:Env)(t:p8)(K:S->B)(p:aX->B):Op->B
 | .alloc t=>K (A.alloc (t:=t))
 | .box t x=>K (A.box (t:=t) (c6 A e x))
 | .build t q=>K (A.build (t:=t) (vt A e q.toList))
 | .buildSlice t n q=>K (A.buildSlice (t:=t) (n:=n) (vt A e q.toList))
 | .load t x=>K (A.load (t:=t) (c6 A e x))
 | .nilCheck x=>K (A.nil (c6 A e x))
 | .binOp op t x y _=>K (A.bin (op:=op) (t:=t) (oQ x) (oQ y) (c6 A e x) (c6 A e y))
 | .unOp op _ x=>K (A.un (op:=op) (c6 A e x))
 | .convert s d x=>K (A.conv (s:=s) (d:=d) (c6 A e x))
 | .makeInterface t x=>K (A.zf (t:=t) (c6 A e x))
 | .makeFunc f a b=>K (A.zg (f:=f) (nJ A e a.toList) (nJ A e b.toList))
 | .makeMap t r=>K (A.zh (t:=t) (sr A e r))
 | .makeSlice t l c=>K (A.zi (t:=t) (c6 A e l) (c6 A e c))
 | .slice t x l h m=>K (A.slice (t:=t) (c6 A e x) (sr A e l) (sr A e h) (sr A e m))
 | .fieldAddr t x f=>K (A.zj (t:=t) (c6 A e x) (f:=f))
 | .field t x f=>K (A.field (t:=t) (c6 A e x) (f:=f))
 | .indexAddr t x i=>K (A.zk (t:=t) (c6 A e x) (c6 A e i))
 | .index t x i=>K (A.index (t:=t) (c6 A e x) (c6 A e i))
 | .lookup t x i ok=>K (A.lookup (t:=t) (c6 A e x) (c6 A e i) (ok:=ok))
 | .mapEntry t m k=>K (A.zl (t:=t) (c6 A e m) (c6 A e k))
 | .range t x=>K (A.range (t:=t) (c6 A e x))
 | .entry x=>K (A.entry (c6 A e x))
 | .typeAssert x t a ok=>K (A.assert (t:=t) (a:=a) (c6 A e x) (ok:=ok))
 | .extract x i=>K (A.extract (c6 A e x) (i:=i))
 | .call ⟨.builtin b,args,ats⟩=>Gs A b ats t (nJ A e args.toList) K
 | .store t a x=>p (A.store (t:=t) (c6 A e a) (c6 A e x))
 | .mapUpdate t m k x=>p (A.vr (t:=t) (c6 A e m) (c6 A e k) (c6 A e x))
 | .insert t m k x=>p (A.vr (t:=t) (c6 A e m) (c6 A e k) (c6 A e x))
 | .entryStore t m k x=>p (A.zm (t:=t) (c6 A e m) (c6 A e k) (c6 A e x))
 |_=>A.no
def ho(e:Env)(d:Option Tmp)(x:ev):Env:=
 match d with
 |some t=>(t,x)::e
 |none=>e
def zo(o:T7)(e:Env)(w:x3)(K:Env->(x3->B)->B):B:=
 match o with
 |⟨d,.move x,_,_,_,_⟩=>K (ho e d (nI A e x)) (λ_=>A.k6)
 |⟨d,.assign x,_,_,_,_⟩=>K (ho e d (nI A e x)) (λ_=>A.k6)
 |⟨d,.pick c a b,_,_,_,_⟩=>
  match nI A e c with
  | .b true=>K (ho e d (nI A e a)) (λ_=>A.k6)
  | .b false=>K (ho e d (nI A e b)) (λ_=>A.k6)
  | .v x=>A.split x (K (ho e d (.v (c6 A e a))) (λ_=>A.k6)) (K (ho e d (.v (c6 A e b))) (λ_=>A.k6))
  | .u=>A.no
 |⟨d,op,t,_,_,_⟩=>zn A e t (λs=>A.vq s w λv=>K (ho e d (.v v)) (A.stays s v)) (λ_=>A.no) op
def Gt(fr:Bool)(n:Nat)(o:T7)(e:Env)(w:x3)(K:Env->x3->B):B:=
 match o with
 |⟨d,.call ⟨.value (.func f),args,_⟩,_,_,_,_⟩=>
  bif fr then A.y1 (f:=f) (nJ A e args.toList) w λv w'=>K (ho e d (.v v)) w'
  else A.y0 (f:=f) (nJ A e args.toList) w λv w'=>K (ho e d (.v v)) w'
 |⟨d,.call ⟨.value x,args,_⟩,_,_,_,_⟩=>A.y2 (fr:=fr) (c6 A e x) (nJ A e args.toList) w λv w'=>K (ho e d (.v v)) w'
 |⟨d,.next x b,_,_,_,_⟩=>A.runN (fr:=fr) (n:=n) (A.next (c6 A e x) (b:=b)) w λv w'=>K (ho e d (.v v)) w'
 |⟨d,op,t,_,_,_⟩=>zn A e t (λs=>A.yY s w λv w'=>K (ho e d (.v v)) w') (λu=>A.yZ u w λw'=>K (ho e d (.v (A.k5 (x:=undef)))) w') op
def zp(fr:Bool)(n:Nat)(o:T7)(e:Env)(w:x3)(K:Env->x3->B):B:=
 bif jb o then zo A o e w (λa _=>K a w)else Gt A fr n o e w K
def vu(ops:List T7)(o:T7)(e:Env)(D N:Env->B):B:=
 match o.guard with
 |none=>D e
 |some (j,b)=>
  match oZ ops j with
  |some ⟨σ s,_,_,_,_,_⟩=>
   match look e s with
   |some (.b c)=>bif xor c b then N e else D e
   |some (.v x)=>A.split x (bif b then D ((s,.b true)::e)else N ((s,.b true)::e)) (bif b then N ((s,.b false)::e)else D ((s,.b false)::e))
   |some .u=>N e
   |none=>A.no
  |_=>A.no
def vv(fr:Bool)(n:Nat)(ops:List T7):List T7->Env->x3->(Env->x3->B)->B
 |[],e,w,K=>K e w
 |o::l,e,w,K=>vu A ops o e (λe=>zp A fr n o e w λa w'=>vv fr n ops l a w' K) (λe=>vv fr n ops l (ho e o.dst .u) w K)
def zq:List Edge->Nat->Bool
 |[],_=>true
 |e::r,a=>(bif yT e then qs a e.on else true)&&zq r a
def ss(a:Nat):Nat->List T7->List Nat
 |_,[]=>[]
 |i,o::l=>bif qs a i then ss a (Nat.succ i) l else bif zq o.after.toList a then i::ss a (Nat.succ i) l else ss a (Nat.succ i) l
def zr(ops:List T7):List Nat->Option Nat
 |[]=>ν
 |i::r=>match oZ ops i with
  |some o=>bif jb o then σ i else zr ops r
  |none=>ν
def zs(p:Nat->B):List Nat->B
 |[]=>A.k6
 |[i]=>p i
 |i::r=>A.and (p i) (zs p r)
def zt(same:Bool)(q:Nat)(w:x3)(st:x3->B)(a:List (x3×List (Nat×(x3->B)))):List (x3×List (Nat×(x3->B))):=
 match same,a with
 |true,g::r=>(g.1,(q,st)::g.2)::r
 |_,a=>(w,[(q,st)])::a
def zu(bs:List Nat)(j:Nat):List (Nat×(x3->B))->Bool
 |[]=>false
 |(i,_)::r=>vp bs j i||zu bs j r
def vw(bs:List Nat)(j:Nat)(w':x3):List (Nat×(x3->B))->B
 |[]=>A.k6
 |(i,p)::r=>bif vp bs j i then A.and (p w') (vw bs j w' r)else vw bs j w' r
def su(bs:List Nat)(j:Nat)(w':x3)(C:B):List (x3×List (Nat×(x3->B)))->B
 |[]=>C
 |(w,l)::r=>bif zu bs j l then A.and (A.or (A.ext w w') (vw A bs j w' l)) (su bs j w' C r)else su bs j w' C r
def nK(fr:Bool)(n:Nat)(ops:List T7)(bs:List Nat):Nat->Nat->Bool->List (x3×List (Nat×(x3->B)))->Env->x3->(Env->x3->B)->B
 |0,_,_,_,e,w,K=>K e w
 |fuel+1,f,same,a,e,w,K=>
  match ss f 0 ops with
  |[]=>K e w
  |i::r=>
   match zr ops (i::r)with
   |some q=>
    match oZ ops q with
    |some o=>vu A ops o e
      (λe=>zo A o e w λh st=>
       bif lU o then nK fr n ops bs fuel (ku f q) same a h w K
       else nK fr n ops bs fuel (ku f q) true (zt same q w st a) h w K)
      (λe=>bif lU o then nK fr n ops bs fuel (ku f q) same a (ho e o.dst .u) w K
       else nK fr n ops bs fuel (ku f q) true (zt same q w (λ_=>A.k6) a) (ho e o.dst .u) w K)
    |none=>A.no
   |none=>
    zs A (λj=>match oZ ops j with
     |some o=>vu A ops o e (λe=>zp A fr n o e w λh w'=>su A bs j w' (nK fr n ops bs fuel (ku f j) false a h w' K) a)
       (λe=>su A bs j w (nK fr n ops bs fuel (ku f j) false a (ho e o.dst .u) w K) a)
     |none=>A.no) (i::r)
def sw(e:Env):List Nat->List x1
 |[]=>[]
 |t::r=>(match look e t with|some x=>x.g A|none=>A.k5 (x:=undef))::sw e r
def vx(l:List Nat)(vs:List x1)(e:Env):Env:=
 match l,vs with
 |t::r,v::vs=>(t,.v v)::vx r vs e
 |_,_=>e
def sx(d:Nat):Env->Env
 |[]=>[]
 |(t,x)::r=>bif qs d t then sx d r else(t,x)::sx d r
def Gu(l:List Nat)(aB:List x1->x3->B)(e:(List x1->x3->B)->B):B:=
 match l with
 |[]=>A.c5 (λw=>aB [] w) λk=>e λ_ w=>k w
 |[_]=>A.aV (λa w=>aB [a] w) λk=>e λvs w=>match vs with
  |[a]=>k a w
  |_=>A.no
 |[_,_]=>A.jh (λa b w=>aB [a,b] w) λk=>e λvs w=>match vs with
  |[a,b]=>k a b w
  |_=>A.no
 |[_,_,_]=>A.y3 (λa b c w=>aB [a,b,c] w) λk=>e λvs w=>match vs with
  |[a,b,c]=>k a b c w
  |_=>A.no
 |[_,_,_,_]=>A.y4 (λa b c d w=>aB [a,b,c,d] w) λk=>e λvs w=>match vs with
  |[a,b,c,d]=>k a b c d w
  |_=>A.no
 |[_,_,_,_,_]=>A.y5 (λa b c d f w=>aB [a,b,c,d,f] w) λk=>e λvs w=>match vs with
  |[a,b,c,d,f]=>k a b c d f w
  |_=>A.no
 |_=>A.no
def Gv(us:List x1)(w:x3)(e:List x1->x3->(List x1->x3->B)->B):B:=
 match us with
 |[]=>A.y6 w λw k=>e [] w λ_ w=>k w
 |[a]=>A.y7 a w λa w k=>e [a] w λvs w=>match vs with
  |[a]=>k a w
  |_=>A.no
 |[a,b]=>A.y8 a b w λa b w k=>e [a,b] w λvs w=>match vs with
  |[a,b]=>k a b w
  |_=>A.no
 |[a,b,c]=>A.y9 a b c w λa b c w k=>e [a,b,c] w λvs w=>match vs with
  |[a,b,c]=>k a b c w
  |_=>A.no
 |[a,b,c,d]=>A.za a b c d w λa b c d w k=>e [a,b,c,d] w λvs w=>match vs with
  |[a,b,c,d]=>k a b c d w
  |_=>A.no
 |[a,b,c,d,f]=>A.zb a b c d f w λa b c d f w k=>e [a,b,c,d,f] w λvs w=>match vs with
  |[a,b,c,d,f]=>k a b c d f w
  |_=>A.no
 |[a,b,c,d,f,g]=>A.zc a b c d f g w λa b c d f g w k=>e [a,b,c,d,f,g] w λvs w=>match vs with
  |[a,b,c,d,f,g]=>k a b c d f g w
  |_=>A.no
 |_=>A.no
def vy(K:Nat->x3->B):List Nat->List (Nat×(x3->B))
 |[]=>[]
 |i::r=>(i,λw=>K i w)::vy K r
def hQ(fr:Bool)(n:Nat):Code->Nat->Env->x3->(Exit->Env->x3->B)->B
 | .skip,_,e,w,K=>K .normal e w
 | .label _,_,e,w,K=>K .normal e w
 | .ret,_,e,w,K=>K .ret e w
 | .exit i,_,e,w,K=>K (.exit i) e w
 | .region _ ops E,_,e,w,K=>
  bif E then A.drew w λw'=>nK A fr n ops.toList (vo ops.toList []) (ops.toList.length) 0 false [] e w' (K .normal)
  else vv A fr n ops.toList ops.toList e w (K .normal)
 | .seq x y,rd,e,w,K=>
  bif Nat.ble 2 (l0 x)then
   Gu A (mG 1000 0 (Nat.land (ib x) (Nat.lor (gn y) rd))) (λvs w'=>hQ fr n y rd (vx (mG 1000 0 (Nat.land (ib x) (Nat.lor (gn y) rd))) vs (sx (ib x) e)) w' K)
    λaB=>hQ fr n x (Nat.lor (gn y) rd) e w λex h w'=>match ex with
     | .normal=>aB (sw A h (mG 1000 0 (Nat.land (ib x) (Nat.lor (gn y) rd)))) w'
     |ex=>K ex h w'
  else hQ fr n x (Nat.lor (gn y) rd) e w λex h w'=>match ex with
   | .normal=>hQ fr n y rd h w' K
   |ex=>K ex h w'
 | .cond c x y,rd,e,w,K=>
  match nI A e c with
  | .b true=>hQ fr n x rd e w K
  | .b false=>hQ fr n y rd e w K
  | .v v=>A.split v (hQ fr n x rd e w K) (hQ fr n y rd e w K)
  | .u=>A.no
 | .block id c,rd,e,w,K=>hQ fr n c rd e w λex h w'=>match ex with
  | .exit i=>bif S1 i id then K .normal h w' else K (.exit i) h w'
  |ex=>K ex h w'
 | .loop c,rd,e,w,K=>
  Gv A (sw A e (qt e (mG 1000 0 (Nat.land (ib c) (Nat.lor (gn c) rd))))) w λus w' k=>
   hQ fr n c (Nat.lor (gn c) rd) (vx (qt e (mG 1000 0 (Nat.land (ib c) (Nat.lor (gn c) rd)))) us (sx (ib c) e)) w' λex h r=>match ex with
    | .normal=>k (sw A h (qt e (mG 1000 0 (Nat.land (ib c) (Nat.lor (gn c) rd))))) r
    |ex=>K ex h r
 | .scope c,rd,e,w,K=>hQ fr n c rd e w K
 | .rangeFunc f F C body,_,e,w,K=>
  match F.toList with
  |[p]=>A.zd (c6 A e f) w
    (λa w' k=>hQ fr n C (gn body) ((p,.v a)::e) w' λex h r=>match ex with
     | .normal=>A.over (n:=w.heap.size) r λs=>hQ fr n body 0 h s λex _ z=>k ex z
     |_=>A.no)
    (λw'=>K .normal e w') (bif je body then λw'=>K .ret e w' else λ_=>A.no) (vy (λi w'=>K (.exit i) e w') (jO body))
  |[p,q]=>A.ze (c6 A e f) w
    (λa b w' k=>hQ fr n C (gn body) ((q,.v b)::(p,.v a)::e) w' λex h r=>match ex with
     | .normal=>A.over (n:=w.heap.size) r λs=>hQ fr n body 0 h s λex _ z=>k ex z
     |_=>A.no)
    (λw'=>K .normal e w') (bif je body then λw'=>K .ret e w' else λ_=>A.no) (vy (λi w'=>K (.exit i) e w') (jO body))
  |_=>A.no
 | .goto _,_,_,_,_=>A.no
 | .refuse _,_,_,_,_=>A.no
def zv:Nat->List x1->Env
 |_,[]=>[]
 |i,v::r=>(i,.v (A.k5 (x:=v)))::zv (i+1) r
def sy(e:Env)(w:x3):List ResultVar->(List x1->B)->B
 |[],K=>K []
 | .tmp t::r,K=>sy e w r λvs=>K ((match look e t with|some x=>x.g A|none=>A.k5 (x:=undef))::vs)
 | .cell a t::r,K=>A.vq (A.loadVar (t:=t) (match look e a with|some x=>x.g A|none=>A.k5 (x:=undef))) w λv=>sy e w r λvs=>K (v::vs)
def sz(vs:List x1)(K:x1->B):B:=
 match vs with
 |[v]=>K v
 |vs=>K (A.tup vs)
def vz:List ResultVar->Nat->Nat
 |[],s=>s
 | .tmp t::r,s=>vz r (ku s t)
 | .cell a _::r,s=>vz r (ku s a)
def Gw(a:List ResultVar)(marks:Bool)(n:Nat)(Q:x1->x3->B):Exit->Env->x3->B
 | .normal,e,w=>sy A e w a λvs=>bif marks then A.again (n:=n) w λw'=>sz A vs λv=>Q v w' else sz A vs λv=>Q v w
 | .ret,e,w=>sy A e w a λvs=>bif marks then A.again (n:=n) w λw'=>sz A vs λv=>Q v w' else sz A vs λv=>Q v w
 |_,_,_=>A.no
def vA(fr marks:Bool)(fn:Func)(c:Code)(args:List x1)(w:x3)(Q:x1->x3->B):B:=
 hQ A fr n c (vz fn.results.toList 0) (zv A 0 args) w (Gw A fn.results.toList marks n Q)
end
def o0(P:W8):mH Prop (Sem x1) (Sem Unit) where
 k5 {x}:=x
 tup l:=.tuple l.toArray
 no:=False
 k6:=True
 and:=And
 or:=Or
 ext:=Ext
 stays:=cD P
 split:=Split
 vq:=ac P
 yY:=aD P
 yZ u w K:=aD P u w λ_ w'=>K w'
 runN {fr n}:=r0 P (fr,n)
 y0 {f}:=am P f
 y1 {f}:=gF P f
 y2 {fr}:=r3 P fr
 drew:=er
 again {n}:=vg n
 over {n}:=Over n
 c5:=cz
 aV:=cz
 jh:=cz
 y3:=cz
 y4:=cz
 y5:=cz
 y6:=F9
 y7:=ce
 y8:=b5
 y9:=nE
 za:=se
 zb:=ql
 zc:=Ga
 zd:=jf P
 ze:=nG P
 loadVar {t} x:=do loadVar t (<-asAddr x)
 alloc {t}:=Instr.alloc t true (.tuple #[])
 box {t} x:=Instr.box t x
 build {t} l:=Instr.build t l.toArray
 buildSlice {t n} l:=Y3 t n l.toArray
 load {t} x:=u5 t x
 nil x:=bP x
 bin {op t} a b x y:=aN op t a b x y
 un {op} x:=Op.unary op x
 conv {s d} x:=convert s d x
 zf {t} x:=Instr.makeInterface t x
 zg {f} a b:=Instr.makeFunc f a.toArray b.toArray
 zh {t} x:=Instr.makeMap t x
 zi {t} l c:=Instr.makeSlice t l c
 slice {t} x l h m:=U3 t x l h m
 zj {t} x {f}:=u6 t x f
 field {t} x {f}:=Instr.field t x f
 zk {t} x i:=c9 t x i
 index {t} x i:=Instr.index t x i
 lookup {t} x i {ok}:=Instr.lookup t x i ok
 zl {t} m k:=Instr.mapEntry t m k
 range {t} x:=Instr.range t x
 entry x:=Instr.entry x
 assert {t a} x {ok}:=Instr.typeAssert x t a ok
 extract x {i}:=Y1 x i
 next x {b}:=Instr.next x b 0
 append {ats t} l:=Z2 ats t l.toArray
 cap {ats t} l:=Z6.cap_ ats t l.toArray
 clear {ats t} l:=Z6.clear_ ats t l.toArray
 copy {ats t} l:=Z6.copy_ ats t l.toArray
 delete {ats t} l:=Z6.delete_ ats t l.toArray
 len {ats t} l:=V2 ats t l.toArray
 max {ats t} l:=Z6.max_ ats t l.toArray
 min {ats t} l:=Z6.min_ ats t l.toArray
 store {t} a x:=o9 t a x
 vr {t} m k x:=Instr.mapUpdate t m k x
 zm {t} m k x:=Instr.entryStore t m k x
end Go.Vc
namespace Go.Proofs.YtikkpokkcdocoabGreatDoor
open Go Go.Vc Go.RowKit Go.Proofs Go.Proofs.Tryz
set_option maxRecDepth 100000
theorem mixed:x7.follows .mixedOrders=true:=Ψ
def zw:Nat:=6
def Gx:Nat:=7
def Gy:Nat:=8
def Gz:Nat:=9
def GA:Nat:=14
def zx:Nat:=15
def GB:Nat:=16
def zy:Nat:=17
def GC:Nat:=18
def GD:Nat:=19
def vB:Nat:=20
def GF:Nat:=21
def GG:Nat:=22
def GH:Nat:=23
def GI:Nat:=24
def GJ:Nat:=25
def GK:Nat:=26
def zz:Nat:=27
def zA:Nat:=28
def GL:Nat:=29
def GM:Nat:=32
def GN:Nat:=40
def GO:Nat:=41
def GP:Nat:=42
def zB:Nat:=43
def GQ:Nat:=44
def GR:Nat:=45
def GS:Nat:=46
def zC:Nat:=47
def GU:Nat:=48
def GV:Nat:=49
def GW:Nat:=50
def zD:Nat:=51
def GX:Nat:=52
def vC:Nat:=53
def GY:Nat:=54
def GZ:Nat:=55
def G0:Nat:=56
def G1:Nat:=57
def zE:Nat:=58
def G2:Nat:=59
def G3:Nat:=60
def G4:Nat:=61
def G5:Nat:=62
def Sc:Nat:=63
def vD:Nat:=64
def G6:Nat:=65
def G7:Nat:=66
def G8:Nat:=67
def G9:Nat:=68
def Ha:Nat:=69
def Hb:Nat:=70
def Hc:Nat:=71
def zF:Nat:=72
def Hd:Nat:=73
def He:Nat:=74
def Hf:Nat:=75
def qu:Nat:=76
def Hg:Nat:=77
def Hh:Nat:=78
def Hi:Nat:=79
def Hj:Nat:=81
def cmp_isNaN_int:Nat:=82
def zG:Nat:=83
def Hk:Nat:=84
def Hl:Nat:=86
def Hm:Nat:=87
def Hn:Nat:=88
def Ho:Nat:=89
def Hp:Nat:=90
def Hq:Nat:=91
def Hr:Nat:=92
def Hs:Nat:=93
def Ht:Nat:=94
def ic:Nat:=95
def Hu:Nat:=96
def Hv:Nat:=97
def Hw:Nat:=98
def k7:Nat:=99
def Hx:Nat:=100
def Hy:Nat:=101
def Hz:Nat:=102
def HA:Nat:=103
def zH:Nat:=104
def zI:Nat:=105
def qv:Nat:=106
def nL:Nat:=107
def k8:Nat:=108
def zJ:Nat:=109
def vE:Nat:=110
def nM:Nat:=111
def zK:Nat:=112
def vF:Nat:=113
def HB:Nat:=114
def HC:Nat:=115
def sA:Nat:=116
def l2:Nat:=117
def zL:Nat:=118
def nN:Nat:=119
def HD:Nat:=120
def HE:Nat:=121
def HF:Nat:=122
def HG:Nat:=123
def zM:Nat:=124
def HH:Nat:=125
def HI:Nat:=126
def zN:Nat:=127
def zO:Nat:=128
def HJ:Nat:=129
def HK:Nat:=130
def HL:Nat:=131
def HM:Nat:=132
def vG:Nat:=133
def HN:Nat:=134
def HO:Nat:=135
def HP:Nat:=136
def HQ:Nat:=137
def HR:Nat:=138
def HS:Nat:=139
def HT:Nat:=140
def HU:Nat:=141
def nO:Nat:=142
def nP:Nat:=143
def HV:Nat:=144
def HW:Nat:=145
def HX:Nat:=146
def HY:Nat:=147
def HZ:Nat:=148
def H0:Nat:=149
def H1:Nat:=150
def H2:Nat:=151
def H3:Nat:=152
def H4:Nat:=153
def H5:Nat:=154
def Sd:Nat:=155
def H6:Nat:=156
def H7:Nat:=157
def H8:Nat:=158
def zP:Nat:=159
def H9:Nat:=160
def Ia:Nat:=161
def Se:Nat:=162
def Ib:Nat:=172
def Ic:Nat:=173
def Ie:Nat:=174
def If:Nat:=175
def Ig:Nat:=176
def Ih:Nat:=177
def Ii:Nat:=178
def Ij:Nat:=179
def Ik:Nat:=180
def zQ:Nat:=181
def Il:Nat:=182
def Im:Nat:=183
def In:Nat:=184
def Io:Nat:=185
def Ip:Nat:=186
def o1:Nat:=187
def Iq:Nat:=188
def Ir:Nat:=189
def sB:Nat:=190
def Is:Nat:=191
def It:Nat:=192
def zR:Nat:=193
def zS:Nat:=194
def zT:Nat:=195
def Iu:Nat:=196
def qw:Nat:=197
def Iv:Nat:=198
def vH:Nat:=199
def Iw:Nat:=200
def Ix:Nat:=201
def zU:Nat:=202
def Iy:Nat:=203
def Iz:Nat:=204
def IA:Nat:=205
def IB:Nat:=206
def IC:Nat:=207
def zV:Nat:=208
def ID:Nat:=209
def IE:Nat:=210
def IF:Nat:=211
def IG:Nat:=212
def zW:Nat:=213
def IH:Nat:=214
def II:Nat:=215
def IJ:Nat:=216
def IK:Nat:=217
def zX:Nat:=218
def IL:Nat:=219
def IM:Nat:=220
def IN:Nat:=221
def IP:Nat:=222
def IQ:Nat:=223
def sC:Nat:=224
def IR:Nat:=225
def IS:Nat:=226
def IT:Nat:=232
def vI:Nat:=233
def sD:Nat:=234
def vJ:Nat:=235
def IU:Nat:=236
def vK:Nat:=237
def IV:Nat:=238
def IW:Nat:=239
def vL:Nat:=240
def IX:Nat:=241
def IY:Nat:=242
def zY:Nat:=243
def zZ:Nat:=244
def IZ:Nat:=245
def I0:Nat:=246
def I1:Nat:=247
def I2:Nat:=248
def I3:Nat:=249
def I4:Nat:=250
def I5:Nat:=251
def Sf:Nat:=252
def z1:Nat:=254
def vM:Nat:=255
def sE:Nat:=256
def I6:Nat:=257
def I7:Nat:=258
def z6:Nat:=259
def I8:Nat:=260
def I9:Nat:=261
def Ja:Nat:=262
def Jb:Nat:=263
def Jc:Nat:=264
def Jd:Nat:=265
def Je:Nat:=266
def l3:Nat:=267
def l4:Nat:=268
def z7:Nat:=269
def Jf:Nat:=271
def Sg:Nat:=272
def Jg:Nat:=273
def Sh:Nat:=274
def Jh:Nat:=275
def Ji:Nat:=276
def o2:Nat:=277
def Jj:Nat:=278
def Jk:Nat:=279
def Jl:Nat:=280
def Jm:Nat:=289
def sF:Nat:=290
def Jn:Nat:=291
def Jo:Nat:=292
def Jp:Nat:=293
def Jq:Nat:=294
def l5:Nat:=295
def Jr:Nat:=296
def Js:Nat:=297
def Jt:Nat:=298
def Si:Nat:=299
def Sj:Nat:=304
def Ju:Nat:=305
def Jv:Nat:=306
def Jw:Nat:=308
def Jx:Nat:=309
def Jy:Nat:=310
def Sk:Nat:=311
def Jz:Nat:=312
def Sl:Nat:=313
def Sm:Nat:=314
def Sn:Nat:=315
def Sp:Nat:=316
def Sq:Nat:=317
def cmp_Less_int:Nat:=318
def Sr:Nat:=319
def Ss:Nat:=320
def St:Nat:=330
def Su:Nat:=331
abbrev JA:Nat:=0
abbrev z8:Nat:=1
abbrev ao:Nat:=2
abbrev ah:Nat:=3
abbrev eh:Nat:=4
abbrev cK:Nat:=5
abbrev cS:Nat:=9
abbrev cP:Nat:=22
abbrev nQ:Nat:=23
abbrev cI:Nat:=25
abbrev an:Nat:=26
abbrev dx:Nat:=27
abbrev kv:Nat:=28
abbrev eE:Nat:=29
abbrev fI:Nat:=30
abbrev ba:Nat:=33
abbrev dy:Nat:=36
abbrev jP:Nat:=37
abbrev bS:Nat:=43
abbrev ay:Nat:=50
abbrev bb:Nat:=54
abbrev eO:Nat:=56
abbrev da:Nat:=61
abbrev mI:Nat:=83
abbrev qx:Nat:=84
abbrev fa:Nat:=85
abbrev sG:Nat:=86
abbrev cq:Nat:=88
abbrev o3:Nat:=89
abbrev fJ:Nat:=93
abbrev b1:Nat:=95
abbrev pa:Nat:=100
abbrev bz:Nat:=102
abbrev dC:Nat:=104
abbrev gp:Nat:=111
abbrev vN:Nat:=113
abbrev vO:Nat:=116
abbrev cW:Nat:=123
abbrev dD:Nat:=125
abbrev mJ:Nat:=133
abbrev pb:Nat:=144
abbrev eF:Nat:=150
abbrev ie:Nat:=151
abbrev nR:Nat:=152
abbrev sH:Nat:=153
abbrev fK:Nat:=155
abbrev sI:Nat:=165
abbrev e1:Nat:=168
abbrev hp:Nat:=169
abbrev ch:Nat:=171
abbrev ji:Nat:=176
abbrev iF:Nat:=177
abbrev b2:Nat:=179
abbrev dH:Nat:=185
abbrev cE:Nat:=187
abbrev eP:Nat:=188
abbrev cF:Nat:=190
abbrev fl:Nat:=192
abbrev dz:Nat:=196
abbrev bA:Nat:=198
abbrev dE:Nat:=200
abbrev cr:Nat:=202
abbrev dW:Nat:=206
abbrev a7:Nat:=208
abbrev k9:Nat:=213
abbrev fL:Nat:=215
abbrev eQ:Nat:=216
abbrev hq:Nat:=220
abbrev JB:Nat:=237
abbrev qy:Nat:=239
abbrev Sv:Nat:=250
abbrev pc:Nat:=258
abbrev hR:Nat:=263
abbrev jQ:Nat:=269
abbrev dX:Nat:=274
abbrev ca:Nat:=278
abbrev gq:Nat:=280
abbrev cX:Nat:=285
abbrev iG:Nat:=296
abbrev fM:Nat:=298
abbrev pd:Nat:=299
abbrev gu:Nat:=302
abbrev cY:Nat:=305
abbrev gv:Nat:=307
abbrev la:Nat:=309
abbrev sJ:Nat:=329
abbrev gU:Nat:=331
abbrev fZ:Nat:=334
abbrev cG:Nat:=336
abbrev Aa:Nat:=345
abbrev lb:Nat:=358
abbrev jj:Nat:=360
abbrev l6:Nat:=380
abbrev mK:Nat:=397
abbrev sK:Nat:=414
theorem az{f:R7}{fn:Func}{c:Code}{Q:x1->x3->Prop}{Z:{B S aX:Type}->mH B S aX->(x1->x3->B)->B}{a:Prop}(ag:x7.funcs[f]?=σ fn)(h:a)(p:fn.body=σ c:=by rfl)(_:∀{B S aX:Type}(A:mH B S aX)(Q:x1->x3->B),vA A false false (n:=w.heap.size) fn c args w Q=Z A Q:=by intros;conv=>lhs;reduce)(_:Z (o0 x7) Q=a:=by dsimp only[o0])(e:a=ew x7 fn.ntmps (false,w.heap.size) c (mF fn.results.toList) (k4 0 args) w (lZ x7 fn.results.toList false 0 Q):=by kernel_rfl)(hk:(!(fn.name == "runtime.NumGoroutine")&&wf fn.ntmps c&&Nat.ble args.length fn.ntmps&& !kq c)=true:=by kernel_rfl):am x7 f args w Q:=by
 simp only[U1,Bool.not_eq_true']at hk;exact am.Gq mixed ag p hk.1.1.1 hk.1.1.2 hk.1.2 hk.2 (e▸h)
theorem gV{f:R7}{fn:Func}{c:Code}{Q:x1->x3->Prop}{Z:{B S aX:Type}->mH B S aX->(x1->x3->B)->B}{a:Prop}(ag:x7.funcs[f]?=σ fn)(h:a)(p:fn.body=σ c:=by rfl)(_:∀{B S aX:Type}(A:mH B S aX)(Q:x1->x3->B),vA A false true (n:=w.heap.size) fn c args w Q=Z A Q:=by intros;conv=>lhs;reduce)(_:Z (o0 x7) Q=a:=by dsimp only[o0])(e:a=ew x7 fn.ntmps (false,w.heap.size) c (mF fn.results.toList) (k4 0 args) w (lZ x7 fn.results.toList true w.heap.size Q):=by kernel_rfl)(hk:(!(fn.name == "runtime.NumGoroutine")&&wf fn.ntmps c&&Nat.ble args.length fn.ntmps)=true:=by kernel_rfl):am x7 f args w Q:=by
 simp only[U1,Bool.not_eq_true']at hk;exact am.enter mixed ag p hk.1.1 hk.1.2 hk.2 (e▸h)
theorem qz{f:R7}{fn:Func}{c:Code}{Q:x1->x3->Prop}{Z:{B S aX:Type}->mH B S aX->(x1->x3->B)->B}{a:Prop}(ag:x7.funcs[f]?=σ fn)(h:a)(p:fn.body=σ c:=by rfl)(_:∀{B S aX:Type}(A:mH B S aX)(Q:x1->x3->B),vA A true false (n:=0) fn c args w Q=Z A Q:=by intros;conv=>lhs;reduce)(_:Z (o0 x7) Q=a:=by dsimp only[o0])(e:a=ew x7 fn.ntmps (true,0) c (mF fn.results.toList) (k4 0 args) w (lZ x7 fn.results.toList false 0 Q):=by kernel_rfl)(hk:(!(fn.name == "runtime.NumGoroutine")&&wf fn.ntmps c&&Nat.ble args.length fn.ntmps)=true:=by kernel_rfl):gF x7 f args w Q:=by
 simp only[U1,Bool.not_eq_true']at hk;exact gF.enter mixed ag p hk.1.1 hk.1.2 hk.2 (e▸h)
theorem ic.enters:Enters x7 ic:=Enters.of x7 (show x7.funcs[ic]?=σ Tryz.f95 from Tryz.func95) rfl Ψ
theorem k7.enters:Enters x7 k7:=Enters.of x7 (show x7.funcs[k7]?=σ Tryz.f99 from Tryz.func99) rfl Ψ
theorem l3.enters:Enters x7 l3:=Enters.of x7 (show x7.funcs[l3]?=σ Tryz.f267 from Tryz.func267) rfl Ψ
theorem o2.enters:Enters x7 o2:=Enters.of x7 (show x7.funcs[o2]?=σ Tryz.f277 from Tryz.func277) rfl Ψ
theorem l5.enters:Enters x7 l5:=Enters.of x7 (show x7.funcs[l5]?=σ Tryz.f295 from Tryz.func295) rfl Ψ
end Go.Proofs.YtikkpokkcdocoabGreatDoor
namespace Go.Vc
open Go Go.RowKit
theorem vP{b o:Nat}(h:w.cell? ⟨b,o,ν⟩=σ v):∃c e f,w.heap[b]?=σ (.cells c e f)/\c[o]?=σ v:=by
 simp only[x3.cell?]at h;split at h
 .rename_i c e f a;exact⟨c,e,f,a,by simpa using h⟩
 .cases h
theorem Ab(J:ai S w w'){b o:Nat}(a:¬S b)(h:w.cell? ⟨b,o,ν⟩=σ v):w'.cell? ⟨b,o,ν⟩=σ v:=by
 obtain⟨c,e,f,p,ad⟩:=vP h;simp[x3.cell?,J.aZ b _ p rfl a,ad]
theorem iH(J:Ext w w'){b o:Nat}(h:w.cell? ⟨b,o,ν⟩=σ v):w'.cell? ⟨b,o,ν⟩=σ v:=
 Ab (J.ab λ_=>False) (λh=>h) h
theorem nS(J:Ext w w'){b o:Nat}(h:w.rangeAt b o cs):w'.rangeAt b o cs:=λj v ad=>iH J (h j v ad)
theorem iI(J:ai S w w'){b o:Nat}(a:¬S b)(h:w.rangeAt b o cs):w'.rangeAt b o cs:=λj v ad=>Ab J a (h j v ad)
def af(w:x3)(g:Nat)(e:p8)(cs:List x1):Prop:=w.heap[g]?=σ (.cells cs.toArray e (0,0))
theorem af.ext{g:Nat}(h:af w g e cs)(J:Ext w w'):af w' g e cs:=J.aZ g _ h rfl
theorem af.ab{g:Nat}(h:af w g e cs)(J:ai S w w')(a:¬S g):af w' g e cs:=J.aZ g _ h rfl a
theorem af.lt{g:Nat}(h:af w g e cs):g<w.heap.size:=(j4.1 h).1
theorem af.cell{g:Nat}(h:af w g e cs){o:Nat}(ad:cs[o]?=σ v):w.cell? ⟨g,o,ν⟩=σ v:=by
 unfold af at h;simp[x3.cell?,h,ad]
theorem af.Qz{w:World}{g:Nat}{e:TypeId}{cs:List Value}{v:Value}(h:af w g e cs)(I:cs[0]?=σ v):w.cell? ⟨g,0,ν⟩=σ v:=h.cell I
theorem af.range{g:Nat}(h:af w g e cs):w.rangeAt g 0 cs:=λj v ad=>by rw[X8];exact h.cell ad
theorem af.frozen{g:Nat}(h:af w g e cs)(o:Nat)(a:Option Nat):w.frozen? ⟨g,o,a⟩=false:=by
 unfold af at h;simp[x3.frozen?,h]
def ci(w:x3)(k:Nat)(v:x1)(n:Nat)(cs:List x1):Prop:=
 cs.length=n*k/\∃b o base cap,v= .slice base n cap/\n<=cap/\cap<=maxLen/\(0<n->base=σ ⟨b,o,ν⟩)/\w.rangeAt b o cs
theorem ci.ext{k:Nat}(h:ci w k v n cs)(J:Ext w w'):ci w' k v n cs:=by
 obtain⟨h1,b,o,base,cap,a,e,f,p,q⟩:=h;exact⟨h1,b,o,base,cap,a,e,f,p,nS J q⟩
theorem ci.le{k:Nat}(h:ci w k v n cs):n<=maxLen:=by
 obtain⟨_,_,_,_,_,_,a,e,_⟩:=h;exact Y8 a e
theorem ci.nil(w:x3)(k:Nat):ci w k (.slice ν 0 0) 0 []:=⟨Ξ,0,0,ν,0,rfl,o4 _,X6 _,λh=>absurd h (Nat.lt_irrefl _),λj v h=>by simp at h⟩
def aR(P:W8)(t:p8)(k b:Nat)(z:x1):Prop:=∃i,P.info? t=σ i/\i.size=k/\i.bytes=b/\i.zero=σ z
theorem aR.of{P:W8}{k b:Nat}(h:(P.info? t).map (λi=>(i.size,i.bytes,i.zero))=σ (k,b,σ z)):aR P t k b z:=by
 cases hi:P.info? t with
 |none=>simp[hi]at h
 |some i=>simp[hi]at h;exact⟨i,hi,h⟩
theorem aR.size{P:W8}{k b:Nat}(h:aR P t k b z):(P.info? t).map (·.size)=σ k:=by
 obtain⟨i,hi,U,_⟩:=h;simp[hi,U]
def bI(P:W8)(t:p8)(pl:List (Nat×Nat)):Prop:=∃a,P.underlying t=σ (.struct a)/\a.toList.map (λf=>(f.offset,((P.info? f.type).map (·.size)).getD 0))=pl
def Ac(P:W8)(t:p8):Option (List (Nat×Nat)):=match P.underlying t with
 |some (.struct a)=>σ (a.toList.map λf=>(f.offset,((P.info? f.type).map (·.size)).getD 0))
 |_=>ν
theorem bI.of{P:W8}{pl:List (Nat×Nat)}(h:Ac P t=σ pl):bI P t pl:=by
 unfold Ac at h;split at h
 .rename_i a hu;exact⟨a,hu,by simpa using h⟩
 .cases h
section
variable{P:W8}{w:x3}
theorem ac.of{s:Sem x1}(h:∀w',Ext w w'->s.run P w'= .ok v w'):ac P s w K=K v:=by
 refine propext ⟨λ⟨a,h',k⟩=>?_,λk=>⟨v,h,k⟩⟩;have:=h' w (Ext.refl w);rw[h w (Ext.refl w)]at this;cases this;exact k
theorem aD.of{α:Type}{s:Sem α}{v:α}{K:α->x3->Prop}(h:s.run P w= .ok v w')(a:cN w w')(k:K v w'):aD P s w K:=⟨v,w',h,a,k⟩
theorem bZ{c:Bool}{A B:Prop}:Split (.bool c) A B=((c=true->A)/\(c=false->B)):=by
 refine propext ⟨λ⟨e,h,h1,a⟩=>?_,λ⟨h1,a⟩=>⟨c,rfl,h1,a⟩⟩;cases h;exact⟨h1,a⟩
theorem al{p:Prop}[Decidable p]{A B:Prop}:Split (.bool (decide p)) A B=((p->A)/\(¬p->B)):=by rw[bZ];simp
theorem bT{A B:Prop}:Split (.bool true) A B=A:=by rw[bZ];simp
theorem a1{A B:Prop}:Split (.bool false) A B=B:=by rw[bZ];simp
theorem aO{b:Int}:ac P (aN .add t cx cy (.int k a) (.int k b)) w K=K (.int k (k.wrap (a+b))):=
 ac.of λw' _=>by simp[aN,eqGuard,binOp,Op.intArith]
theorem dO{b:Int}:ac P (aN .sub t cx cy (.int k a) (.int k b)) w K=K (.int k (k.wrap (a-b))):=
 ac.of λw' _=>by simp[aN,eqGuard,binOp,Op.intArith]
theorem hS{b:Int}:ac P (aN .mul t cx cy (.int k a) (.int k b)) w K=K (.int k (k.wrap (a*b))):=
 ac.of λw' _=>by simp[aN,eqGuard,binOp,Op.intArith]
theorem sL{b:Int}(e:b≠0):ac P (aN .quo t cx cy (.int k a) (.int k b)) w K=K (.int k (k.wrap (a.tdiv b))):=
 ac.of λw' _=>by simp[aN,eqGuard,binOp,Op.intDiv,e]
theorem sM{b:Int}(e:b≠0):ac P (aN .rem t cx cy (.int k a) (.int k b)) w K=K (.int k (a.tmod b)):=
 ac.of λw' _=>by simp[aN,eqGuard,binOp,Op.intDiv,e]
theorem aS{b:Int}:ac P (aN .lss t cx cy (.int k a) (.int k b)) w K=K (.bool (decide (a<b))):=
 ac.of λw' _=>by simp[aN,eqGuard,binOp,Op.intCmp]
theorem Υ{k:IntKind}{P:Program}{t:TypeId}{cx cy:Bool}{a b:Int}{w:World}{A B:Prop}(hA:a<b->A)(h:a<b:=by omega):ac P (aN .lss t cx cy (.int k a) (.int k b)) w λv=>Split v A B:=by
 rw[aS,al];exact⟨hA,λe=>absurd h e⟩
theorem mL{b:Int}:ac P (aN .leq t cx cy (.int k a) (.int k b)) w K=K (.bool (decide (a<=b))):=
 ac.of λw' _=>by simp[aN,eqGuard,binOp,Op.intCmp]
theorem bN{b:Int}:ac P (aN .gtr t cx cy (.int k a) (.int k b)) w K=K (.bool (decide (b<a))):=
 ac.of λw' _=>by simp[aN,eqGuard,binOp,Op.intCmp]
theorem cn{b:Int}:ac P (aN .geq t cx cy (.int k a) (.int k b)) w K=K (.bool (decide (b<=a))):=
 ac.of λw' _=>by simp[aN,eqGuard,binOp,Op.intCmp]
theorem be{b:Int}:ac P (aN .eql t cx cy (.int k a) (.int k b)) w K=K (.bool (decide (a=b))):=
 ac.of λw' _=>by
  have:(a == b)=decide (a=b):=by by_cases h:a=b<;>simp[h]
  simp[aN,eqGuard,binOp,Op.intCmp,this]
theorem bD{b:Int}:ac P (aN .neq t cx cy (.int k a) (.int k b)) w K=K (.bool (decide (a≠b))):=
 ac.of λw' _=>by
  have:(a != b)=decide (a≠b):=by by_cases h:a=b<;>simp[h,bne]
  simp[aN,eqGuard,binOp,Op.intCmp,this]
theorem Ad{e:o6}{b:Int}(f:0<=b):ac P (aN .shl t cx cy (.int k a) (.int e b)) w K=K (.int k (k.wrap (a*2 ^ min b.toNat k.bits))):=
 ac.of λw' _=>by simp[aN,eqGuard,binOp,Op.shift,show¬b<0 by omega]
theorem bE{c:Bool}:ac P (Op.unary .not (.bool c)) w K=K (.bool !c):=ac.of λw' _=>by simp[Op.unary]
theorem l7:ac P (Op.unary .neg (.int k a)) w K=K (.int k (k.wrap (0-a))):=ac.of λw' _=>by simp[Op.unary,Op.intArith]
theorem fm{s d:p8}{e:o6}(U:P.underlying s=σ (.int e))(f:P.underlying d=σ (.int k)):
  ac P (convert s d (.int e a)) w K=K (.int k (k.wrap a)):=ac.of λw' _=>by simp[convert,run_underlying U,run_underlying f,Conv.intToInt]
theorem Ae{x y:x1}{r:Bool}(a:∀w',(eqGuard .eql t (a6 cx) (a6 cy) x y).run P w'= .ok () w')(e:binOp .eql t x y=(do pure (.bool (<-Op.equal t x y))))(h:∀w',Ext w w'->(Op.equal t x y).run P w'= .ok r w'):ac P (aN .eql t cx cy x y) w K=K (.bool r):=ac.of λw' J=>by
 unfold aN;rw[e,W6,a w',Result.andThen_ok,W6,h w' J];rfl
theorem Af{x y:x1}{r:Bool}(a:∀w',(eqGuard .neq t (a6 cx) (a6 cy) x y).run P w'= .ok () w')(e:binOp .neq t x y=(do pure (.bool (!(<-Op.equal t x y)))))(h:∀w',Ext w w'->(Op.equal t x y).run P w'= .ok r w'):ac P (aN .neq t cx cy x y) w K=K (.bool !r):=ac.of λw' J=>by
 unfold aN;rw[e,W6,a w',Result.andThen_ok,W6,h w' J];rfl
theorem Ag(w:x3)(d:Nat){p:Option Addr}(h:P.underlying t=σ (.pointer e)):(Op.equalIn (d+1) t (.pointer p) (.pointer ν)).run P w= .ok p.isNone w:=by
 cases p<;>simp[Op.equalIn,run_underlying h]
theorem pe{base:Option Addr}(a:P.underlying t=σ (.slice e)):
  ac P (aN .eql t cx cy (.slice base n c) (.slice ν 0 0)) w K=K (.bool base.isNone):=Ae (λ_=>rfl) rfl λw' _=>run_equal_slice_nil w' t e base n c a
theorem dc{p:Option Addr}(a:P.underlying t=σ (.pointer e)):
  ac P (aN .eql t cx cy (.pointer p) (.pointer ν)) w K=K (.bool p.isNone):=Ae (λ_=>rfl) rfl λw' _=>Ag w' 9999 a
theorem Ah{p:Option Addr}(a:P.underlying t=σ (.pointer e)):
  ac P (aN .neq t cx cy (.pointer p) (.pointer ν)) w K=K (.bool !p.isNone):=Af (λ_=>rfl) rfl λw' _=>Ag w' 9999 a
theorem hr{a:p8}{base:Option Addr}(f:P.underlying t=σ (.slice e)):
  ac P (V2 #[t] a #[.slice base n c]) w K=K (Δ n):=ac.of λw' _=>by simp[V2,run_underlying f,goInt]
theorem l8{e:Array p8}{f:p8}{b:Int}:
  ac P (Z6.min_ e f #[.int k a,.int k b]) w K=K (.int k (min a b)):=ac.of λw' _=>by
 simp only[Z6.min_,List.foldlM,Z6.min2];simp only[W6,V3,Result.andThen_ok,Int.min_def];congr 2;split<;>split<;>omega
theorem vQ{e:Array p8}{f:p8}{b:Int}:
  ac P (Z6.max_ e f #[.int k a,.int k b]) w K=K (.int k (max a b)):=ac.of λw' _=>by
 simp only[Z6.max_,List.foldlM,Z6.max2];simp only[W6,V3,Result.andThen_ok,Int.max_def];congr 2;split<;>split<;>omega
theorem iJ{vs:Array x1}{i:Nat}(h:vs[i]?=σ v):ac P (Y1 (.tuple vs) i) w K=K v:=ac.of λw' _=>by simp[Y1,h]
theorem ig{f:Fn}{a b:Array x1}:ac P (Instr.makeFunc f a b) w K=K (.func f a b):=ac.of λ_ _=>rfl
def jR(P:W8)(t:p8):Bool:=match P.underlying t with
 |some (.struct _)|some (.array _ _)|none=>false
 |_=>true
theorem aw{b o:Nat}(a:jR P t=true)(h:w.cell? ⟨b,o,ν⟩=σ v):
  ac P (u5 t (.pointer (σ ⟨b,o,ν⟩))) w K=K v:=ac.of λw' J=>by
 have h':=iH J h;unfold jR at a;cases hu:P.underlying t with
 |none=>rw[hu]at a;cases a
 |some d=>
  rw[hu]at a;cases d<;>first|(cases a;done)|simp[u5,Instr.sureAddr,loadVar,isAgg,run_underlying hu,h']
theorem Ai{d:TypeDesc}{b o k a:Nat}(hu:P.underlying t=σ d)(e:d.isRow=true)(hi:aR P t k a z)(f:cs.length=k)(h:w.rangeAt b o cs):ac P (u5 t (.pointer (σ ⟨b,o,ν⟩))) w K=K (.agg cs.toArray):=ac.of λw' J=>
 run_loadAt_mid (P:=P) w' b o t cs d (nS J h) hu e (by rw[hi.size,f])
theorem bK{pl:List (Nat×Nat)}{b o k a:Nat}(hu:bI P t pl)(hi:aR P t k a z)(e:cs.length=k)(h:w.rangeAt b o cs):ac P (u5 t (.pointer (σ ⟨b,o,ν⟩))) w K=K (.agg cs.toArray):=by
 obtain⟨f,hu,_⟩:=hu;exact Ai hu rfl hi e h
theorem aU{pl:List (Nat×Nat)}{i b o z:Nat}(p:bI P t pl)(ag:pl[i]?=σ (off,z+1)):
  ac P (u6 t (.pointer (σ ⟨b,o,ν⟩)) i) w K=K (.pointer (σ ⟨b,o+off,ν⟩)):=ac.of λw' _=>by
 obtain⟨q,hu,rfl⟩:=p;rw[x8]at ag;cases a:q[i]? with
 |none=>rw[S9,a]at ag;cases ag
 |some f=>
  rw[S9,a]at ag;simp only[Z7,Y2,T5]at ag;obtain⟨rfl,h⟩:=ag;cases e:P.info? f.type with
  |none=>simp[e]at h
  |some j=>
   have U:j.size=z+1:=by simpa[e]using h
   simp[u6,run_underlying hu,a,Instr.sureAddr,fieldPlace,sizeOf,typeInfo,e,U,T3]
theorem Aj{i:Int}{b o z f:Nat}{h:x1}{base:Option Addr}(hu:P.underlying t=σ (.slice e))(p:aR P e z f h)(q:0<=i)(hi:i<n)(a:0<n->base=σ ⟨b,o,ν⟩):
  ac P (c9 t (.slice base n c) (.int k i)) w K=K (.pointer (σ ⟨b,o+i.toNat*z,ν⟩)):=ac.of λw' _=>by
 have a:=a Ω;subst a;obtain⟨j,r,U,_⟩:=p;simp[c9,asIntOf,run_underlying hu,q,hi,sizeOf,typeInfo,r,U,T3]
theorem fb{i:Nat}{b o z a:Nat}{base:Option Addr}(hu:P.underlying t=σ (.slice e))(h:aR P e z a f)(hi:i<n)(p:0<n->base=σ ⟨b,o,ν⟩):
  ac P (c9 t (.slice base n c) (.int k (i:Int))) w K=K (.pointer (σ ⟨b,o+i*z,ν⟩)):=by
 rw[Aj (i:=(i:Int)) hu h Ω Ω p];rfl
theorem JC{i:Int}{b o z a:Nat}(hu:P.underlying t=σ (.array n e))(h:aR P e z a f)(p:0<=i)(hi:i<n):
  ac P (c9 t (.pointer (σ ⟨b,o,ν⟩)) (.int k i)) w K=K (.pointer (σ ⟨b,o+i.toNat*z,ν⟩)):=ac.of λw' _=>by
 obtain⟨j,q,U,_⟩:=h;simp[c9,asIntOf,run_underlying hu,Instr.sureAddr,p,hi,sizeOf,typeInfo,q,U,T3]
theorem sN{i:Nat}{b o z a:Nat}(hu:P.underlying t=σ (.array n e))(h:aR P e z a f)(hi:i<n):
  ac P (c9 t (.pointer (σ ⟨b,o,ν⟩)) (.int k (i:Int))) w K=K (.pointer (σ ⟨b,o+i*z,ν⟩)):=by
 rw[JC (i:=(i:Int)) hu h Ω Ω];rfl
def ma:Option x1->Nat->Prop
 |none,l=>l=0
 |some v,l=>∃k,v= .int k l
def mb:Option x1->Nat->Nat->Prop
 |none,n,h=>h=n
 |some v,_,h=>∃k,v= .int k h
def maxOf:Option x1->Option x1->Nat->Nat->Prop
 |none,_,c,m=>m=c
 |some v,σ _,_,m=>∃k,v= .int k m
 |some _,ν,_,_=>False
theorem pf{l:Nat}:ma (σ (.int k (l:Int))) l:=⟨_,rfl⟩
theorem nT(l:Nat)(x:Int)(h:x=(l:Int)):ma (σ (.int k x)) l:=⟨k,by rw[h]⟩
theorem nU(l:Nat)(x:Int)(h:x=(l:Int)):mb (σ (.int k x)) n l:=⟨k,by rw[h]⟩
theorem jk:ma ν 0:=rfl
theorem pg:mb (σ (.int k (h:Int))) n h:=⟨_,rfl⟩
theorem jl:mb ν n n:=rfl
theorem fc{h:Option x1}:maxOf ν h c c:=by cases h<;>rfl
theorem sO(w:x3){sl:Bool}{l m:Nat}{low high mx:Option x1}(h1:ma low l)(e:mb high n h)(a:maxOf mx high c m)(f:l<=h)(aA:h<=m)(hm:m<=c):
  (Instr.sliceBounds sl n c low high mx).run P w= .ok (l,h,m) w:=by
 cases low<;>cases high<;>cases mx<;>simp only[ma,mb,maxOf]at h1 e a<;>(try exact a.elim)<;>(try obtain⟨p,rfl⟩:=h1)<;>(try obtain⟨q,rfl⟩:=e)<;>(try obtain⟨r,rfl⟩:=a)<;>(try subst h1)<;>(try subst e)<;>(try subst a) <;>
  simp[Instr.sliceBounds,Instr.sliceBound,asIntOf,f,aA,hm]
theorem gW{z a l m:Nat}{base:Option Addr}{low high mx:Option x1}(hu:P.underlying t=σ (.slice e))(p:aR P e z a f)(h1:ma low l)(q:mb high n h)(r:maxOf mx high c m)(s:l<=h)(aA:h<=m)(hm:m<=c):
  ac P (U3 t (.slice base n c) low high mx) w K=K (.slice (if m=l then base else base.map (·.add (l*z))) (h-l) (m-l)):=ac.of λw' _=>by
 obtain⟨j,x,U,_⟩:=p;simp[U3,Instr.slice,run_underlying hu,sO w' h1 q r s aA hm,sizeOf,typeInfo,x,U]
theorem sP{z a l m b o:Nat}{low high mx:Option x1}(hu:P.underlying t=σ (.array n e))(p:aR P e z a f)(h1:ma low l)(q:mb high n h)(r:maxOf mx high n m)(s:l<=h)(aA:h<=m)(hm:m<=n):
  ac P (U3 t (.pointer (σ ⟨b,o,ν⟩)) low high mx) w K=K (.slice (σ (if m=l then⟨b,o,ν⟩else⟨b,o+l*z,ν⟩)) (h-l) (m-l)):=ac.of λw' _=>by
 obtain⟨j,x,U,_⟩:=p;simp[U3,Instr.sureAddr,run_underlying hu,sO w' h1 q r s aA hm,sizeOf,typeInfo,x,U,T3]
theorem cZ{parts:Array (Nat×x1)}{cs:Array x1}(h:P.built t parts.toList=σ cs):ac P (Instr.build t parts) w K=K (.agg cs):=ac.of λw' _=>
 run_build (P:=P) w' t parts cs h
end
theorem ci.part{k l m:Nat}{base:Option Addr}(U:ci w k (.slice base n c) n cs)(p:l<=h)(aA:h<=n)(hm:h<=m)(q:m<=c):
  ci w k (.slice (if m=l then base else base.map (·.add (l*k))) (h-l) (m-l)) (h-l) ((cs.drop (l*k)).take ((h-l)*k)):=by
 obtain⟨h1,b,o,r,cap,he,s,x,a,e⟩:=U;cases he;have y:h*k<=n*k:=X1 _ aA;have z:l*k+(h-l)*k=h*k:=by rw[<-U4];congr 1;omega
 refine⟨by simp[h1];omega,b,o+l*k,_,m-l,rfl,Ω,Ω,λA=>?_,λj v ad=>?_⟩
 .rw[a Ω,if_neg Ω];simp[T3]
 .have f:=(x4.1 ad).1;simp at f;rw[Z9 Ω,List.getElem?_drop]at ad;rw[R5];exact e _ _ ad
section
variable{P:W8}{w:x3}
structure jm(g:Nat)(w w':x3):Prop where
 os:w'.os=w.os
 tape:jL w w'
 output:w'.output=w.output
 size:w'.heap.size=w.heap.size
 aZ:∀r,r≠g->w'.heap[r]?=w.heap[r]?
theorem jm.refl(g:Nat)(w:x3):jm g w w:=⟨rfl,.km,rfl,rfl,λ_ _=>rfl⟩
theorem jm.trans{g:Nat}{a b c:x3}(h:jm g a b)(k:jm g b c):jm g a c:=
 ⟨k.os.trans h.os,k.tape.trans h.tape,k.output.trans h.output,k.size.trans h.size,λr e=>(k.aZ r e).trans (h.aZ r e)⟩
theorem jm.ab{g:Nat}{w:x3}(h:jm g w w'):ai (λr=>r=g) w w':=⟨Nat.le_of_eq h.size.symm,λr o a _ e=>by rw[h.aZ r e];exact a⟩
theorem jm.cw{g:Nat}{w:x3}(h:jm g w w')(f:af w g e cs):cN w w':=
 ⟨h.os,h.tape,h.output,Nat.le_of_eq h.size.symm,λr o a U=>by
  by_cases p:r=g
  .subst p;unfold af at f;rw[f]at a;cases a;simp[fF]at U
  .rw[h.aZ r p];exact a⟩
theorem Ak{g:Nat}(h:af w g e cs)(o:Nat)(v:x1):af (w.setCell ⟨g,o,ν⟩ v) g e (cs.set o v)/\jm g w (w.setCell ⟨g,o,ν⟩ v):=by
 unfold af at h;refine⟨?_,rfl,.km,rfl,by simp[x3.setCell],λr a=>?_⟩
 .simp[af,x3.setCell,Array.getElem?_modify,h]
 .simp[x3.setCell,Array.getElem?_modify,Ne.symm a]
def over(cs:List x1):Nat->List x1->List x1
 |_,[]=>cs
 |o,v::r=>over (cs.set o v) (o+1) r
theorem ld:∀(vs cs:List x1)(o:Nat),(over cs o vs).length=cs.length
 |[],_,_=>rfl
 |v::r,cs,o=>by simp[over,ld r]
theorem mM:∀(vs cs:List x1)(o:Nat),o+vs.length<=cs.length->∀j,(over cs o vs)[j]?=if o<=j/\j<o+vs.length then vs[j-o]? else cs[j]?
 |[],cs,o,_,j=>by simp[over];intro h1 a;omega
 |v::r,cs,o,h,j=>by
  simp only[j9]at h;rw[over,mM r (cs.set o v) (o+1) Θ j];simp only[j9];by_cases h1:o+1<=j/\j<o+1+r.length
  .rw[if_pos h1,if_pos Ω];rw[show j-o=(j-(o+1))+1 by omega,List.getElem?_cons_succ]
  .rw[if_neg h1];by_cases a:j=o
   .subst a;rw[if_pos Ω,b9 Ω];simp
   .rw[if_neg Ω,Y4 (Ne.symm a)]
theorem mN{o:Nat}(h:o+vs.length<=cs.length):over cs o vs=cs.take o++vs++cs.drop (o+vs.length):=by
 apply Y5;intro j;rw[mM vs cs o h];by_cases h1:j<o
 .rw[if_neg Ω,Y9 Θ,Y9 Θ,Z9 h1]
 .by_cases a:j<o+vs.length
  .rw[if_pos Ω,Y9 Θ,X0 Θ];congr 1;simp;omega
  .rw[if_neg Ω,X0 Θ,List.getElem?_drop];congr 1;simp;omega
theorem nV{g:Nat}{e:p8}:∀(vs:List x1)(cs:List x1)(o:Nat)(w:x3),af w g e cs->af (w.setCells g o vs) g e (over cs o vs)/\jm g w (w.setCells g o vs)
 |[],cs,o,w,h=>⟨h,jm.refl _ _⟩
 |v::r,cs,o,w,h=>by
  obtain⟨h1,a⟩:=Ak h o v;obtain⟨f,p⟩:=nV r (cs.set o v) (o+1) _ h1;exact⟨f,a.trans p⟩
theorem sQ(w:x3)(c:List x1)(e:p8):af (w.alloc (.cells c.toArray e)) w.heap.size e c/\Ext w (w.alloc (.cells c.toArray e))/\cN w (w.alloc (.cells c.toArray e)):=
 ⟨heap_alloc_new w _,qf w _,qg w _⟩
theorem bo{k a:Nat}{K:x1->x3->Prop}(hi:aR P t k a z)(h:∀g w',g=w.heap.size->Ext w w'->af w' g t z.cells.toList->K (Γ g) w'):aD P (Instr.alloc t true (.tuple #[])) w K:=by
 obtain⟨i,hi,_,_,e⟩:=hi;obtain⟨h1,f,p⟩:=sQ w z.cells.toList t;refine .of ?_ p (h _ _ rfl f h1);simp[Instr.alloc,zeroValue,typeInfo,hi,e,newVar,newRow]
theorem bf{K:x1->x3->Prop}(h:∀g w',g=w.heap.size->Ext w w'->af w' g t v.cells.toList->K (Γ g) w'):aD P (Instr.box t v) w K:=by
 obtain⟨h1,a,e⟩:=sQ w v.cells.toList t;refine .of ?_ e (h _ _ rfl a h1);simp[Instr.box,newVar,newRow]
def dP(z:Array x1)(n:Nat):List x1:=((Array.range n).map (z[·% z.size]!)).toList
theorem nW(z:Array x1)(n:Nat):(dP z n).length=n:=by simp[dP]
theorem kw{k p:Nat}{parts:Array (Nat×x1)}{cs:Array x1}{K:x1->x3->Prop}(f:P.underlying t=σ (.slice e))(hi:aR P e k p z)(y:n*k<=2 ^ 24)(ag:Instr.fill (λj=>σ (j*k,k)) ((Array.range (n*k)).map ((if n*k=0 then#[]else z.cells)[·% (if n*k=0 then#[]else z.cells).size]!)) parts.toList=σ cs)(h:∀g w',g=w.heap.size->Ext w w'->af w' g e cs.toList->K (.slice (σ ⟨g,0,ν⟩) n n) w'):aD P (Y3 t n parts) w K:=by
 obtain⟨i,hi,rfl,_,q⟩:=hi;obtain⟨h1,r,s⟩:=sQ w cs.toList e;refine .of ?_ s (h _ _ rfl r h1);have x:¬(16777216<n*i.size):=Ω
 by_cases a:n*i.size=0
 .simp only[a,if_true]at ag;simp[Y3,run_underlying f,sizeOf,typeInfo,hi,a,newRow];simp at ag;simp[ag]
 .simp only[a,if_false]at ag;simp[Y3,run_underlying f,sizeOf,typeInfo,hi,x,a,newRow,zeroValue,q,ag]
theorem bl{p g o:Nat}{K:Unit->x3->Prop}(hi:aR P t 1 p z)(h1:v.cells= #[v])(ad:v.oneCell'=true)(a:af w g e cs)(q:o<cs.length)(h:∀w',ai (λr=>r=g) w w'->w'.heap.size=w.heap.size->af w' g e (cs.set o v)->K () w'):aD P (o9 t (.pointer (σ ⟨g,o,ν⟩)) v) w K:=by
 obtain⟨i,hi,U,_⟩:=hi;obtain⟨s,f⟩:=Ak a o v;refine .of (w':=w.setCell ⟨g,o,ν⟩ v) ?_ (f.cw a) (h _ f.ab f.size s);have x:=a.cell (x6 q);have y:(⟨g,o,ν⟩:Addr).add 0=⟨g,o,ν⟩:=rfl;simp[o9,Instr.sureAddr,storeVar,sizeOf,typeInfo,hi,U,h1,storeCells,y,run_store P w _ v _ ad,x,a.frozen]
theorem vR{k p g o:Nat}{K:Unit->x3->Prop}(hi:aR P t k p z)(q:vs.length=k)(ad:∀v∈vs,v.oneCell'=true)(a:af w g e cs)(y:o+vs.length<=cs.length)(h:∀w',ai (λr=>r=g) w w'->w'.heap.size=w.heap.size->af w' g e (over cs o vs)->K () w'):aD P (o9 t (.pointer (σ ⟨g,o,ν⟩)) (.agg vs.toArray)) w K:=by
 obtain⟨s,f⟩:=nV vs cs o w a;refine .of (w':=w.setCells g o vs) ?_ (f.cw a) (h _ f.ab f.size s);exact run_storeAt_mid (P:=P) w g o t vs.toArray (λj x=>⟨by rw[a.cell (x6 (show o+j<cs.length by simp at x;omega))];rfl,a.frozen _ _⟩) (by rw[hi.size];simp[q]) (by simpa using ad)
def bX(w:x3)(g:Nat)(e:p8)(k:Nat)(v:x1)(n:Nat)(xs:List x1):Prop:=
 xs.length=n*k/\((v= .slice ν 0 0/\n=0)\/∃cap cs,v= .slice (σ ⟨g,0,ν⟩) n cap/\af w g e cs/\n<=cap/\cap<=maxLen/\cs.length=cap*k/\cs.take (n*k)=xs)
theorem bX.nil(w:x3)(g:Nat)(e:p8)(k:Nat):bX w g e k (.slice ν 0 0) 0 []:=⟨Ξ,.inl ⟨rfl,rfl⟩⟩
theorem bX.full{g:Nat}{k:Nat}(h:af w g e cs)(a:cs.length=n*k)(f:n<=maxLen):bX w g e k (.slice (σ ⟨g,0,ν⟩) n n) n cs:=
 ⟨a,.inr ⟨n,cs,rfl,h,o4 _,f,a,by rw[<-a,o7]⟩⟩
theorem bX.ab{g:Nat}{k:Nat}(h:bX w g e k v n xs)(J:ai S w w')(f:g<w.heap.size->¬S g):bX w' g e k v n xs:=
 ⟨h.1,h.2.imp id λ⟨cap,cs,h1,a,p⟩=>⟨cap,cs,h1,a.ab J (f a.lt),p⟩⟩
theorem bX.ext{g:Nat}{k:Nat}(h:bX w g e k v n xs)(J:Ext w w'):bX w' g e k v n xs:=h.ab (J.ab λ_=>False) (λ_ h=>h)
theorem bX.sl{g:Nat}{k:Nat}(h:bX w g e k v n xs):ci w k v n xs:=by
 obtain⟨h1,⟨rfl,rfl⟩|⟨cap,cs,rfl,a,f,p,r,q⟩⟩:=h
 .have:xs=[]:=c8 (by simpa using h1);subst this;exact ci.nil w k
 .refine⟨h1,g,0,_,cap,rfl,f,p,λ_=>rfl,λj v ad=>?_⟩;rw[X8];have s:=(x4.1 ad).1;rw[<-q,Z9 Ω]at ad;exact a.cell ad
theorem ci.src{k:Nat}{x:x1}{m:Nat}{a:List x1}{f h:p8}(U:ci w k x m a)(hk:P.underlying f=σ (.slice h))(h1:∀u∈a,u.oneCell'=true)(p:0<m):Src P k f x m a w:=by
 obtain⟨q,b,o,base,cap,rfl,_,_,e,r⟩:=U;have e:=e p;subst e;exact Src.ofSlice w hk ⟨b,o,ν⟩ m cap a q (λj u hu=>by rw[T3];exact r j u hu) h1
theorem ci.JD{k:Nat}{x:x1}{f:List x1}{h:p8}(U:ci w k x 0 f)(hk:P.underlying e=σ (.slice h)):Src P k e x 0 [] w:=by
 obtain⟨p,b,o,base,cap,rfl,_,_,q,r⟩:=U;cases base with
 |none=>exact Src.ofNil w hk cap
 |some a=>exact Src.ofSlice w hk a 0 cap [] Ξ Ξ Ξ
theorem Al{p s L W:p8}{k M g m:Nat}{x:x1}{a:List x1}{K:x1->x3->Prop}(B:P.underlying t=σ (.slice e))(C:P.underlying p=σ (.slice W))(hi:aR P e k M z)(X:z.cells.size=k)(N:bX w g L k v n xs)(U:ci w k x m a)(h1:∀u∈a,u.oneCell'=true)(Y:(n+m)*M<=140737488355328)(O:n+m<=maxLen)(h:∀E F w' G,(F=g/\G=L/\(v=E\/g<w.heap.size/\v≠ .slice ν 0 0)\/F=w.heap.size/\G=e)->bX w' F G k E (n+m) (xs++a)->ai (λr=>r=g/\v≠ .slice ν 0 0) w w'->K E w'):
  aD P (Z2 #[t,p] s #[v,x]) w K:=by
 obtain⟨i,hi,rfl,rfl,Z⟩:=hi;have aa:=N.sl;obtain⟨f,H⟩:=N;have q:=U.1;have grow:∀(base:Option Addr)(cap:Nat),v= .slice base n cap->cap<n+m->0<m->(Z6.firstCells i.size n (.slice base n cap)).run P w.drew= .ok xs.toArray w.drew->aD P (Z2 #[t,p] s #[v,x]) w K:=by
  rintro base cap rfl Q hm ac;have y:=run_append_grow_src (P:=P) w t p s e i z B hi Z base n cap xs ac x m a (U.src C h1 hm) Q (by simp only[maxLen]at O;omega) (growslice_fits Q Y);have ad:n+m<=grownCap w (n+m) cap e:=grownCap_ge w _ _ _;have I:grownCap w (n+m) cap e<=maxLen:=grownCap_le_maxLen w (n+m) cap e O;have ae:Ext w (w.drew.alloc (.cells ((xs++a).toArray++Z6.zeroCells z.cells (grownCap w (n+m) cap e-(n+m))) e)):=(rZ w _).trans (qf _ _);refine .of y ((qe w _ (Nat.le_succ _)).trans (qg _ _)) (h _ w.heap.size _ _ (.inr ⟨rfl,rfl⟩) ⟨by simp[f,q,U4],.inr ⟨_,((xs++a).toArray++Z6.zeroCells z.cells (grownCap w (n+m) cap e-(n+m))).toList,rfl,?_,ad,I,?_,?_⟩⟩ (ae.ab _))
  .show _=_;rw[Array.toArray_toList];exact heap_alloc_new w.drew _
  .simp[f,q,size_zeroCells,X,<-U4];congr 1;omega
  .rw[Array.toList_append,List.toList_toArray,U4,<-f,<-q,<-r8];exact List.take_left
 rcases Q2 m with rfl|hm
 .have af:a=[]:=c8 (by simpa using q);subst af;have ag:=U.JD C;have R:∀base cap,v= .slice base n cap->n<=cap->aD P (Z2 #[t,p] s #[v,x]) w K:=by
   rintro base cap rfl I;refine .of (run_append_nothing (P:=P) w t p s e i B hi base n cap I x ag) (cN.refl _) (h _ g _ _ (.inl ⟨rfl,rfl,.inl rfl⟩) ?_ (ai.refl _ _));rw[Nat.add_zero,X5];exact⟨f,H⟩
  obtain⟨rfl,rfl⟩|⟨cap,cs,rfl,_,S,_⟩:=H
  .exact R _ _ rfl (o4 _)
  .exact R _ _ rfl S
 .obtain⟨rfl,rfl⟩|⟨cap,cs,rfl,A,S,ah,T,aj⟩:=H
  .have ak:xs=[]:=c8 (by simpa using f);subst ak;exact grow ν 0 rfl Ω hm (run_firstCells_none w.drew i.size 0 0 0)
  .by_cases J:n+m<=cap
   .have al:n*i.size+a.length<=cs.length:=by rw[q,T,<-U4];exact X1 _ J
    have y:=run_append_room_src (P:=P) w t p s e i B hi g 0 n cap x m a (U.src C h1 hm) J
     (λj aq=>by rw[A.cell (x6 (show 0+n*i.size+j<cs.length by omega))];rfl) (λj _=>A.frozen _ _)
    obtain⟨am,V⟩:=nV a cs (n*i.size) w A;rw[X8]at y;refine .of y (V.cw A) (h _ g _ _ (.inl ⟨rfl,rfl,.inr ⟨A.lt,Ξ⟩⟩) ⟨by simp[f,q,U4],.inr ⟨cap,_,rfl,am,J,ah,by rw[ld,T],?_⟩⟩ (V.ab.mono λr _ h=>⟨h,Ξ⟩));rw[mN al,aj,U4,<-f,<-q,<-r8];exact List.take_left
   .refine grow _ cap rfl Ω hm (run_firstCells_some w.drew i.size n _ n cap xs f λj u hu=>?_);rw[T3];obtain⟨_,b,o,base,au,he,_,_,an,y⟩:=aa;cases he;have ao:0<n:=by
     rcases Q2 n with rfl|ap
     .simp at f;subst f;simp at hu
     .exact ap
    have:=an ao;cases this;simpa using y j u hu
theorem nX{q A B:p8}{k s g m:Nat}{x:x1}{p:List x1}{K:x1->x3->Prop}(C:P.underlying t=σ (.slice e))(E:P.underlying q=σ (.slice B))(hi:aR P e k s z)(F:z.cells.size=k)(G:bX w g e k v n xs)(U:ci w k x m p)(h1:∀u∈p,u.oneCell'=true)(H:(n+m)*s<=140737488355328)(I:n+m<=maxLen)(h:∀f a w',(a=g\/w.heap.size<=a)->bX w' a e k f (n+m) (xs++p)->ai (λr=>r=g) w w'->K f w'):
  aD P (Z2 #[t,q] A #[v,x]) w K:=
 Al C E hi F G U h1 H I λf a w' L y hm J=>by
  refine h f a w' (y.imp And.left λh=>Nat.le_of_eq h.1.symm) ?_ (J.mono λr _ h=>h.1);obtain⟨_,rfl,_⟩|⟨_,rfl⟩:=y<;>exact hm
theorem Am{f q s:p8}{I g o hs y:Nat}{x:x1}{base:Option Addr}{C:p8}{K:x1->x3->Prop}(E:P.underlying f=σ (.slice e))(hi:aR P e 1 I z)(a:af w g C cs)(J:0<hs->base=σ ⟨g,o,ν⟩)(V:o+hs<=cs.length)(U:ci w 1 x n xs)(h1:∀u∈xs,u.oneCell'=true)(h:∀w',ai (λr=>r=g) w w'->w'.heap.size=w.heap.size->af w' g C (over cs o (xs.take hs))->K (Δ (min n hs:Nat)) w'):
  aD P (Z6.copy_ #[f,q] s #[.slice base hs y,x]) w K:=by
 obtain⟨A,b,o',L,cap,rfl,_,_,M,N⟩:=U;simp only[U7]at A;have F:(P.info? e).map (·.size)=σ 1:=hi.size;by_cases p:Nat.min n hs=0
 .have he:xs.take hs=[]:=c8 (by rw[n9,A];rw[Nat.min_comm];exact p);rw[he]at h;refine .of (run_copy_none (P:=P) w f q s e base L hs y n cap E F p) (cN.refl _) ?_;have G:min n hs=0:=p;rw[G]at h;exact h w (ai.refl _ _) rfl a
 .have G:min n hs≠0:=p;have O:=M Ω;have Q:=J Ω;subst O;subst Q;have H:(xs.take hs).length=min n hs:=by rw[n9,A,Nat.min_comm]
  obtain⟨R,B⟩:=nV (xs.take hs) cs o w a;have S:=run_copy_cells (P:=P) w f q s e g o hs y ⟨b,o',ν⟩ n cap (xs.take hs) E F H
   (λj u hu=>by
    rw[T3];have T:=(x4.1 hu).1;rw[Z9 Ω]at hu;exact N j u hu)
   (λj T=>by rw[a.cell (x6 (show o+j<cs.length by omega))];rfl) (λj _=>a.frozen _ _) (λu hu=>h1 u (S0 hu))
  refine .of S (B.cw a) ?_;rw[H];exact h _ B.ab B.size R
theorem am.mono{f:R7}{K e:x1->x3->Prop}(h:am P f args w K)(p:∀v w',cN w w'->K v w'->e v w'):am P f args w e:=by
 cases h with
 |code h1 a=>exact .code h1 (a.mono λ_ w' ⟨v,h1,q,a⟩=>⟨v,h1,q,p v w' q a⟩)
 |ext v w' h1 a r=>exact .ext v w' h1 a (p v w' a r)
theorem gF.mono{f:R7}{K e:x1->x3->Prop}(h:gF P f args w K)(p:∀v w',K v w'->e v w'):gF P f args w e:=by
 cases h with
 |code h1 a=>exact .code h1 (a.mono λ_ w' ⟨v,h1,a⟩=>⟨v,h1,p v w' a⟩)
 |ext v w' h1 q=>exact .ext v w' h1 (p v w' q)
end
end Go.Vc
namespace Go.Proofs.YtikkpokkcdocoabGreatDoor
open Go Go.Vc Go.RowKit Go.Proofs Go.Proofs.Tryz
set_option maxRecDepth 100000
theorem ao.u:x7.underlying ao=σ (.int .i64):=Ψ
theorem ao.i:aR x7 ao 1 8 (Δ 0):=aR.of Ψ
theorem ah.u:x7.underlying ah=σ (.int .i64):=Ψ
theorem ah.i:aR x7 ah 1 8 (Δ 0):=aR.of Ψ
theorem eh.u:x7.underlying eh=σ .bool:=Ψ
theorem eh.i:aR x7 eh 1 1 (.bool false):=aR.of Ψ
theorem cK.u:x7.underlying cK=σ (.int .u8):=Ψ
theorem cK.i:aR x7 cK 1 1 (.int .u8 0):=aR.of Ψ
theorem cS.u:x7.underlying cS=σ .string:=Ψ
theorem cS.i:aR x7 cS 1 16 (.string ⟨#[]⟩):=aR.of Ψ
theorem cP.u:x7.underlying cP=σ (.slice cK):=Ψ
theorem nQ.u:x7.underlying nQ=σ (.slice da):=Ψ
theorem cI.u:x7.underlying cI=σ (.pointer cq):=Ψ
theorem an.u:x7.underlying an=σ (.slice ah):=Ψ
theorem an.i:aR x7 an 1 24 (.slice ν 0 0):=aR.of Ψ
theorem dx.u:x7.underlying dx=σ (.slice an):=Ψ
theorem dx.i:aR x7 dx 1 24 (.slice ν 0 0):=aR.of Ψ
theorem kv.u:x7.underlying kv=σ (.slice eh):=Ψ
theorem kv.i:aR x7 kv 1 24 (.slice ν 0 0):=aR.of Ψ
theorem eE.u:x7.underlying eE=σ (.slice ay):=Ψ
theorem eE.i:aR x7 eE 1 24 (.slice ν 0 0):=aR.of Ψ
theorem fI.u:x7.underlying fI=σ (.slice eO):=Ψ
theorem fI.i:aR x7 fI 1 24 (.slice ν 0 0):=aR.of Ψ
theorem ba.p:bI x7 ba [(0,1),(1,1),(2,1),(3,1),(4,1),(5,1),(6,1),(7,1)]:=bI.of Ψ
theorem ba.i:aR x7 ba 8 160 (.agg #[(Δ 0),(.slice ν 0 0),(Δ 0),(.slice ν 0 0),(.slice ν 0 0),(.slice ν 0 0),(.slice ν 0 0),(.slice ν 0 0)]):=aR.of Ψ
theorem dy.u:x7.underlying dy=σ (.slice bS):=Ψ
theorem dy.i:aR x7 dy 1 24 (.slice ν 0 0):=aR.of Ψ
theorem jP.i:aR x7 jP 1 8 (Δ 0):=aR.of Ψ
theorem bS.p:bI x7 bS [(0,1),(1,1),(2,1),(3,1)]:=bI.of Ψ
theorem bS.i:aR x7 bS 4 32 (.agg #[(Δ 0),(Δ 0),(Δ 0),(Δ 0)]):=aR.of Ψ
theorem ay.u:x7.underlying ay=σ (.slice ao):=Ψ
theorem ay.i:aR x7 ay 1 24 (.slice ν 0 0):=aR.of Ψ
theorem bb.p:bI x7 bb [(0,1),(1,1),(2,1)]:=bI.of Ψ
theorem bb.i:aR x7 bb 3 72 (.agg #[(.slice ν 0 0),(.slice ν 0 0),(.slice ν 0 0)]):=aR.of Ψ
theorem eO.p:bI x7 eO [(0,3),(3,1)]:=bI.of Ψ
theorem eO.i:aR x7 eO 4 80 (.agg #[(.slice ν 0 0),(.slice ν 0 0),(.slice ν 0 0),(.bool false)]):=aR.of Ψ
theorem da.p:bI x7 da [(0,1),(1,1),(2,1),(3,1),(4,1)]:=bI.of Ψ
theorem da.i:aR x7 da 5 40 (.agg #[(.int .u8 0),(Δ 0),(Δ 0),(Δ 0),(Δ 0)]):=aR.of Ψ
theorem mI.u:x7.underlying mI=σ (.pointer fL):=Ψ
theorem qx.u:x7.underlying qx=σ (.pointer fK):=Ψ
theorem fa.u:x7.underlying fa=σ (.slice dC):=Ψ
theorem fa.i:aR x7 fa 1 24 (.slice ν 0 0):=aR.of Ψ
theorem sG.u:x7.underlying sG=σ (.slice gp):=Ψ
theorem cq.p:bI x7 cq [(0,1),(1,1),(2,1),(3,1),(4,1)]:=bI.of Ψ
theorem o3.i:aR x7 o3 1 8 .nilFunc:=aR.of Ψ
theorem fJ.u:x7.underlying fJ=σ (.int .u64):=Ψ
theorem fJ.i:aR x7 fJ 1 8 (.int .u64 0):=aR.of Ψ
theorem b1.p:bI x7 b1 [(0,1),(1,1)]:=bI.of Ψ
theorem b1.i:aR x7 b1 2 16 (.agg #[(.int .u64 0),(Δ 0)]):=aR.of Ψ
theorem pa.i:aR x7 pa 1 8 .nilFunc:=aR.of Ψ
theorem bz.p:bI x7 bz [(0,1)]:=bI.of Ψ
theorem bz.i:aR x7 bz 1 24 (.agg #[(.slice ν 0 0)]):=aR.of Ψ
theorem dC.p:bI x7 dC [(0,1),(1,1),(2,1)]:=bI.of Ψ
theorem dC.i:aR x7 dC 3 56 (.agg #[(.slice ν 0 0),(.slice ν 0 0),(Δ 0)]):=aR.of Ψ
theorem gp.p:bI x7 gp [(0,1),(1,1),(2,1)]:=bI.of Ψ
theorem gp.i:aR x7 gp 3 56 (.agg #[(Δ 0),(.slice ν 0 0),(.slice ν 0 0)]):=aR.of Ψ
theorem vN.u:x7.underlying vN=σ (.pointer cE):=Ψ
theorem vO.u:x7.underlying vO=σ (.pointer dE):=Ψ
theorem cW.u:x7.underlying cW=σ (.slice bb):=Ψ
theorem cW.i:aR x7 cW 1 24 (.slice ν 0 0):=aR.of Ψ
theorem dD.p:bI x7 dD [(0,1),(1,1),(2,1),(3,1),(4,1)]:=bI.of Ψ
theorem dD.i:aR x7 dD 5 88 (.agg #[(Δ 0),(.slice ν 0 0),(Δ 0),(.slice ν 0 0),(.slice ν 0 0)]):=aR.of Ψ
theorem mJ.u:x7.underlying mJ=σ (.array 5 cS):=Ψ
theorem mJ.i:aR x7 mJ 5 80 (.agg #[(.string ⟨#[]⟩),(.string ⟨#[]⟩),(.string ⟨#[]⟩),(.string ⟨#[]⟩),(.string ⟨#[]⟩)]):=aR.of Ψ
theorem pb.u:x7.underlying pb=σ (.int .u64):=Ψ
theorem eF.p:bI x7 eF [(0,1),(1,1)]:=bI.of Ψ
theorem eF.i:aR x7 eF 2 16 (.agg #[(Δ 0),(.int .u64 0)]):=aR.of Ψ
theorem ie.u:x7.underlying ie=σ (.slice eF):=Ψ
theorem ie.i:aR x7 ie 1 24 (.slice ν 0 0):=aR.of Ψ
theorem nR.u:x7.underlying nR=σ (.slice la):=Ψ
theorem nR.i:aR x7 nR 1 24 (.slice ν 0 0):=aR.of Ψ
theorem sH.u:x7.underlying sH=σ (.slice gv):=Ψ
theorem fK.p:bI x7 fK [(0,1),(1,1),(2,1),(3,1)]:=bI.of Ψ
theorem sI.u:x7.underlying sI=σ (.pointer hR):=Ψ
theorem e1.p:bI x7 e1 [(0,1),(1,1),(2,1),(3,1)]:=bI.of Ψ
theorem hp.u:x7.underlying hp=σ (.slice jQ):=Ψ
theorem hp.i:aR x7 hp 1 24 (.slice ν 0 0):=aR.of Ψ
theorem ch.p:bI x7 ch [(0,1),(1,4),(5,1),(6,1)]:=bI.of Ψ
theorem ji.u:x7.underlying ji=σ (.slice b2):=Ψ
theorem iF.u:x7.underlying iF=σ (.slice dX):=Ψ
theorem iF.i:aR x7 iF 1 24 (.slice ν 0 0):=aR.of Ψ
theorem b2.p:bI x7 b2 [(0,1),(1,1),(2,1),(3,1)]:=bI.of Ψ
theorem b2.i:aR x7 b2 4 80 (.agg #[(.slice ν 0 0),(.slice ν 0 0),(Δ 0),(.slice ν 0 0)]):=aR.of Ψ
theorem dH.u:x7.underlying dH=σ (.slice cF):=Ψ
theorem dH.i:aR x7 dH 1 24 (.slice ν 0 0):=aR.of Ψ
theorem cE.p:bI x7 cE [(0,1),(1,1),(2,1),(3,1)]:=bI.of Ψ
theorem eP.u:x7.underlying eP=σ (.pointer fM):=Ψ
theorem eP.i:aR x7 eP 1 8 (.pointer ν):=aR.of Ψ
theorem cF.p:bI x7 cF [(0,1),(1,1)]:=bI.of Ψ
theorem cF.i:aR x7 cF 2 32 (.agg #[(.slice ν 0 0),(.pointer ν)]):=aR.of Ψ
theorem fl.u:x7.underlying fl=σ (.slice cr):=Ψ
theorem fl.i:aR x7 fl 1 24 (.slice ν 0 0):=aR.of Ψ
theorem dz.u:x7.underlying dz=σ (.slice a7):=Ψ
theorem dz.i:aR x7 dz 1 24 (.slice ν 0 0):=aR.of Ψ
theorem bA.p:bI x7 bA [(0,1),(1,1),(2,1),(3,1),(4,1),(5,1),(6,1),(7,1),(8,1)]:=bI.of Ψ
theorem dE.p:bI x7 dE [(0,1),(1,1),(2,1),(3,1)]:=bI.of Ψ
theorem cr.p:bI x7 cr [(0,1),(1,1)]:=bI.of Ψ
theorem cr.i:aR x7 cr 2 24 (.agg #[(.string ⟨#[]⟩),(Δ 0)]):=aR.of Ψ
theorem dW.u:x7.underlying dW=σ (.slice ca):=Ψ
theorem dW.i:aR x7 dW 1 24 (.slice ν 0 0):=aR.of Ψ
theorem a7.p:bI x7 a7 [(0,1),(1,1),(2,1),(3,1)]:=bI.of Ψ
theorem a7.i:aR x7 a7 4 80 (.agg #[(.slice ν 0 0),(.slice ν 0 0),(Δ 0),(.slice ν 0 0)]):=aR.of Ψ
theorem k9.u:x7.underlying k9=σ (.slice hq):=Ψ
theorem k9.i:aR x7 k9 1 24 (.slice ν 0 0):=aR.of Ψ
theorem fL.p:bI x7 fL [(0,1),(1,1),(2,1),(3,1)]:=bI.of Ψ
theorem eQ.u:x7.underlying eQ=σ (.pointer cY):=Ψ
theorem eQ.i:aR x7 eQ 1 8 (.pointer ν):=aR.of Ψ
theorem hq.p:bI x7 hq [(0,1),(1,1)]:=bI.of Ψ
theorem hq.i:aR x7 hq 2 32 (.agg #[(.slice ν 0 0),(.pointer ν)]):=aR.of Ψ
theorem qy.p:bI x7 qy [(0,1),(1,1)]:=bI.of Ψ
theorem pc.u:x7.underlying pc=σ (.int .u32):=Ψ
theorem hR.p:bI x7 hR [(0,1),(1,1),(2,1)]:=bI.of Ψ
theorem jQ.p:bI x7 jQ [(0,1),(1,1)]:=bI.of Ψ
theorem jQ.i:aR x7 jQ 2 48 (.agg #[(.slice ν 0 0),(.slice ν 0 0)]):=aR.of Ψ
theorem dX.p:bI x7 dX [(0,1),(1,1)]:=bI.of Ψ
theorem dX.i:aR x7 dX 2 32 (.agg #[(.slice ν 0 0),(Δ 0)]):=aR.of Ψ
theorem ca.p:bI x7 ca [(0,1),(1,1)]:=bI.of Ψ
theorem ca.i:aR x7 ca 2 32 (.agg #[(.slice ν 0 0),(Δ 0)]):=aR.of Ψ
theorem gq.u:x7.underlying gq=σ (.slice cX):=Ψ
theorem cX.p:bI x7 cX [(0,1),(1,1)]:=bI.of Ψ
theorem cX.i:aR x7 cX 2 32 (.agg #[(.slice ν 0 0),(.pointer ν)]):=aR.of Ψ
theorem iG.u:x7.underlying iG=σ (.map cG ao):=Ψ
theorem fM.p:bI x7 fM [(0,1),(1,1),(2,1),(3,1)]:=bI.of Ψ
theorem pd.u:x7.underlying pd=σ (.slice gu):=Ψ
theorem gu.p:bI x7 gu [(0,1),(1,1)]:=bI.of Ψ
theorem gu.i:aR x7 gu 2 32 (.agg #[(.slice ν 0 0),(Δ 0)]):=aR.of Ψ
theorem cY.p:bI x7 cY [(0,1),(1,1),(2,1)]:=bI.of Ψ
theorem gv.p:bI x7 gv [(0,1),(1,1),(2,1)]:=bI.of Ψ
theorem gv.i:aR x7 gv 3 24 (.agg #[(Δ 0),(Δ 0),(.int .u64 0)]):=aR.of Ψ
theorem la.i:aR x7 la 3 24 (.agg #[(Δ 0),(Δ 0),(.int .u64 0)]):=aR.of Ψ
theorem sJ.u:x7.underlying sJ=σ (.array 64 cK):=Ψ
theorem gU.u:x7.underlying gU=σ (.map cS ah):=Ψ
theorem fZ.u:x7.underlying fZ=σ (.int .i8):=Ψ
theorem fZ.i:aR x7 fZ 1 1 (.int .i8 0):=aR.of Ψ
theorem cG.u:x7.underlying cG=σ (.array 6 fZ):=Ψ
theorem cG.i:aR x7 cG 6 6 (.agg #[(.int .i8 0),(.int .i8 0),(.int .i8 0),(.int .i8 0),(.int .i8 0),(.int .i8 0)]):=aR.of Ψ
theorem lb.u:x7.underlying lb=σ (.slice fZ):=Ψ
theorem jj.u:x7.underlying jj=σ (.slice cG):=Ψ
theorem jj.i:aR x7 jj 1 24 (.slice ν 0 0):=aR.of Ψ
theorem l6.u:x7.underlying l6=σ (.map ao ah):=Ψ
theorem mK.u:x7.underlying mK=σ (.array 24 cK):=Ψ
theorem mK.i:aR x7 mK 24 24 (.agg #[(.int .u8 0),(.int .u8 0),(.int .u8 0),(.int .u8 0),(.int .u8 0),(.int .u8 0),(.int .u8 0),(.int .u8 0),(.int .u8 0),(.int .u8 0),(.int .u8 0),(.int .u8 0),(.int .u8 0),(.int .u8 0),(.int .u8 0),(.int .u8 0),(.int .u8 0),(.int .u8 0),(.int .u8 0),(.int .u8 0),(.int .u8 0),(.int .u8 0),(.int .u8 0),(.int .u8 0)]):=aR.of Ψ
theorem sK.u:x7.underlying sK=σ (.array 20 fJ):=Ψ
end Go.Proofs.YtikkpokkcdocoabGreatDoor
namespace Go.Vc
open Go Go.RowKit
def bU:x1->Int
 | .int _ i=>i
 |_=>0
theorem wrap_i64{x:Int}(h1: -9223372036854775808<=x)(a:x<9223372036854775808):X9.wrap x=x:=by
 simp only[o6.wrap,o6.bits,o6.signed];simp;omega
theorem wrap_u8{x:Int}(h1:0<=x)(a:x<256):o6.u8.wrap x=x:=by
 simp only[o6.wrap,o6.bits,o6.signed];simp;omega
theorem JE{x:Int}(h1: -128<=x)(a:x<128):o6.i8.wrap x=x:=by
 simp only[o6.wrap,o6.bits,o6.signed];simp;omega
theorem wrap_u64{x:Int}(h1:0<=x)(a:x<18446744073709551616):T0.wrap x=x:=by
 simp only[o6.wrap,o6.bits,o6.signed];simp;omega
abbrev ints(k:o6)(l:Λ):List x1:=l.map (V5 k)
theorem qA(k:o6)(l:Λ):∀u∈ints k l,u.oneCell'=true:=by
 intro u hu;obtain⟨x,_,rfl⟩:=j5.1 hu;rfl
theorem lf{i:Nat}{x:Int}(h:l[i]?=σ x):(ints k l)[i]?=σ (.int k x):=by simp[ints,h]
theorem vS{α:Type}{a b:List α}{i:Nat}{x y:α}(h:a.take i=b.take i)(e:a[i]?=σ x)(f:b[i]?=σ y)(p:x=y):a.take (i+1)=b.take (i+1):=by
 rw[u7,u7,h,e,f,p]
theorem c5{aB:x3->Prop}{B:(x3->Prop)->Prop}(G:x3->Prop)(h1:∀w,G w->aB w)(e:∀a:x3->Prop,(∀w,G w->a w)->B a):cz aB B:=e aB h1
theorem aV{aB:x1->x3->Prop}{B:(x1->x3->Prop)->Prop}(G:x1->x3->Prop)(h1:∀v w,G v w->aB v w)(e:∀a:x1->x3->Prop,(∀v w,G v w->a v w)->B a):cz aB B:=e aB h1
theorem jh{aB:x1->x1->x3->Prop}{B:(x1->x1->x3->Prop)->Prop}(G:x1->x1->x3->Prop)(h1:∀u v w,G u v w->aB u v w)(e:∀a:x1->x1->x3->Prop,(∀u v w,G u v w->a u v w)->B a):cz aB B:=e aB h1
theorem am.calls{P:W8}{f:R7}{K:x1->x3->Prop}(h:am P f args w K)(a:Enters P f):Calls P f args.toArray w λe w'=>∃v,e= .returned v/\cN w w'/\K v w':=by
 cases h with
 |code _ h=>exact h
 |ext v w' h1=>rw[a]at h1;cases h1
theorem JF(J:Ext w w')(a:cN w w'):Below w.heap.size w w':=
 ⟨a.os,a.tape.1,a.output,J.size,λk hk=>by
  have e:w.heap[k]?=σ w.heap[k]:=Array.getElem?_eq_getElem hk;rw[e];cases U:fF w.heap[k]with
  |true=>exact J.aZ k _ e U
  |false=>exact a.aZ k _ e U⟩
theorem vT{x:Addr}(h:w.cell? x=σ v):x=⟨x.block,x.off,ν⟩:=by
 obtain⟨b,o,s⟩:=x;cases s with
 |none=>rfl
 |some s=>
  unfold x3.cell? at h;split at h<;>simp at h
theorem JG{a:Option Addr}{len cap:Nat}{e:Λ}(h:(a=ν/\len=0/\cap=0/\e=[])\/
   ∃x,a=σ x/\len<=cap/\cap<=maxLen/\e.length=cap/\(∀i,i<e.length->w.cell? (x.add i)=σ (.int k (e.getD i 0)))/\∀n∈e,(Lit.int k n).wf=true):
  ci w 1 (.slice a len cap) len (ints k (e.take len))/\∀n∈e.take len,k.min<=n/\n<=k.max:=by
 rcases h with⟨rfl,rfl,rfl,rfl⟩|⟨x,rfl,h1,q,r,f,s⟩
 .exact⟨ci.nil _ _,Ξ⟩
 .refine⟨⟨by simp[r,h1],x.block,x.off,σ x,cap,rfl,h1,q,λA=>?_,λj v ad=>?_⟩,λn y=>?_⟩
  .have:=f 0 Ω;exact congrArg σ (vT this)
  .have z:=(x4.1 ad).1;rw[u9,n9]at z;have J:x=⟨x.block,x.off,ν⟩:=vT (v:=.int k (e.getD 0 0)) (f 0 Ω);have p:=f j Ω;rw[J,T3]at p;rw[p,<-ad,ints,x8,Z9 Ω,u4,x6 Ω];rfl
  .have:=s n (S0 y);simpa[Lit.wf]using this
def aH(k:o6)(w:x3)(v:x1)(l:Λ):Prop:=ci w 1 v l.length (ints k l)
def av(k:o6)(e:p8)(w:x3)(g:Nat)(v:x1)(l:Λ):Prop:=bX w g e 1 v l.length (ints k l)
theorem aH.ext(h:aH k w v l)(J:Ext w w'):aH k w' v l:=ci.ext h J
theorem av.ext{g:Nat}(h:av k e w g v l)(J:Ext w w'):av k e w' g v l:=bX.ext h J
theorem av.ab{g:Nat}(h:av k e w g v l)(J:ai S w w')(a:g<w.heap.size->¬S g):av k e w' g v l:=bX.ab h J a
theorem av.ls{g:Nat}(h:av k e w g v l):aH k w v l:=bX.sl h
theorem aH.of(h:ci w 1 v n (ints k l)):aH k w v l:=by
 have:l.length=n:=by simpa using h.1
 unfold aH;rw[this];exact h
theorem av.of{g:Nat}(h:bX w g e 1 v n (ints k l)):av k e w g v l:=by
 have:l.length=n:=by simpa using h.1
 unfold av;rw[this];exact h
theorem aH.le(h:aH k w v l):l.length<=9223372036854775807:=by
 have:=ci.le h;simpa[maxLen]using this
theorem aH.cells(h:aH k w v l):v.cells= #[v]/\v.oneCell'=true:=by
 obtain⟨_,_,_,_,_,rfl,_⟩:=h;exact⟨rfl,rfl⟩
theorem av.nil(k:o6)(e:p8)(w:x3)(g:Nat):av k e w g (.slice ν 0 0) []:=bX.nil w g e 1
section
variable{P:W8}{w:x3}
theorem aW{a:p8}(f:P.underlying t=σ (.slice e))(h:aH k w v l):
  ac P (V2 #[t] a #[v]) w K=K (Δ l.length):=by
 obtain⟨_,_,_,_,_,rfl,_⟩:=h;exact hr f
theorem bh{a:o6}{b:Nat}{i:Nat}{x:Int}(f:P.underlying t=σ (.slice e))(hi:aR P e 1 b z)(h1:jR P e=true)(h:aH k w v l)(J:l[i]?=σ x):ac P (c9 t v (.int a (i:Int))) w (λp=>ac P (u5 e p) w K)=K (.int k x):=by
 have q:=(x4.1 J).1;obtain⟨_,_,_,_,_,rfl,_,_,r,s⟩:=h;rw[fb f hi q r,U7,aw h1 (s i _ (lf J))]
theorem fN{a:o6}{b:Nat}{i:Nat}{x:Int}(f:y=(i:Int))(q:P.underlying t=σ (.slice e))(hi:aR P e 1 b z)(h1:jR P e=true)(h:aH k w v l)(J:l[i]?=σ x):ac P (c9 t v (.int a y)) w (λp=>ac P (u5 e p) w K)=K (.int k x):=by
 subst f;exact bh q hi h1 h J
theorem jn{q:p8}{b g:Nat}{x:x1}{m:Λ}{K:x1->x3->Prop}(p:P.underlying t=σ (.slice e))(hi:aR P e 1 b z)(s:z.cells.size=1)(h:av k e w g v l)(J:aH k w x m)(y:(l.length+m.length)*b<=140737488355328)(A:l.length+m.length<=9223372036854775807)(B:∀f a w',(a=g\/w.heap.size<=a)->av k e w' a f (l++m)->ai (λr=>r=g) w w'->K f w'):aD P (Z2 #[t,t] q #[v,x]) w K:=
 nX p p hi s h J (qA _ _) y (by simpa[maxLen]using A) λf a w' h1 C E=>B f a w' h1 (av.of (by rw[ints,Z3];exact C)) E
theorem ee{b:Nat}{x:Int}{K:x1->x3->Prop}(p:P.underlying t=σ (.slice e))(hi:aR P e 1 b z)(s:z.cells.size=1)(h:∀v g w',g=w.heap.size->Ext w w'->av k e w' g v [x]->K v w'):aD P (Y3 t 1 #[(0,.int k x)]) w K:=
 kw p hi Ω (cs:=#[.int k x]) (by
   have U:∀(a:Array x1),a.size=1->a.setIfInBounds 0 (.int k x)= #[.int k x]:=λa f=>by
    apply Array.ext
    .simp[f]
    .intro i h1 y;have:i=0:=by simp[f]at h1;exact h1
     subst this;simp
   simp only[Instr.fill,x1.cells,List.zipIdx];simp;exact U _ Ξ) λg w' q J r=>h _ g w' q J (av.of (n:=1) (bX.full r rfl (by simp[maxLen])))
theorem am.free{f:R7}{K:x1->x3->Prop}(h:am P f args w K):gF P f args w λv w'=>cN w w'/\K v w':=by
 cases h with
 |code h1 a=>exact .code h1 (a.mono λ_ w' ⟨v,h1,e,a⟩=>⟨v,h1,e,a⟩)
 |ext v w' h1 a p=>exact .ext v w' h1 ⟨a,p⟩
theorem bV{a:Addr}:ac P (bP (.pointer (σ a))) w K=K (.pointer (σ a)):=ac.of λ_ _=>by
 simp[bP,r1,execOp]
theorem aM{u:p8}{pl:List (Nat×Nat)}{b z:Nat}{K:x1->x1->Prop}(a:bI P t pl)(i:Nat)(f:af w b e cs)(ad:cs[(pl[i]?.getD (0,0)).1]?=σ v)(ag:pl[i]?=σ (off,z+1):=by rfl)(h:jR P u=true:=by kernel_rfl):
  ac P (u6 t (Γ b) i) w (λx=>ac P (u5 u x) w (K x))=K (.pointer (σ ⟨b,0+off,ν⟩)) v:=by
 rw[ag]at ad;rw[aU a ag,aw h (f.cell (by rw[X8];exact ad))]
theorem aQ{u:p8}{pl:List (Nat×Nat)}{b z:Nat}{K:x1->x1->x1->Prop}(a:bI P t pl)(i:Nat)(f:af w b e cs)(ad:cs[(pl[i]?.getD (0,0)).1]?=σ v)(ag:pl[i]?=σ (off,z+1):=by rfl)(h:jR P u=true:=by kernel_rfl):
  ac P (bP (Γ b)) w (λy=>ac P (u6 t y i) w (λx=>ac P (u5 u x) w (K y x)))=K (Γ b) (.pointer (σ ⟨b,0+off,ν⟩)) v:=by
 rw[bV,aM a i f ad ag h]
theorem An{a f:o6}{k p:Nat}{K:x1->x3->Prop}(r:P.underlying t=σ (.slice e))(hi:aR P e k p z)(B:n*p<=281474976710656)(C:n<=9223372036854775807)(h:∀g w',g=w.heap.size->Ext w w'->af w' g e (dP z.cells (n*k))->K (.slice (σ ⟨g,0,ν⟩) n n) w'):aD P (Instr.makeSlice t (.int a (n:Int)) (.int f (n:Int))) w K:=by
 obtain⟨i,hi,rfl,rfl,s⟩:=hi;have x:(i.bytes:Int)*(n:Int)<=281474976710656:=by
  rw[Int.mul_comm];have h:((n*i.bytes:Nat):Int)<=281474976710656:=Ω
  rwa [Int.natCast_mul]at h
 have q:=run_make (P:=P) w t e i z r hi s a f n n Ω (Int.le_refl _) x Ω;have hm:madeCells z.cells ((n:Int).toNat*i.size)=(dP z.cells (n*i.size)).toArray:=by rw[dP,Array.toArray_toList];rfl
 rw[hm]at q;obtain⟨h1,y,A⟩:=sQ w (dP z.cells (n*i.size)) e;exact .of q A (h _ _ rfl y h1)
theorem JH(v:x1)(n:Nat):dP #[v] n=p9 n v:=by
 apply List.ext_getElem
 .simp[dP]
 .intro i h1 a;simp[dP,Nat.mod_one]
theorem jS{f p:o6}{a:Nat}{K:x1->x3->Prop}(q:P.underlying t=σ (.slice e))(hi:aR P e 1 a (.int k 0))(r:n*a<=281474976710656)(s:n<=9223372036854775807)(h:∀g w',g=w.heap.size->Ext w w'->af w' g e (ints k (p9 n 0))->K (.slice (σ ⟨g,0,ν⟩) n n) w'):aD P (Instr.makeSlice t (.int f (n:Int)) (.int p (n:Int))) w K:=
 An q hi r s λg w' x J y=>h g w' x J (by
  have e:dP (V5 k 0).cells (n*1)=ints k (p9 n 0):=by rw[U7];show dP #[_] n=_;rw[JH];simp[ints]
  rw[<-e];exact y)
theorem fO{pl:List (Nat×Nat)}{b o k a:Nat}(hu:bI P t pl)(hi:aR P t k a z)(e:cs.length=k)(h:w.rangeAt b o cs):ac P (do loadVar t (<-asAddr (.pointer (σ ⟨b,o,ν⟩)))) w K=K (.agg cs.toArray):=ac.of λw' J=>by
 obtain⟨f,hu,_⟩:=hu;have:=run_loadVar_mid (P:=P) w' b o t cs (.struct f) (nS J h) hu rfl (by rw[hi.size,e]);simp only[asAddr,W6,V3,Result.andThen_ok,this]
theorem Ao(h:vs.length=cs.length):over cs 0 vs=vs:=by
 rw[mN Ω];simp[h]
theorem cb{k f g:Nat}{K:Unit->x3->Prop}(hi:aR P t k f z)(p:vs.length=k)(x:cs.length=k)(ad:∀v∈vs,v.oneCell'=true)(q:af w g e cs)(h:∀w',ai (λr=>r=g) w w'->w'.heap.size=w.heap.size->af w' g e vs->K () w'):aD P (o9 t (Γ g) (.agg vs.toArray)) w K:=
 vR hi p ad q Ω λw' h1 s a=>h w' h1 s (by rw[Ao Ω]at a;exact a)
end
section
variable{P:W8}{w w' aa:x3}{t:p8}{cx cy:Bool}{k:o6}{a b:Int}{A B:Prop}{x y z:x1}{K:x1->Prop}
theorem bq:ac P (Y1 (.tuple #[x,y]) 0) w K=K x:=iJ rfl
theorem br:ac P (Y1 (.tuple #[x,y]) 1) w K=K y:=iJ rfl
theorem fP:ac P (Y1 (.tuple #[x,y,z]) 0) w K=K x:=iJ rfl
theorem fQ:ac P (Y1 (.tuple #[x,y,z]) 1) w K=K y:=iJ rfl
theorem fR:ac P (Y1 (.tuple #[x,y,z]) 2) w K=K z:=iJ rfl
theorem bH(h:a<b)(e:A):ac P (aN .lss t cx cy (.int k a) (.int k b)) w λv=>Split v A B:=by
 rw[aS,al];exact⟨λ_=>e,λf=>absurd h f⟩
theorem ct(h:¬a<b)(e:B):ac P (aN .lss t cx cy (.int k a) (.int k b)) w λv=>Split v A B:=by
 rw[aS,al];exact⟨λf=>absurd f h,λ_=>e⟩
theorem Ext.put{g:Nat}(J:Ext w w')(a:ai (λr=>r=g) w' aa)(h:w.heap.size<=g):Ext w aa:=J.then a λr e he=>by
 have he:r=g:=he;omega
theorem aI{α:Type}{l:List α}{i:Nat}(h:i<l.length):∃x,l[i]?=σ x:=⟨_,x6 h⟩
end
abbrev ak:=Nat->Prop
def kx(S:ak)(w:x3)(k:Nat)(v:x1)(n:Nat)(cs:List x1):Prop:=
 cs.length=n*k/\∃b o base cap,v= .slice base n cap/\n<=cap/\cap<=maxLen/\(0<n->base=σ ⟨b,o,ν⟩)/\(0<cs.length->S b)/\w.rangeAt b o cs
theorem kx.sl{S:ak}{k:Nat}(h:kx S w k v n cs):ci w k v n cs:=by
 obtain⟨h1,b,o,base,cap,a,e,f,p,_,q⟩:=h;exact⟨h1,b,o,base,cap,a,e,f,p,q⟩
theorem Ap{b o:Nat}(h:w.rangeAt b o cs)(a:0<cs.length):b<w.heap.size:=by
 have:=h 0 cs[0] (x6 a);obtain⟨c,e,f,p,_⟩:=vP this;exact(j4.1 p).1
theorem kx.ab{S T:ak}{k:Nat}(h:kx S w k v n cs)(J:ai T w w')(p:∀r,r<w.heap.size->S r->¬T r):kx S w' k v n cs:=by
 obtain⟨h1,b,o,base,cap,q,s,x,y,e,f⟩:=h;refine⟨h1,b,o,base,cap,q,s,x,y,e,?_⟩;rcases Q2 cs.length with a|a
 .intro j v ad;have:=(x4.1 ad).1;omega
 .exact iI J (p b (Ap f a) (e a)) f
theorem kx.mono{S T:ak}{k:Nat}(h:kx S w k v n cs)(f:∀r,r<w.heap.size->S r->T r):kx T w k v n cs:=by
 obtain⟨h1,b,o,base,cap,p,q,s,x,y,a⟩:=h;exact⟨h1,b,o,base,cap,p,q,s,x,λe=>f b (Ap a e) (y e),a⟩
class aq(α:Type) where
 n:Nat
 rep:Bool->ak->ak->x3->List x1->α->Prop
 len:∀{m S R w cs a},rep m S R w cs a->cs.length=n
 one:∀{m S R w cs a},rep m S R w cs a->∀u∈cs,u.oneCell'=true
 ab:∀{m S R T w w' cs a},rep m S R w cs a->ai T w w'->(∀r,r<w.heap.size->S r\/R r->¬T r)->rep m S R w' cs a
 mono:∀{m S S' R R' w cs a},rep m S R w cs a->(∀r,r<w.heap.size->S r->S' r)->(∀r,r<w.heap.size->R r->R' r)->rep m S' R' w cs a
 hP:∀{m S R w cs a},rep m S R w cs a->rep false (λ_=>False) (λr=>S r\/R r) w cs a
section
variable{α β:Type}[aq α][aq β]{m:Bool}{S R T:ak}{w w':x3}
abbrev bG(S R:ak)(w:x3)(cs:List x1)(a:α):Prop:=aq.rep true S R w cs a
abbrev Seen(R:ak)(w:x3)(cs:List x1)(a:α):Prop:=aq.rep false (λ_=>False) R w cs a
abbrev fo:ak:=λ_=>True
theorem b0{a:α}(h:aq.rep m S R w cs a)(J:Ext w w'):aq.rep m S R w' cs a:=aq.ab h (J.ab λ_=>False) λ_ _ _ h=>h
theorem mO{a:α}(h:aq.rep m S R w cs a):aq.rep m (λr=>S r/\r<w.heap.size) R w cs a:=aq.mono h (λ_ h1 e=>⟨e,h1⟩) λ_ _ h=>h
theorem jT{a:α}(h:aq.rep m S R w cs a):Seen fo w cs a:=aq.mono (aq.hP h) (λ_ _ h=>h.elim) λ_ _ _=>trivial
theorem qB{a:α}{Q:ak}(h:aq.rep m S R w cs a)(e:∀r,r<w.heap.size->S r\/R r->Q r):Seen Q w cs a:=aq.mono (aq.hP h) (λ_ _ h=>h.elim) e
instance:aq Int where
 n:=1
 rep _ _ _ _ cs a:=cs=[Δ a]
 len h:=by subst h;rfl
 one h:=by subst h;intro u hu;simp at hu;subst hu;rfl
 ab h _ _:=h
 mono h _ _:=h
 hP h:=h
instance:aq Bool where
 n:=1
 rep _ _ _ _ cs a:=cs=[.bool a]
 len h:=by subst h;rfl
 one h:=by subst h;intro u hu;simp at hu;subst hu;rfl
 ab h _ _:=h
 mono h _ _:=h
 hP h:=h
instance:aq ByteArray where
 n:=1
 rep _ _ _ _ cs a:=cs=[.string a]
 len h:=by subst h;rfl
 one h:=by subst h;intro u hu;simp at hu;subst hu;rfl
 ab h _ _:=h
 mono h _ _:=h
 hP h:=h
def mc(_:o6):Type:=Int
instance (k:o6):aq (mc k) where
 n:=1
 rep _ _ _ _ cs a:=cs=[.int k a]
 len h:=by subst h;rfl
 one h:=by subst h;intro u hu;simp at hu;subst hu;rfl
 ab h _ _:=h
 mono h _ _:=h
 hP h:=h
def Rd(α:Type):Type:=α
instance Sw:aq (Rd α) where
 n:=aq.n α
 rep _ _ R w cs a:=aq.rep (α:=α) false (λ_=>False) R w cs a
 len h:=aq.len (α:=α) h
 one h:=aq.one (α:=α) h
 ab h J e:=aq.ab (α:=α) h J λr f h=>e r f (.inr (h.elim False.elim id))
 mono h _ p:=aq.mono (α:=α) h (λ_ _ h=>h) p
 hP h:=aq.mono (α:=α) h (λ_ _ h=>h) λ_ _ h=>.inr h
instance Sx:aq (α×β) where
 n:=aq.n α+aq.n β
 rep m S R w cs a:=∃c d A B,cs=c++d/\(∀r,A r->S r)/\(∀r,B r->S r)/\(m=true->∀r,A r->¬B r)/\aq.rep m A R w c a.1/\aq.rep m B R w d a.2
 len:=by
  rintro m S R w cs a ⟨c,d,A,B,rfl,_,_,_,h1,e⟩;simp[aq.len h1,aq.len e]
 one:=by
  rintro m S R w cs a ⟨c,d,A,B,rfl,_,_,_,h1,e⟩ u hu;rcases o5.1 hu with hu|hu
  .exact aq.one h1 u hu
  .exact aq.one e u hu
 ab:=by
  rintro m S R T w w' cs a ⟨c,d,A,B,rfl,p,q,x,h1,e⟩ J s;exact⟨c,d,A,B,rfl,p,q,x,aq.ab h1 J λr f h=>s r f (h.imp (p r) id),aq.ab e J λr f h=>s r f (h.imp (q r) id)⟩
 mono:=by
  rintro m S S' R R' w cs a ⟨c,d,A,B,rfl,p,q,x,h1,e⟩ s y;exact⟨c,d,λr=>A r/\r<w.heap.size,λr=>B r/\r<w.heap.size,rfl,λr h=>s r h.2 (p r h.1),λr h=>s r h.2 (q r h.1),λhm r h k=>x hm r h.1 k.1,
   aq.mono h1 (λr f h=>⟨h,f⟩) y,aq.mono e (λr f h=>⟨h,f⟩) y⟩
 hP:=by
  rintro m S R w cs a ⟨c,d,A,B,rfl,p,q,x,h1,e⟩;exact⟨c,d,λ_=>False,λ_=>False,rfl,λ_ h=>h.elim,λ_ h=>h.elim,(λh=>by cases h),aq.mono (aq.hP h1) (λ_ _ h=>h) λr _ h=>h.imp (p r) id,
   aq.mono (aq.hP e) (λ_ _ h=>h) λr _ h=>h.imp (q r) id⟩
def mP(m:Bool)(R:ak)(F:Nat->ak)(w:x3)(vs:List (List x1))(l:List α):Prop:=
 vs.length=l.length/\∀(i:Nat)(c:List x1)(a:α),vs[i]?=σ c->l[i]?=σ a->aq.rep m (F i) R w c a
structure Aq(m:Bool)(S:ak)(g:Nat)(F:Nat->ak):Prop where
 sub:∀i r,F i r->S r
 top:m=true->∀i,¬F i g
 gI:m=true->∀i j r,i≠j->F i r->¬F j r
theorem mP.len{F:Nat->ak}{vs:List (List x1)}{l:List α}(h:mP m R F w vs l):∀c∈vs,c.length=aq.n α:=by
 intro c a;obtain⟨i,hi,rfl⟩:=List.mem_iff_getElem.1 a;exact aq.len (h.2 i _ _ (x6 hi) (x6 (h.1▸hi)))
theorem mP.one{F:Nat->ak}{vs:List (List x1)}{l:List α}(h:mP m R F w vs l):∀u∈vs.flatten,u.oneCell'=true:=by
 intro u hu;obtain⟨c,a,hu⟩:=List.mem_flatten.1 hu;obtain⟨i,hi,rfl⟩:=List.mem_iff_getElem.1 a;exact aq.one (h.2 i _ _ (x6 hi) (x6 (h.1▸hi))) u hu
theorem ky{k:Nat}:∀{vs:List (List x1)},(∀c∈vs,c.length=k)->vs.flatten.length=vs.length*k
 |[],_=>Ξ
 |c::r,h=>by
  have:=ky (vs:=r) λx J=>h x (.tail _ J);simp only[List.flatten_cons,r8,this,h c (.head _),j9,U4];omega
theorem nY{k:Nat}:∀{vs:List (List x1)},(∀c∈vs,c.length=k)->∀{i j:Nat}{c:List x1},vs[i]?=σ c->j<k->vs.flatten[i*k+j]?=c[j]?
 |gX::r,h,0,j,c,a,e=>by
  simp only[List.getElem?_cons_zero,Y2]at a;subst a;rw[List.flatten_cons,Y9 (by rw[h _ (.head _)];omega)];simp
 |gX::r,h,i+1,j,c,a,e=>by
  simp only[List.getElem?_cons_succ]at a;have f:=h gX (.head _);rw[List.flatten_cons,X0 (by rw[f,U4];omega),f,U4,show i*k+1*k+j-k=i*k+j by omega];exact nY (λx J=>h x (.tail _ J)) a e
 |[],_,i,_,c,a,_=>by simp at a
instance instList:aq (List α) where
 n:=1
 rep m S R w cs l:=∃v,cs=[v]/\∃(vs:List (List x1))(g:Nat)(F:Nat->ak),Aq m S g F/\mP m R F w vs l/\kx (λr=>S r\/R r) w (aq.n α) v l.length vs.flatten/\
  (m=true->(v= .slice ν 0 0\/S g)/\∃e,bX w g e (aq.n α) v l.length vs.flatten)
 len:=by rintro m S R w cs a ⟨v,rfl,_⟩;rfl
 one:=by
  rintro m S R w cs a ⟨v,rfl,vs,g,F,_,_,⟨_,_,_,_,_,rfl,_⟩,_⟩ u hu;simp at hu;subst hu;rfl
 ab:=by
  rintro m S R T w w' cs a ⟨v,rfl,vs,g,F,p,he,U,hm⟩ J s;refine⟨v,rfl,vs,g,F,p,⟨he.1,λi c a y z=>aq.ab (he.2 i c a y z) J λr q h=>s r q (h.imp (p.sub i r) id)⟩,U.ab J s,λh=>?_⟩;obtain⟨h1,e,f⟩:=hm h;refine⟨h1,e,?_⟩;rcases h1 with rfl|h1
  .obtain⟨B,⟨_,x⟩|⟨_,_,x,_⟩⟩:=f
   .exact⟨B,.inl ⟨rfl,x⟩⟩
   .cases x
  .exact f.ab J λq=>s g q (.inl h1)
 mono:=by
  rintro m S S' R R' w cs a ⟨v,rfl,vs,g,F,p,he,U,hm⟩ s A;refine⟨v,rfl,vs,g,λi r=>F i r/\r<w.heap.size,⟨λi r h=>s r h.2 (p.sub i r h.1),λh i f=>p.top h i f.1,λh i j r C h1 f=>p.gI h i j r C h1.1 f.1⟩,
   ⟨he.1,λi c a y z=>aq.mono (he.2 i c a y z) (λr q h=>⟨h,q⟩) A⟩,U.mono λr q h=>h.imp (s r q) (A r q),λh=>?_⟩
  obtain⟨h1,e,f⟩:=hm h;refine⟨?_,e,f⟩;obtain⟨_,⟨x,_⟩|⟨_,_,x,E,_⟩⟩:=f
  .exact .inl x
  .rcases h1 with h1|h1
   .exact .inl h1
   .exact .inr (s g E.lt h1)
 hP:=by
  rintro m S R w cs a ⟨v,rfl,vs,g,F,p,he,U,hm⟩;exact⟨v,rfl,vs,g,λ_ _=>False,⟨λ_ _ h=>h,(λh=>by cases h),λh=>by cases h⟩,
   ⟨he.1,λi c a y z=>aq.mono (aq.hP (he.2 i c a y z)) (λ_ _ h=>h) λr _ h=>h.imp (p.sub i r) id⟩,U.mono λr _ h=>.inr h,λh=>by cases h⟩
end
section
variable{P:W8}{w:x3}{α β:Type}[aq α][aq β]{m:Bool}{S R:ak}
theorem jo{l:List α}(h:aq.rep m S R w [v] l):∃(vs:List (List x1))(g:Nat)(F:Nat->ak),Aq m S g F/\mP m R F w vs l/\kx (λr=>S r\/R r) w (aq.n α) v l.length vs.flatten/\
  (m=true->(v= .slice ν 0 0\/S g)/\∃e,bX w g e (aq.n α) v l.length vs.flatten):=by
 obtain⟨_,a,h⟩:=h;cases a;exact h
theorem jp{a:α}(h:aq.rep m S R w [v] a):v.oneCell'=true:=aq.one h v (.head _)
theorem qC{l:List α}(h:aq.rep m S R w [v] l):v.cells= #[v]:=by
 obtain⟨_,_,_,_,_,⟨_,_,_,_,_,rfl,_⟩,_⟩:=jo h;rfl
theorem sR{l:List α}(h:aq.rep m S R w [v] l):l.length<=9223372036854775807:=by
 obtain⟨_,_,_,_,_,h,_⟩:=jo h;have:=h.sl.le;simpa[maxLen]using this
theorem ht:aq.rep m S R w [.slice ν 0 0] ([]:List α):=
 ⟨_,rfl,[],0,λ_ _=>False,⟨λ_ _ h=>h.elim,λ_ _ h=>h,λ_ _ _ _ _ h=>h.elim⟩,⟨rfl,λi c a e=>by simp at e⟩,
  ⟨Ξ,0,0,ν,0,rfl,o4 _,X6 _,λh=>absurd h (Nat.lt_irrefl _),λh=>by simp at h,λj v h=>by simp at h⟩,
  λ_=>⟨.inl rfl,0,bX.nil w 0 0 _⟩⟩
theorem Ar{F:Nat->ak}{vs:List (List x1)}(h:mP m R F w vs l):vs.flatten=ints .i64 l:=by
 have:vs=l.map λx=>[V5 .i64 x]:=by
  apply List.ext_getElem
  .simp[h.1]
  .intro i h1 a;have e:i<l.length:=by simpa using a
   have:=h.2 i _ _ (x6 h1) (x6 e);rw[List.getElem_map];exact this
 subst this;clear h;induction l with
 |nil=>rfl
 |cons x l f=>simp only[T1,List.flatten_cons,f];rfl
theorem eG(h:aq.rep m S R w [v] l):aH .i64 w v l:=by
 obtain⟨vs,g,F,_,he,U,_⟩:=jo h;have:=U.sl;rw[Ar he]at this;exact this
theorem jq{a:p8}{l:List α}(f:P.underlying t=σ (.slice e))(h:aq.rep m S R w [v] l):
  ac P (V2 #[t] a #[v]) w K=K (Δ l.length):=by
 obtain⟨_,_,_,_,_,⟨_,_,_,_,_,rfl,_⟩,_⟩:=jo h;exact hr f
theorem kz{x:o6}{i b:Nat}{l:List α}{a:α}(A:y=(i:Int))(B:P.underlying t=σ (.slice e))(hi:aR P e (aq.n α) b z)(h:aq.rep m S R w [v] l)(f:l[i]?=σ a)(C:∀b o cs,w.rangeAt b o cs->aq.rep m S R w cs a->K (.pointer (σ ⟨b,o,ν⟩))):ac P (c9 t v (.int x y)) w K:=by
 subst A;obtain⟨vs,g,F,E,he,⟨_,b,o,base,cap,rfl,_,_,G,_,H⟩,_⟩:=jo h;have p:=(x4.1 f).1;rw[fb B hi p G];obtain⟨c,q⟩:∃c,vs[i]?=σ c:=⟨_,x6 (by rw[he.1];exact p)⟩;have s:=he.2 i c a q f;have I:=aq.len s;refine C _ _ c (λj u hu=>?_) (aq.mono s (λr _ h=>E.sub i r h) λ_ _ h=>h);have J:=(x4.1 hu).1;rw[R5];refine H (i*aq.n α+j) u ?_;rw[nY he.len q Ω];exact hu
theorem mQ{r:o6}{i b:Nat}{l:List α}{a:α}(s:aq.n α=1)(x:y=(i:Int))(A:P.underlying t=σ (.slice e))(hi:aR P e (aq.n α) b z)(h1:jR P e=true)(h:aq.rep m S R w [v] l)(B:l[i]?=σ a)(C:∀u,aq.rep m S R w [u] a->K u):
  ac P (c9 t v (.int r y)) w λp=>ac P (u5 e p) w K:=by
 refine kz x A hi h B λb o cs E f=>?_;have q:=aq.len f;rw[s]at q;obtain⟨u,rfl⟩:=W9.1 q;rw[aw h1 (by have:=E 0 u rfl;simpa using this)];exact C u f
theorem nZ{pl:List (Nat×Nat)}{q:o6}{i b:Nat}{l:List α}{a:α}(hu:bI P e pl)(r:y=(i:Int))(s:P.underlying t=σ (.slice e))(hi:aR P e (aq.n α) b z)(h:aq.rep m S R w [v] l)(x:l[i]?=σ a)(A:∀cs,aq.rep m S R w cs a->K (.agg cs.toArray)):
  ac P (c9 t v (.int q y)) w λp=>ac P (u5 e p) w K:=by
 refine kz r s hi h x λb o cs B f=>?_;rw[bK hu hi (aq.len f) B];exact A cs f
theorem ph{g:Nat}{k:Nat}(h:bX w g e k v n xs)(a:v= .slice ν 0 0\/S g):kx S w k v n xs:=by
 obtain⟨h1,⟨rfl,rfl⟩|⟨cap,cs,rfl,f,p,q,s,r⟩⟩:=h
 .have:xs=[]:=c8 (by simpa using h1);subst this;exact⟨Ξ,0,0,ν,0,rfl,o4 _,X6 _,λh=>absurd h (Nat.lt_irrefl _),λh=>by simp at h,λj v h=>by simp at h⟩
 .refine⟨h1,g,0,_,cap,rfl,p,q,λ_=>rfl,λ_=>a.resolve_left Ξ,λj v ad=>?_⟩;rw[X8];have x:=(x4.1 ad).1;rw[<-r,Z9 Ω]at ad;exact f.cell ad
open Classical in
theorem JI{T X Y:p8}{b:Nat}{x:x1}{us:List (List x1)}{l l':List α}{G:Nat->ak}{K:x1->x3->Prop}(Z:P.underlying t=σ (.slice e))(aa:P.underlying T=σ (.slice X))(hi:aR P e (aq.n α) b z)(ac:z.cells.size=aq.n α)(h:bG S R w [v] l)(J:ci w (aq.n α) x l'.length us.flatten)(I:mP true R G w us l')(ae:∀i j r,i≠j->G i r->¬G j r)(C:∀r,r<w.heap.size->S r->(∀i,¬G i r)/\¬R r)(af:(l.length+l'.length)*b<=140737488355328)(ag:l.length+l'.length<=9223372036854775807)(ah:∀p w',bG (λr=>S r\/(∃i,G i r)\/w.heap.size<=r) R w' [p] (l++l')->ai S w w'->K p w'):aD P (Z2 #[t,T] Y #[v,x]) w K:=by
 obtain⟨vs,g,F,y,he,U,hm⟩:=jo h;obtain⟨L,ao,V⟩:=hm rfl;refine Al Z aa hi ac V J I.one af (by simpa[maxLen]using ag) ?_;intro p E w' aj al M N;have O:∀r,r=g/\v≠ .slice ν 0 0->S r:=λr ⟨h1,f⟩=>h1▸L.resolve_left f;have am:=V;have Q:(p= .slice ν 0 0)\/(E=g/\S g/\g<w.heap.size)\/E=w.heap.size:=by
  rcases al with⟨h1,_,f|f⟩|⟨h1,_⟩
  .rcases L with q|q
   .exact .inl (f▸q)
   .obtain⟨_,⟨s,_⟩|⟨_,_,_,s,_⟩⟩:=am
    .exact .inl (f▸s)
    .exact .inr (.inl ⟨h1,q,s.lt⟩)
  .exact .inr (.inl ⟨h1,L.resolve_left f.2,f.1⟩)
  .exact .inr (.inr h1)
 refine ah p w' ⟨p,rfl,vs++us,if p= .slice ν 0 0 then w.heap.size else E,λi r=>if i<l.length then F i r/\r<w.heap.size else G (i-l.length) r/\r<w.heap.size,⟨λi r h=>?_,λ_ i h=>?_,λ_ i j r an h1 f=>?_⟩,⟨by simp[he.1,I.1],λi c a hi H=>?_⟩,?_,λ_=>⟨?_,aj,?_⟩⟩ (N.mono λr _ h=>O r h)
 .split at h
  .exact .inl (y.sub i r h.1)
  .exact .inr (.inl ⟨_,h.1⟩)
 .have A:(if p= .slice ν 0 0 then w.heap.size else E)<w.heap.size:=by split at h<;>exact h.2
  split at A
  .omega
  .rename_i ad;rw[if_neg ad]at h;rcases Q with h1|⟨rfl,f,q⟩|h1
   .exact ad h1
   .split at h
    .exact y.top rfl i h.1
    .exact (C _ q f).1 _ h.1
   .omega
 .split at h1<;>split at f
  .exact y.gI rfl i j r an h1.1 f.1
  .exact (C r h1.2 (y.sub i r h1.1)).1 _ f.1
  .exact (C r h1.2 (y.sub j r f.1)).1 _ h1.1
  .exact ae (i-l.length) (j-l.length) r Ω h1.1 f.1
 .have W:∀r,r<w.heap.size->R r->¬(r=g/\v≠ .slice ν 0 0):=λr B h1 f=>(C r B (O r f)).2 h1;by_cases A:i<l.length
  .rw[Y9 (by rw[he.1];exact A)]at hi;rw[Y9 A]at H;simp only[if_pos A];refine aq.ab (mO (he.2 i c a hi H)) N λr B h1 f=>?_;rcases h1 with h1|h1
   .exact y.top rfl i (f.1▸h1.1)
   .exact W r B h1 f
  .rw[X0 (by rw[he.1];omega),he.1]at hi;rw[X0 Ω]at H;simp only[if_neg A];refine aq.ab (mO (I.2 _ c a hi H)) N λr B h1 f=>?_;rcases h1 with h1|h1
   .exact (C r B (O r f)).1 _ h1.1
   .exact W r B h1 f
 .rw[r8,List.flatten_append];refine ph M ?_;rcases Q with h1|⟨rfl,f,_⟩|rfl
  .exact .inl h1
  .exact .inr (.inl (.inl f))
  .exact .inr (.inl (.inr (.inr (o4 _))))
 .rcases Q with h1|⟨rfl,f,_⟩|rfl
  .exact .inl h1
  .by_cases ad:p= .slice ν 0 0
   .exact .inl ad
   .rw[if_neg ad];exact .inr (.inl f)
  .split
   .exact .inr (.inr (.inr (o4 _)))
   .exact .inr (.inr (.inr (o4 _)))
 .rw[r8,List.flatten_append];by_cases ad:p= .slice ν 0 0
  .subst ad;obtain⟨q,⟨_,s⟩|⟨_,_,s,_⟩⟩:=M
   .exact⟨q,.inl ⟨rfl,s⟩⟩
   .cases s
  .rw[if_neg ad];exact M
theorem n0{F:p8}{b:Nat}{x:x1}{l:List α}{a:α}{A:ak}{K:x1->x3->Prop}(B:P.underlying t=σ (.slice e))(hi:aR P e (aq.n α) b z)(H:z.cells.size=aq.n α)(h:bG S R w [v] l)(J:ci w (aq.n α) x 1 cs)(I:bG A R w cs a)(C:∀r,r<w.heap.size->S r->¬(A r\/R r))(f:(l.length+1)*b<=140737488355328)(L:l.length+1<=9223372036854775807)(M:∀p w',bG (λr=>S r\/A r\/w.heap.size<=r) R w' [p] (l++[a])->ai S w w'->K p w'):aD P (Z2 #[t,t] F #[v,x]) w K:=by
 refine JI (l':=[a]) (us:=[cs]) (G:=λi r=>i=0/\A r) B B hi H h (by simpa using J) ⟨rfl,λi c b q f=>?_⟩ (λi j r N h1 s=>N (h1.1.trans s.1.symm)) (λr E U=>⟨λi h=>C r E U (.inl h.2),λh=>C r E U (.inr h)⟩) (by simpa using f) (by simpa using L)
  λp w' h1 s=>M p w' (aq.mono h1 (λr _ h=>h.imp id (Or.imp (λ⟨_,h⟩=>h.2) id)) λ_ _ h=>h) s
 have y:=(x4.1 q).1;have y:i=0:=by simpa using y
 subst y;simp at q f;subst q f;exact aq.mono I (λr _ h=>⟨rfl,h⟩) λ_ _ h=>h
end
theorem As:∀(c:List x1)(i:Nat)(z:Array x1),(i+c.length<=z.size)->((c.zipIdx i).foldl (λcs (x:x1×Nat)=>cs.setIfInBounds x.2 x.1) z).toList=z.toList.take i++c++z.toList.drop (i+c.length)
 |[],i,z,h=>Ξ
 |x::r,i,z,h=>by
  simp only[j9]at h;rw[List.zipIdx_cons,List.foldl_cons,As r (i+1) _ Θ];simp only[Array.toList_setIfInBounds,j9];rw[List.drop_set_of_lt Ω,List.take_set,u7,x6 Θ];simp only[o8];rw[T8 _ _ Θ];have e:i-(z.toList.take i).length=0:=Θ
  rw[e,show i+1+r.length=i+(r.length+1) by omega];simp
theorem Au{k:Nat}{z:Array x1}(a:z.size=k)(ad:v.cells.size=k):Instr.fill (λj=>σ (j*k,k)) z [(0,v)]=σ v.cells:=by
 have h:=As v.cells.toList 0 z Θ;simp only[Instr.fill,Nat.zero_mul,X8];rw[if_neg Θ];congr 1;apply Array.toList_inj.1;rw[<-Array.foldl_toList,Array.toList_zipIdx,h];simp;omega
section
variable{P:W8}{w:x3}{α β:Type}[aq α][aq β]{m:Bool}{S R:ak}
theorem kA{b:Nat}{x:x1}{a:α}{A:ak}{K:x1->x3->Prop}(B:P.underlying t=σ (.slice e))(hi:aR P e (aq.n α) b z)(L:aq.n α<=100000)(J:x.cells=cs.toArray)(q:bG A R w cs a)(C:∀v w',Ext w w'->bG (λr=>A r\/w.heap.size<=r) R w' [v] [a]->ci w' (aq.n α) v 1 cs->K v w'):aD P (Y3 t 1 #[(0,x)]) w K:=by
 have E:=aq.len q;refine kw B hi Ω (cs:=x.cells) (Au Ξ (by rw[J];simpa using E)) λg w' M s f=>?_;have f:af w' g e cs:=by rw[J]at f;simpa using f
 have hm:bX w' g e (aq.n α) (.slice (σ ⟨g,0,ν⟩) 1 1) 1 cs:=bX.full f Ω (by simp[maxLen]);refine C _ w' s ⟨_,rfl,[cs],g,λi r=>i=0/\A r/\r<w.heap.size,⟨λi r h=>.inl h.2.1,λ_ i h=>Ω,λ_ i j r F h1 G=>F (h1.1.trans G.1.symm)⟩,⟨rfl,λi c a' p y=>?_⟩,?_,λ_=>⟨.inr (.inr Ω),e,by simpa using hm⟩⟩ hm.sl
 .have H:i=0:=by simpa using(x4.1 p).1
  subst H;simp at p y;subst p y;exact b0 (aq.mono q (λr I h=>⟨rfl,h,I⟩) λ_ _ h=>h) s
 .have:=ph (S:=λr=>(A r\/w.heap.size<=r)\/R r) hm (.inr (.inl (.inr Ω)));simpa using this
end
theorem ce.range{B:x1->x3->(x1->x3->Prop)->Prop}(n:Nat)(I:Nat->x3->Prop)(q:n<=9223372036854775807)(e:I 0 w)(f:∀(i:Nat)(w:x3)(k:x1->x3->Prop),i<n->I i w->(∀w',I (i+1) w'->k (Δ (X9.wrap ((i:Int)+1))) w')->B (Δ (i:Int)) w k)(p:∀(w:x3)(k:x1->x3->Prop),I n w->B (Δ (n:Int)) w k):ce (Δ 0) w B:=by
 refine⟨λt w=>∃i:Nat,t=Δ (i:Int)/\i<=n/\I i w,λt _=>n-(bU t).toNat,⟨0,rfl,X6 _,e⟩,?_⟩;rintro _ w ⟨i,rfl,hi,h⟩;by_cases a:i<n
 .refine f i w _ a h λw' h'=>⟨⟨i+1,?_,a,h'⟩,?_⟩
  .rw[wrap_i64 Ω Ω];rfl
  .rw[wrap_i64 Ω Ω];simp only[bU];omega
 .have:i=n:=Ω
  subst this;exact p w _ h
theorem b5.range{a:x1}{B:x1->x1->x3->(x1->x1->x3->Prop)->Prop}(n:Nat)(I:Nat->x1->x3->Prop)(r:n<=9223372036854775807)(f:I 0 a w)(p:∀(i:Nat)(a:x1)(w:x3)(k:x1->x1->x3->Prop),i<n->I i a w->(∀a' w',I (i+1) a' w'->k a' (Δ (X9.wrap ((i:Int)+1))) w')->B a (Δ (i:Int)) w k)(q:∀(a:x1)(w:x3)(k:x1->x1->x3->Prop),I n a w->B a (Δ (n:Int)) w k):b5 a (Δ 0) w B:=by
 refine⟨λa t w=>∃i:Nat,t=Δ (i:Int)/\i<=n/\I i a w,λa t _=>n-(bU t).toNat,⟨0,rfl,X6 _,f⟩,?_⟩;rintro a _ w ⟨i,rfl,hi,h⟩;by_cases e:i<n
 .refine p i a w _ e h λa' w' h'=>⟨⟨i+1,?_,e,h'⟩,?_⟩
  .rw[wrap_i64 Ω Ω];rfl
  .rw[wrap_i64 Ω Ω];simp only[bU];omega
 .have:i=n:=Ω
  subst this;exact q a w _ h
theorem nE.range{a b:x1}{B:x1->x1->x1->x3->(x1->x1->x1->x3->Prop)->Prop}(n:Nat)(I:Nat->x1->x1->x3->Prop)(s:n<=9223372036854775807)(p:I 0 a b w)(q:∀(i:Nat)(a b:x1)(w:x3)(k:x1->x1->x1->x3->Prop),i<n->I i a b w->(∀a' e w',I (i+1) a' e w'->k a' e (Δ (X9.wrap ((i:Int)+1))) w')->B a b (Δ (i:Int)) w k)(r:∀(a b:x1)(w:x3)(k:x1->x1->x1->x3->Prop),I n a b w->B a b (Δ (n:Int)) w k):nE a b (Δ 0) w B:=by
 refine⟨λa b t w=>∃i:Nat,t=Δ (i:Int)/\i<=n/\I i a b w,λa b t _=>n-(bU t).toNat,⟨0,rfl,X6 _,p⟩,?_⟩;rintro a b _ w ⟨i,rfl,hi,h⟩;by_cases f:i<n
 .refine q i a b w _ f h λa' e w' h'=>⟨⟨i+1,?_,f,h'⟩,?_⟩
  .rw[wrap_i64 Ω Ω];rfl
  .rw[wrap_i64 Ω Ω];simp only[bU];omega
 .have:i=n:=Ω
  subst this;exact r a b w _ h
theorem se.range{a b c:x1}{B:x1->x1->x1->x1->x3->(x1->x1->x1->x1->x3->Prop)->Prop}(n:Nat)(I:Nat->x1->x1->x1->x3->Prop)(x:n<=9223372036854775807)(q:I 0 a b c w)(r:∀(i:Nat)(a b c:x1)(w:x3)(k:x1->x1->x1->x1->x3->Prop),i<n->I i a b c w->(∀a' e f w',I (i+1) a' e f w'->k a' e f (Δ (X9.wrap ((i:Int)+1))) w')->B a b c (Δ (i:Int)) w k)(s:∀(a b c:x1)(w:x3)(k:x1->x1->x1->x1->x3->Prop),I n a b c w->B a b c (Δ (n:Int)) w k):se a b c (Δ 0) w B:=by
 refine⟨λa b c t w=>∃i:Nat,t=Δ (i:Int)/\i<=n/\I i a b c w,λa b c t _=>n-(bU t).toNat,⟨0,rfl,X6 _,q⟩,?_⟩;rintro a b c _ w ⟨i,rfl,hi,h⟩;by_cases p:i<n
 .refine r i a b c w _ p h λa' e f w' h'=>⟨⟨i+1,?_,p,h'⟩,?_⟩
  .rw[wrap_i64 Ω Ω];rfl
  .rw[wrap_i64 Ω Ω];simp only[bU];omega
 .have:i=n:=Ω
  subst this;exact s a b c w _ h
theorem ql.range{a b c d:x1}{B:x1->x1->x1->x1->x1->x3->(x1->x1->x1->x1->x1->x3->Prop)->Prop}(n:Nat)(I:Nat->x1->x1->x1->x1->x3->Prop)(y:n<=9223372036854775807)(r:I 0 a b c d w)(s:∀(i:Nat)(a b c d:x1)(w:x3)(k:x1->x1->x1->x1->x1->x3->Prop),i<n->I i a b c d w->(∀a' e f p w',I (i+1) a' e f p w'->k a' e f p (Δ (X9.wrap ((i:Int)+1))) w')->B a b c d (Δ (i:Int)) w k)(x:∀(a b c d:x1)(w:x3)(k:x1->x1->x1->x1->x1->x3->Prop),I n a b c d w->B a b c d (Δ (n:Int)) w k):ql a b c d (Δ 0) w B:=by
 refine⟨λa b c d t w=>∃i:Nat,t=Δ (i:Int)/\i<=n/\I i a b c d w,λa b c d t _=>n-(bU t).toNat,⟨0,rfl,X6 _,r⟩,?_⟩;rintro a b c d _ w ⟨i,rfl,hi,h⟩;by_cases q:i<n
 .refine s i a b c d w _ q h λa' e f p w' h'=>⟨⟨i+1,?_,q,h'⟩,?_⟩
  .rw[wrap_i64 Ω Ω];rfl
  .rw[wrap_i64 Ω Ω];simp only[bU];omega
 .have:i=n:=Ω
  subst this;exact x a b c d w _ h
section
variable{P:W8}{w:x3}{m:Bool}{S R:ak}
theorem JJ(l:Λ):(l.map λx=>[V5 k x]).flatten=ints k l:=by
 induction l with
 |nil=>rfl
 |cons x l a=>simp only[T1,List.flatten_cons,a];rfl
theorem n1{g:Nat}(h:av .i64 e w g v l):bG (λr=>r=g) R w [v] l:=by
 have ag:(l.map λx=>[V5 .i64 x]).flatten=ints .i64 l:=JJ l;refine⟨v,rfl,l.map λx=>[Δ x],g,λ_ _=>False,⟨λ_ _ h=>h.elim,λ_ _ h=>h,λ_ _ _ _ _ h=>h.elim⟩,⟨Ξ,λi c a f p=>?_⟩,?_,λ_=>⟨.inr rfl,e,?_⟩⟩
 .rw[x8,p]at f;simp at f;exact f.symm
 .rw[ag];exact ph h (.inr (.inl rfl))
 .rw[ag];exact h
def mc.val(x:mc k):Int:=x
theorem Av(h:bG S R w [v] l):∃g e,av .i64 e w g v l/\(v= .slice ν 0 0\/S g):=by
 obtain⟨vs,g,F,_,he,U,hm⟩:=jo h;obtain⟨h1,e,a⟩:=hm rfl;rw[Ar he]at a;exact⟨g,e,a,h1⟩
end
end Go.Vc
namespace Go.Proofs.YtikkpokkcdocoabGreatDoor
open Go Go.Vc Go.RowKit Go.Proofs Go.Proofs.Tryz
set_option maxRecDepth 100000
def right(k:Int):Prop:=1<=k/\k<=2147483648
def cu(a k:Int):Prop:=right k/\0<=a/\a<=k
instance (k:Int):Decidable (right k):=by unfold right;infer_instance
instance (a k:Int):Decidable (cu a k):=by unfold cu;infer_instance
theorem Aw{k:Int}:am x7 IR [Δ k] w λv w'=>v= .bool (decide (right k))/\Ext w w':=by
 refine az func225 ?_;simp only[cz,cn,mL,al];refine⟨λh=>⟨?_,Ext.refl _⟩,λh=>⟨?_,Ext.refl _⟩⟩
 .congr 1;simp[right,h]
 .rw[decide_eq_false];intro a;exact h a.1
theorem jU{k:Int}:am x7 H3 [Δ a,Δ k] w λv w'=>v= .bool (decide (cu a k))/\Ext w w':=by
 refine az func152 ?_;simp only[cz];refine Aw.mono ?_;rintro _ V _ ⟨rfl,J⟩;simp only[cn,mL,al];refine⟨λh=>⟨λe=>⟨?_,J⟩,λe=>⟨?_,J⟩⟩,λh=>⟨?_,J⟩⟩
 .congr 1;simp[cu,h,e]
 .rw[decide_eq_false];intro f;exact e f.2.1
 .rw[decide_eq_false];intro f;exact h f.1
theorem JK{k:Int}:am x7 IJ [Δ k] w λv w'=>v= .bool (decide (right k))/\Ext w w':=by
 refine az func216 ?_;simp only[cz,bN,mL,al];refine⟨λh=>⟨?_,Ext.refl _⟩,λh=>⟨?_,Ext.refl _⟩⟩
 .congr 1;have h':1<=k:=Ω
  simp[right,h']
 .rw[decide_eq_false];intro a;have:=a.1;omega
theorem Ax{k:Int}:am x7 HO [Δ a,Δ k] w λv w'=>v= .bool (decide (cu a k))/\Ext w w':=by
 refine az func135 ?_;simp only[cz];refine JK.mono ?_;rintro _ V _ ⟨rfl,J⟩;simp only[cn,mL,al];refine⟨λh=>⟨λe=>⟨?_,J⟩,λe=>⟨?_,J⟩⟩,λh=>⟨?_,J⟩⟩
 .congr 1;simp[cu,h,e]
 .rw[decide_eq_false];intro f;exact e f.2.1
 .rw[decide_eq_false];intro f;exact h f.1
def aP:Λ->Int
 |[]=>1
 |x::r=>x*aP r
theorem Ay:∀(a b:Λ),aP (a++b)=aP a*aP b
 |[],b=>by simp[aP]
 |x::a,b=>by simp[aP,Ay a b,Int.mul_assoc]
theorem sS{i:Nat}{x:Int}(h:l[i]?=σ x):aP (l.take (i+1))=aP (l.take i)*x:=by
 rw[u7,h,Ay];simp[aP]
def b3(l:Λ):Prop:=l.length<=6/\∀x∈l,1<=x/\x<=32
theorem b3.take(h:b3 l)(i:Nat):b3 (l.take i):=⟨by rw[n9];have:=h.1;omega,λx J=>h.2 x (S0 J)⟩
theorem b3.drop(h:b3 l)(i:Nat):b3 (l.drop i):=⟨by rw[List.length_drop];have:=h.1;omega,λx J=>h.2 x (List.mem_of_mem_drop J)⟩
theorem mR:∀(l:Λ),(∀x∈l,1<=x/\x<=32)->1<=aP l/\aP l<=32 ^ l.length
 |[],_=>by simp[aP]
 |x::r,h=>by
  obtain⟨h1,a⟩:=mR r λy e=>h y (.tail _ e);obtain⟨f,p⟩:=h x (.head _);simp only[aP,j9];constructor
  .have:=Int.mul_le_mul f h1 Ω Ω;simpa using this
  .have:=Int.mul_le_mul p a Ω Ω;rw[Int.pow_succ];rw[Int.mul_comm (32 ^ r.length) 32];exact this
theorem prod_bound(h:b3 l):1<=aP l/\aP l<=1073741824:=by
 obtain⟨h1,a⟩:=mR l h.2;refine⟨h1,Int.le_trans a ?_⟩;have:(32:Int) ^ l.length<=32 ^ 6:=by
  have e:=h.1
  match l.length,e with
  |0,_=>decide
  |1,_=>decide
  |2,_=>decide
  |3,_=>decide
  |4,_=>decide
  |5,_=>decide
  |6,_=>decide
 simpa using this
def cJ:Λ->Λ->Int->Option Int
 |[],[],n=>σ n
 |k::s,v::t,n=>if 0<=v/\v<k then cJ s t (n*k+v)else ν
 |_,_,_=>ν
theorem vU:∀(s t:Λ)(n:Int),s.length≠t.length->cJ s t n=ν
 |[],[],_,h=>absurd rfl h
 |[],_::_,_,_=>rfl
 |_::_,[],_,_=>rfl
 |k::s,v::t,n,h=>by
  unfold cJ;split
  .exact vU s t _ (by simpa using h)
  .rfl
def cQ:Λ->Int->Λ
 |[],_=>[]
 |k::s,n=>(n / aP s) % k::cQ s n
theorem jr:∀(s:Λ)(n:Int),(cQ s n).length=s.length
 |[],_=>rfl
 |_::s,n=>by simp[cQ,jr s n]
theorem Az:∀{s:Λ}{n:Int}{i:Nat}{k:Int},s[i]?=σ k->(cQ s n)[i]?=σ ((n / aP (s.drop (i+1))) % k)
 |a::s,n,0,k,h=>by simp at h;subst h;simp[cQ]
 |a::s,n,i+1,k,h=>by
  simp only[List.getElem?_cons_succ]at h;simp only[cQ,List.getElem?_cons_succ,List.drop_succ_cons];exact Az h
theorem n2:∀{s t:Λ}{m n:Int},(∀x∈s,1<=x/\x<=32)->cJ s t m=σ n->m*aP s<=n/\n<(m+1)*aP s
 |[],[],m,n,_,h=>by simp[cJ]at h;subst h;simp[aP];omega
 |k::s,v::t,m,n,U,h=>by
  unfold cJ at h;split at h
  .rename_i ad;have a:=n2 (λx J=>U x (.tail _ J)) h;have p:=(mR s λx J=>U x (.tail _ J)).1;simp only[aP];have e:m*(k*aP s)=m*k*aP s:=(Int.mul_assoc _ _ _).symm;have f:(m+1)*(k*aP s)=(m*k+k)*aP s:=by rw[<-Int.mul_assoc,Int.add_mul,Int.one_mul]
   rw[e,f];constructor
   .refine Int.le_trans ?_ a.1;exact Int.mul_le_mul_of_nonneg_right Ω Ω
   .refine Int.lt_of_lt_of_le a.2 ?_;exact Int.mul_le_mul_of_nonneg_right Ω Ω
  .cases h
 |[],_::_,_,_,_,h=>by cases h
 |_::_,[],_,_,_,h=>by cases h
def bj:Λ->List (Λ)
 |[]=>[[]]
 |k::s=>(X3 k.toNat).flatMap λ(v:Nat)=>(bj s).map λt=>(v:Int)::t
theorem iK:∀{s:Λ},(∀x∈s,1<=x/\x<=32)->(bj s).length=(aP s).toNat
 |[],_=>rfl
 |k::s,h=>by
  have a:=iK (s:=s) λx J=>h x (.tail _ J);have hk:=h k (.head _);have e:=(mR s λx J=>h x (.tail _ J)).1;simp only[bj,aP,List.length_flatMap,u9,a];rw[List.map_const',List.length_range,List.sum_replicate_nat,Int.toNat_mul Ω Ω]
theorem sT:∀{s x:Λ},x∈bj s->x.length=s.length
 |[],x,h=>by simp[bj]at h;subst h;rfl
 |k::s,x,h=>by
  simp only[bj,R2,j5]at h;obtain⟨v,_,t,a,rfl⟩:=h;simp[sT a]
theorem vV{s x:Λ}(h:(bj s)[j]?=σ x):x.length=s.length:=sT (x5 h)
theorem pi(h:aH .i64 w sv l)(U:b3 l):
  am x7 Hx [.agg #[sv]] w λv w'=>v=Δ (aP l)/\Ext w w':=by
 refine az func100 ?_;refine bf λg w0 r e f=>?_;rw[aM bz.p 0 f rfl,aW an.u (h.ext e)];refine⟨λn t V=>Ext w V/\∃i:Nat,t=Δ i/\i<=l.length/\n=Δ (aP (l.take i)),λ_ t _=>l.length-(bU t).toNat,⟨e,0,rfl,X6 _,rfl⟩,?_⟩;rintro _ _ V ⟨J,i,rfl,hi,rfl⟩;have s:=U.1;simp only[aS,al];refine⟨λy=>?_,λz=>⟨?_,J⟩⟩
 .obtain⟨x,a⟩:=aI (l:=l) (i:=i) Ω;rw[bh an.u ah.i Ψ (h.ext J) a];have q:=prod_bound (U.take (i+1));rw[sS a]at q;simp only[hS,aO];rw[wrap_i64 Ω Ω,wrap_i64 Ω Ω,<-sS a];refine⟨⟨J,i+1,rfl,Ω,rfl⟩,?_⟩;simp only[bU];omega
 .have:i=l.length:=Ω
  rw[this,o7]
theorem JL{i:Nat}(h:aH .i64 w sv l)(U:b3 l)(hi:i<l.length):
  am x7 Ih [.agg #[sv],Δ i] w λv w'=>v=Δ (aP (l.drop (i+1)))/\Ext w w':=by
 have C:=U.1;refine az func177 ?_;refine bf λg w0 E f r=>?_;have a:=h.ext f;simp only[cz,aS,al];refine⟨λG=>Ω,λ_=>?_⟩;rw[aM bz.p 0 r rfl,aW an.u a];simp only[cn,al];refine⟨λH=>Ω,λ_=>?_⟩;rw[aM bz.p 0 r rfl];simp only[aO];have s:X9.wrap ((i:Int)+1)=((i+1:Nat):Int):=by rw[wrap_i64 Ω Ω];omega
 rw[s];have y:=a;obtain⟨_,b,o,base,cap,rfl,I,J,K,L⟩:=id a;rw[gW an.u ah.i (l:=i+1) (h:=l.length) (m:=cap) pf jl fc Ω Ω Ω];have e:=ci.part (l:=i+1) (h:=l.length) (m:=cap) y Ω Ω Ω Ω;generalize z:(x1.slice (if cap=i+1 then base else V7 (λx=>x.add ((i+1)*1)) base) (l.length-(i+1)) (cap-(i+1)))=q at e ⊢;have A:((ints .i64 l).drop ((i+1)*1)).take ((l.length-(i+1))*1)=ints .i64 (l.drop (i+1)):=by
  rw[j6 Ξ,U7,ints,<-List.map_drop]
 rw[A]at e;rw[cZ (cs:=#[q]) (by subst z;kernel_rfl)];refine(pi (aH.of e) (U.drop (i+1))).mono ?_;rintro _ aa _ ⟨rfl,B⟩;exact⟨rfl,f.trans B⟩
def lg(s t:Λ):x1:=match cJ s t 0 with
 |some n=>.tuple #[Δ n,Δ 0]
 |none=>.tuple #[Δ 0,Δ 3]
theorem AA{s t:Λ}(h:aH .i64 w sv s)(q:aH .i64 w aL t)(U:b3 s):
  am x7 Ii [.agg #[sv],aL] w λv w'=>v=lg s t/\Ext w w':=by
 have H:=U.1;refine az func178 ?_;refine bf λg w0 I a r=>?_;rw[aW an.u (q.ext a),aM bz.p 0 r rfl,aW an.u (h.ext a)];simp only[bD,al];refine⟨λK=>⟨?_,a⟩,λz=>?_⟩
 .unfold lg;rw[vU _ _ _ Ω]
 .have z:s.length=t.length:=Ω
  rw[aW an.u (q.ext a)];refine⟨λ_ _ n c V=>Ext w0 V/\∃(i:Nat)(m:Int),c=Δ i/\i<=t.length/\n=Δ m/\0<=m/\m<aP (s.take i)/\cJ s t 0=cJ (s.drop i) (t.drop i) m,λ_ _ _ c _=>t.length-(bU c).toNat,
   ⟨Ext.refl _,0,0,rfl,X6 _,rfl,Int.le_refl _,by simp[aP],rfl⟩,?_⟩
  rintro _ _ _ _ V ⟨f,i,m,rfl,hi,rfl,A,L,e⟩;have J:=a.trans f;simp only[aS,al];refine⟨λM=>?_,λN=>⟨?_,J⟩⟩
  .obtain⟨v,ad,B⟩:∃v,t[i]?=σ v/\t.drop i=v::t.drop (i+1):=⟨t[i],x6 Ω,W3 Ω⟩;obtain⟨k,hk,C⟩:∃k,s[i]?=σ k/\s.drop i=k::s.drop (i+1):=⟨s[i],x6 Ω,W3 Ω⟩;rw[B,C]at e;have E:=prod_bound (U.take (i+1));have O:=prod_bound (U.take i);have P:=U.2 k (x5 hk);rw[sS hk]at E;have y:¬(0<=v/\v<k)->lg s t= .tuple #[Δ 0,Δ 3]:=λG=>by unfold lg;rw[e];simp[cJ,G]
   rw[bh an.u ah.i Ψ (q.ext J) ad];simp only[cz,aS,al,bT];refine⟨λQ=>⟨(y Ω).symm,J⟩,λR=>?_⟩;rw[aM bz.p 0 (r.ext f) rfl,bh an.u ah.i Ψ (h.ext J) hk];simp only[cn,al];refine⟨λS=>⟨(y Ω).symm,J⟩,λW=>?_⟩;rw[aM bz.p 0 (r.ext f) rfl,bh an.u ah.i Ψ (h.ext J) hk];have X:0<=m*k/\m*k+k<=aP (s.take i)*k:=by
    constructor
    .exact Int.mul_nonneg A Ω
    .have:=Int.mul_le_mul_of_nonneg_right (show m+1<=aP (s.take i) by omega) (show 0<=k by omega);rw[Int.add_mul,Int.one_mul]at this;exact this
   simp only[hS,aO];rw[wrap_i64 (x:=m*k) Ω Ω,wrap_i64 (x:=m*k+v) Ω Ω,wrap_i64 (x:=(i:Int)+1) Ω Ω];refine⟨⟨f,i+1,m*k+v,rfl,Ω,rfl,Ω,by rw[sS hk];omega,?_⟩,?_⟩
   .rw[e];simp[cJ,show 0<=v/\v<k from⟨Ω,Ω⟩]
   .simp only[bU];omega
  .have:i=t.length:=Ω
   rw[this,List.drop_of_length_le Ω,List.drop_of_length_le Ω]at e;unfold lg;rw[e];rfl
theorem JM{e:Nat}{a b:Λ}(h1:ci w 1 s1 e (ints .i64 a))(A:ci w 1 z h (ints .i64 b)):
  am x7 zT [s1,z] w λv w'=>v= .bool (decide (a=b))/\Ext w w':=by
 have P:a.length=e:=by simpa using h1.1
 have Q:b.length=h:=by simpa using A.1
 have B:=h1.le;obtain⟨_,R,S,U,W,rfl,X,Y,G,H⟩:=h1;obtain⟨_,Z,ab,ac,ad,rfl,ae,af,I,K⟩:=A;refine az func195 ?_;simp only[hr an.u,bD,al];refine⟨λC=>⟨?_,Ext.refl _⟩,λE=>?_⟩
 .rw[decide_eq_false];rintro rfl;omega
 .have E:e=h:=Ω
  refine⟨λt4 p V=>Ext w V/\∃i:Nat,p=Δ i/\i<=e/\a.take i=b.take i,λ_ p _=>e-(bU p).toNat,⟨Ext.refl _,0,rfl,X6 _,rfl⟩,?_⟩;rintro t4 _ V ⟨J,i,rfl,hi,q⟩;simp only[aS,al,er];refine⟨λr aa L _ _=>?_,λag=>⟨?_,J⟩⟩
  .have r:i<e:=Ω
   have J:=J.trans L;obtain⟨x,s⟩:=aI (l:=a) (i:=i) Ω;obtain⟨y,f⟩:=aI (l:=b) (i:=i) Ω;have M:=iH J (H i _ (lf s));have N:=iH J (K i _ (lf f));rw[fb an.u ah.i r G,U7,aw Ψ M,fb an.u ah.i (E▸r) I,U7,aw Ψ N];simp only[bD,al,aO];refine⟨λC=>⟨?_,J⟩,λai=>⟨⟨J,i+1,?_,Ω,vS q s f Ω⟩,?_⟩⟩
   .rw[decide_eq_false];rintro rfl;rw[s]at f;cases f;exact C rfl
   .rw[wrap_i64 Ω (by simp only[maxLen]at B;omega)];rfl
   .rw[wrap_i64 Ω (by simp only[maxLen]at B;omega)];simp only[bU];omega
  .have O:i=e:=Ω
   subst O;rw[decide_eq_true];rw[j6 Ω,j6 Ω]at q;exact q
theorem JN{s:x1}{a:Λ}(h1:ci w 1 s n (ints .i64 a))(B:n<=1000000):
  am x7 zP [s] w λv w'=>Ext w w'/\∃g,w.heap.size<=g/\bX w' g ah 1 v n (ints .i64 a):=by
 have f:=h1;obtain⟨p,C,E,G,H,rfl,I,K,q,L⟩:=h1;refine az func159 ?_;simp only[pe an.u,bZ];refine⟨λe=>⟨Ext.refl _,w.heap.size,o4 _,?_⟩,λ_=>?_⟩
 .have:n=0:=by
   rcases Q2 n with h|h
   .exact h
   .rw[q h]at e;cases e
  subst this;have:ints .i64 a=[]:=c8 (by simpa using p);rw[this];exact bX.nil _ _ _ _
 .refine kw an.u ah.i Ω (cs:=#[]) Ψ ?_;intro g V M J x;refine nX (g:=g) an.u an.u ah.i rfl (bX.full x rfl Ω) (f.ext J) (qA _ _) Ω (by simp only[maxLen];omega) ?_;intro N y aa O z A;refine⟨J.then A (by rintro r P rfl;omega),y,?_,?_⟩
  .have:=J.size;omega
  .simpa using z
theorem JO{e:Nat}{a b:Λ}(h1:ci w 1 s1 e (ints .i64 a))(A:ci w 1 z h (ints .i64 b)):
  am x7 zy [s1,z] w λv w'=>v= .bool (decide (a=b))/\Ext w w':=by
 have P:a.length=e:=by simpa using h1.1
 have Q:b.length=h:=by simpa using A.1
 have B:=h1.le;obtain⟨_,R,S,U,W,rfl,X,Y,G,H⟩:=h1;obtain⟨_,Z,ab,ac,ad,rfl,ae,af,I,K⟩:=A;refine az func17 ?_;simp only[hr ay.u,bD,al];refine⟨λC=>⟨?_,Ext.refl _⟩,λE=>?_⟩
 .rw[decide_eq_false];rintro rfl;omega
 .have E:e=h:=Ω
  refine⟨λt4 p V=>Ext w V/\∃i:Nat,p=Δ i/\i<=e/\a.take i=b.take i,λ_ p _=>e-(bU p).toNat,⟨Ext.refl _,0,rfl,X6 _,rfl⟩,?_⟩;rintro t4 _ V ⟨J,i,rfl,hi,q⟩;simp only[aS,al,er];refine⟨λr aa L _ _=>?_,λag=>⟨?_,J⟩⟩
  .have r:i<e:=Ω
   have J:=J.trans L;obtain⟨x,s⟩:=aI (l:=a) (i:=i) Ω;obtain⟨y,f⟩:=aI (l:=b) (i:=i) Ω;have M:=iH J (H i _ (lf s));have N:=iH J (K i _ (lf f));rw[fb ay.u ao.i r G,U7,aw Ψ M,fb ay.u ao.i (E▸r) I,U7,aw Ψ N];simp only[bD,al,aO];refine⟨λC=>⟨?_,J⟩,λah=>⟨⟨J,i+1,?_,Ω,vS q s f Ω⟩,?_⟩⟩
   .rw[decide_eq_false];rintro rfl;rw[s]at f;cases f;exact C rfl
   .rw[wrap_i64 Ω (by simp only[maxLen]at B;omega)];rfl
   .rw[wrap_i64 Ω (by simp only[maxLen]at B;omega)];simp only[bU];omega
  .have O:i=e:=Ω
   subst O;rw[decide_eq_true];rw[j6 Ω,j6 Ω]at q;exact q
theorem JP{s:x1}{a:Λ}(h1:ci w 1 s n (ints .i64 a))(B:n<=1000000):
  am x7 zV [s] w λv w'=>Ext w w'/\∃g,w.heap.size<=g/\bX w' g ao 1 v n (ints .i64 a):=by
 have f:=h1;obtain⟨p,C,E,G,H,rfl,I,K,q,L⟩:=h1;refine az func208 ?_;simp only[pe ay.u,bZ];refine⟨λe=>⟨Ext.refl _,w.heap.size,o4 _,?_⟩,λ_=>?_⟩
 .have:n=0:=by
   rcases Q2 n with h|h
   .exact h
   .rw[q h]at e;cases e
  subst this;have:ints .i64 a=[]:=c8 (by simpa using p);rw[this];exact bX.nil _ _ _ _
 .refine kw ay.u ao.i Ω (cs:=#[]) Ψ ?_;intro g V M J x;refine nX (g:=g) ay.u ay.u ao.i rfl (bX.full x rfl Ω) (f.ext J) (qA _ _) Ω (by simp only[maxLen];omega) ?_;intro N y aa O z A;refine⟨J.then A (by rintro r P rfl;omega),y,?_,?_⟩
  .have:=J.size;omega
  .simpa using z
theorem JQ{e:x1}{a b:Λ}(h1:aH .i64 w s1 a)(f:aH .i64 w e b):
  am x7 zT [s1,e] w λv w'=>v= .bool (decide (a=b))/\Ext w w':=JM h1 f
theorem kB{s:x1}{a:Λ}(h1:aH .i64 w s a)(e:a.length<=1000000):
  am x7 zP [s] w λv w'=>Ext w w'/\∃g,w.heap.size<=g/\av .i64 ah w' g v a:=JN h1 e
theorem AB{e:x1}{a b:Λ}(h1:aH .i64 w s1 a)(f:aH .i64 w e b):
  am x7 zy [s1,e] w λv w'=>v= .bool (decide (a=b))/\Ext w w':=JO h1 f
theorem vW{s:x1}{a:Λ}(h1:aH .i64 w s a)(e:a.length<=1000000):
  am x7 zV [s] w λv w'=>Ext w w'/\∃g,w.heap.size<=g/\av .i64 ao w' g v a:=JP h1 e
theorem JR{n:Int}(h:aH .i64 w sv l)(U:b3 l)(y:0<=n)(X:n<aP l):
  am x7 Hy [.agg #[sv],Δ n] w λv w'=>Ext w w'/\∃aL g,v= .tuple #[aL,Δ 0]/\w.heap.size<=g/\av .i64 ah w' g aL (cQ l n):=by
 have Y:=U.1;have Z:=prod_bound U;refine az func101 ?_;refine bf λg w0 ab z a=>?_;have ac:=h.cells;simp only[cz,aS,al];refine⟨λad=>Ω,λ_=>?_⟩;rw[bK bz.p bz.i rfl a.range];refine(pi (h.ext z) U).mono ?_;rintro _ V _ ⟨rfl,f⟩;simp only[cn,al];refine⟨λae=>Ω,λ_=>?_⟩;have q:=z.trans f;rw[aM bz.p 0 (a.ext f) rfl,aW an.u (h.ext q)];refine jS an.u ah.i Ω Ω ?_;intro G aa ag A K;simp only[hr an.u];have L:=q.trans A;have s0:=z.size;have s1:=f.size;have ai:=a.lt;refine⟨λt s=>Ext w s/\Ext w0 s/\∃i:Nat,t=Δ i/\i<=l.length/\af s G ah (ints .i64 ((cQ l n).take i++p9 (l.length-i) 0)),λt _=>l.length-(bU t).toNat,
  ⟨L,f.trans A,0,rfl,X6 _,by simpa using K⟩,?_⟩
 rintro _ s ⟨B,C,i,rfl,hi,H⟩;simp only[aS,al];refine⟨λE=>?_,λaj=>?_⟩
 .have E:i<l.length:=Ω
  rw[bK bz.p bz.i rfl (a.ext C).range];refine(JL (h.ext B) U E).mono ?_;rintro _ ak _ ⟨rfl,M⟩;simp only[er];intro ao N _ _;have x:=M.trans N;have I:=B.trans x;obtain⟨k,hk⟩:∃k,l[i]?=σ k:=⟨l[i],x6 Ω⟩;have ap:=U.2 k (x5 hk);have aq:=prod_bound (U.drop (i+1));have O:0<=n / aP (l.drop (i+1)):=Int.ediv_nonneg y Ω;have au:n / aP (l.drop (i+1))<=n:=Int.ediv_le_self _ y;rw[sL Ω,Int.tdiv_eq_ediv_of_nonneg y,wrap_i64 Ω Ω,
   aM bz.p 0 ((a.ext C).ext x) rfl,bh an.u ah.i Ψ (h.ext I) hk,
   sM Ω,Int.tmod_eq_emod_of_nonneg O,fb an.u ah.i E (λ_=>rfl),U7]
  refine bl ah.i rfl rfl (H.ext x) (by simp[jr];omega) ?_;intro aw J ax P;simp only[aO];rw[wrap_i64 Ω Ω];have ay:=A.size;have aA:=q.size;refine⟨⟨I.then J (by rintro r Q rfl;omega),(C.trans x).then J (by rintro r Q rfl;omega),i+1,rfl,Ω,?_⟩,?_⟩
  .have R:=Az (n:=n) hk;have e:(ints .i64 ((cQ l n).take i++p9 (l.length-i) 0)).set (0+i) (Δ (n / aP (l.drop (i+1)) % k))=ints .i64 ((cQ l n).take (i+1)++p9 (l.length-(i+1)) 0):=by
    have S:((cQ l n).take i).length=i:=by rw[n9,jr];omega
    rw[X8,ints,<-U9];congr 1;rw[List.set_append,if_neg Ω,S,U8,show l.length-i=(l.length-(i+1))+1 by omega,List.replicate_succ,List.set_cons_zero,u7,R];simp
   rw[<-e];exact P
  .simp only[bU];omega
 .have W:i=l.length:=Ω
  subst W;refine⟨B,_,G,rfl,by have:=q.size;omega,av.of (n:=l.length) (bX.full ?_ (by simp[ints,jr]) (by simp[maxLen];omega))⟩;have e:(cQ l n).take l.length++p9 (l.length-l.length) 0=cQ l n:=by rw[U8,j6 (by rw[jr];omega)];simp
  rw[<-e];exact H
def ih(x:Int):Prop:=1<=x/\x<=32
instance (x:Int):Decidable (ih x):=by unfold ih;infer_instance
theorem JS{x:Int}:am x7 sF [Δ x] w λv w'=>v= .bool (decide (¬ih x))/\Ext w w':=by
 refine az func290 ?_;simp only[cz,aS,bN,al];refine⟨λh=>⟨?_,Ext.refl _⟩,λh=>⟨?_,Ext.refl _⟩⟩
 .rw[decide_eq_true];intro a;have:=a.1;omega
 .congr 1;have:(32<x)=(¬ih x):=propext ⟨λe a=>by have:=a.2;omega,λe=>by
   by_cases f:32<x
   .exact f
   .exact absurd ⟨Ω,Ω⟩ e⟩
  simp only[this]
theorem JT(h:aH .i64 w sv l):
  am x7 vG [sv,.func (.func sF) #[] #[]] w λv w'=>Ext w w'/\∃n:Int,v=Δ n/\((0<=n)=¬∀x∈l,ih x):=by
 have z:=h.le;refine az func133 ?_;rw[aW an.u h];refine⟨λ_ t V=>Ext w V/\∃i:Nat,t=Δ i/\i<=l.length/\∀x∈l.take i,ih x,λ_ t _=>l.length-(bU t).toNat,⟨Ext.refl _,0,rfl,X6 _,Ξ⟩,?_⟩;rintro _ _ V ⟨J,i,rfl,hi,e⟩;simp only[aS,al];refine⟨λA=>?_,λB=>⟨J,-1,rfl,?_⟩⟩
 .obtain⟨x,f⟩:=aI (l:=l) (i:=i) Ω;rw[bh an.u ah.i Ψ (h.ext J) f];show am x7 sF [Δ x] V _;refine JS.mono ?_;rintro _ aa _ ⟨rfl,p⟩;simp only[al,aO];refine⟨λq=>⟨J.trans p,i,rfl,?_⟩,λr=>?_⟩
  .exact propext ⟨λ_ s=>q (s x (x5 f)),λ_=>Ω⟩
  .rw[wrap_i64 Ω Ω];refine⟨⟨J.trans p,i+1,rfl,Ω,λy a=>?_⟩,?_⟩
   .rw[u7,f]at a;rcases o5.1 a with a|a
    .exact e y a
    .simp at a;subst a;exact Y0.1 r
   .simp only[bU];omega
 .have:i=l.length:=Ω
  rw[this,o7]at e;exact propext ⟨λh=>Ω,λh=>absurd e h⟩
theorem JU(h:aH .i64 w sv l):
  am x7 vJ [sv,.func (.func sF) #[] #[]] w λv w'=>v= .bool (decide (¬∀x∈l,ih x))/\Ext w w':=by
 refine az func235 ?_;refine(JT h).mono ?_;rintro _ V _ ⟨J,n,rfl,a⟩;simp only[cn];exact⟨by congr 1;simp only[a],J⟩
def JV(w:x3)(l:Λ)(v:x1)(w':x3):Prop:=
 Ext w w'/\
   (¬b3 l->v= .tuple #[.agg #[.slice ν 0 0],Δ 1])/\
   (b3 l->4096<aP l->v= .tuple #[.agg #[.slice ν 0 0],Δ 5])/\
   (b3 l->aP l<=4096->∃g aL,v= .tuple #[.agg #[aL],Δ 0]/\w.heap.size<=g/\av .i64 ah w' g aL l)
theorem JW(h:aH .i64 w sv l):am x7 I6 [sv] w (JV w l):=by
 refine az func257 ?_;refine bo bz.i λY V aw a s=>?_;have ax:=s.lt;refine aV (λv aa=>Ext w aa/\Ext V aa/\∃c:Bool,v= .bool c/\((c=true)=¬b3 l)) ?_ ?_
 .rintro _ aa ⟨J,x,c,rfl,H⟩;simp only[bZ];refine⟨λZ=>?_,λag=>?_⟩
  .have I:¬b3 l:=by rw[<-H];exact Z
   rw[cZ (cs:=#[.slice ν 0 0]) Ψ];refine cb (vs:=[.slice ν 0 0]) bz.i rfl rfl (by simp;rfl) (s.ext x) ?_;intro ay ac aA ad;rw[fO bz.p bz.i rfl ad.range];exact⟨J.then ac (by rintro r y rfl;omega),λ_=>rfl,λh=>absurd h I,λh=>absurd h I⟩
  .have e:b3 l:=by
    have K:¬(c=true):=by simp[ag]
    rw[H]at K;exact Classical.not_not.1 K
   have aC:=e.1;refine(kB (h.ext J) Ω).mono ?_;rintro aL L _ ⟨z,M,aD,hm⟩;have N:=hm.ls.cells;rw[cZ (cs:=#[aL]) (by obtain⟨_,_,_,_,_,rfl,_⟩:=hm.ls;kernel_rfl)];refine bo bz.i λgs aE aF A ae=>?_;refine cb (vs:=[aL]) bz.i rfl rfl (by intro u hu;simp at hu;subst hu;exact N.2) ae ?_;intro B O aG P;rw[bK bz.p bz.i rfl P.range];have aI:=z.size;have aJ:=A.size;have aK:=x.size;have aM:ai (λr=>r=gs) L B:=(A.ab _).trans O;have C:Ext L B:=A.then O (by rintro r y rfl;omega);have aj:=(J.trans z).trans C;have Q:av .i64 ah B M aL l:=hm.ext C;refine(pi Q.ls e).mono ?_;rintro _ ak _ ⟨rfl,f⟩;have R:=aj.trans f;have S:af ak Y bz [.slice ν 0 0]:=s.ext (((x.trans z).trans C).trans f);simp only[bN,al];refine⟨λao=>?_,λap=>?_⟩
   .rw[cZ (cs:=#[.slice ν 0 0]) Ψ];refine cb (vs:=[.slice ν 0 0]) bz.i rfl rfl (by simp;rfl) S ?_;intro aq q au E;rw[fO bz.p bz.i rfl E.range];exact⟨R.then q (by rintro r y rfl;omega),λh=>absurd e h,λ_ _=>rfl,λ_ h=>Ω⟩
   .rw[bK bz.p bz.i rfl (P.ext f).range];refine cb (vs:=[aL]) bz.i rfl rfl (by intro u hu;simp at hu;subst hu;exact N.2) S ?_;intro aq q au E;rw[fO bz.p bz.i rfl E.range];have aN:=a.size;exact⟨R.then q (by rintro r y rfl;omega),λh=>absurd e h,λ_ h=>Ω,λ_ _=>⟨M,aL,rfl,Ω,(Q.ext f).ab q Ω⟩⟩
 .intro aB W;rw[aW an.u (h.ext a)];simp only[bN,al];refine⟨λao=>W _ _ ⟨a,Ext.refl _,true,rfl,?_⟩,λap=>?_⟩
  .exact propext ⟨λ_ U=>by have:=U.1;omega,λ_=>rfl⟩
  .refine (JU (h.ext a)).mono ?_;rintro _ aa _ ⟨rfl,X⟩;refine W _ _ ⟨a.trans X,X,_,rfl,?_⟩;rw[decide_eq_true_eq];exact propext ⟨λG U=>G U.2,λG U=>G ⟨Ω,U⟩⟩
theorem vX{P:W8}(f:0<=a)(h1:a<4294967296):
  ac P (aN .and t cx cy (.int .u64 a) (.int .u64 4294967295)) w K=K (.int .u64 a):=ac.of λw' _=>by
 obtain⟨n,rfl⟩:=U2 f;have r:n<4294967296:=Ω
 have e:(T4 64 (n:Int) &&& T4 64 4294967295).toNat=n:=by
  rw[BitVec.toNat_and,BitVec.toNat_ofInt,BitVec.toNat_ofInt];have h:((n:Int) % ((2 ^ 64:Nat):Int)).toNat=n:=Ω
  have p:((4294967295:Int) % ((2 ^ 64:Nat):Int)).toNat=2 ^ 32-1:=Φ
  rw[h,p,Nat.and_two_pow_sub_one_eq_mod];omega
 have q:(T4 T0.bits (n:Int) &&& T4 T0.bits 4294967295).toNat=n:=e;simp only[aN,eqGuard,binOp,Op.intBits,q];rw[wrap_u64 Ω Ω];rfl
theorem qD{P:W8}(f:0<=a)(h1:a<4294967296):
  ac P (aN .shr t cx cy (.int .u64 a) (.int .u64 32)) w K=K (.int .u64 0):=ac.of λw' _=>by
 have e:a.fdiv (2 ^ min 32 T0.bits)=0:=by
  have:(2:Int) ^ min 32 T0.bits=4294967296:=rfl;rw[this,Int.fdiv_eq_ediv_of_nonneg _ Ω];omega
 simp[aN,eqGuard,binOp,Op.shift,e]
theorem JX{x:Int}(J:0<=x/\x<65536)(e:0<=y/\y<65536):
  am x7 Jn [.int .u64 x,.int .u64 y] w λv w'=>v= .tuple #[.int .u64 0,.int .u64 (x*y)]/\Ext w w':=by
 have h:0<=x*y/\x*y<4294967296:=⟨Int.mul_nonneg J.1 e.1,by
  have:x*y<=65535*65535:=Int.mul_le_mul Ω Ω e.1 Ω;omega⟩
 refine az func291 ?_;refine am.mono (K:=λv w'=>v= .tuple #[.int .u64 0,.int .u64 (x*y)]/\Ext w w') ?_ ?_
 .refine az func304 ?_;rw[vX Ω Ω,qD Ω Ω,vX Ω Ω,qD Ω Ω];simp only[hS,Int.zero_mul,Int.mul_zero];rw[wrap_u64 (x:=x*y) Ω Ω,show T0.wrap 0=0 from rfl,qD (a:=x*y) Ω Ω];simp only[aO,Int.add_zero];rw[show T0.wrap 0=0 from rfl,vX Ω Ω,qD Ω Ω];simp only[hS,aO,Int.zero_mul,Int.mul_zero,Int.add_zero,show T0.wrap 0=0 from rfl];rw[qD Ω Ω];simp only[hS,aO,Int.add_zero,show T0.wrap 0=0 from rfl];exact⟨trivial,Ext.refl _⟩
 .rintro _ V _ ⟨rfl,f⟩;rw[bq,br];exact⟨rfl,f⟩
theorem AC{fd:x1}{c:Int}(h:aH .i64 w fd [c])(X:n<65536):
  am x7 I7 [fd,Δ n] w λv w'=>Ext w w'/\∃g,w.heap.size<=g/\av .i64 ao w' g v (p9 n c):=by
 refine az func258 ?_;refine c5 (λV=>w=V) ?_ ?_
 .rintro _ rfl;rw[aW ay.u h,fm ah.u pb.u,fm ah.u pb.u,wrap_u64 Ξ Ξ,wrap_u64 Ω Ω];refine(JX (x:=([c].length:Int)) Ξ Ω).mono ?_;rintro _ aa _ ⟨rfl,z⟩;rw[bq,br];have E:(([c].length:Int)*n)=(n:Int):=Ξ
  rw[E];refine c5 (λa=>aa=a) ?_ ?_
  .rintro _ rfl;rw[fm pb.u ah.u,wrap_i64 Ω Ω];refine jS ay.u ao.i Ω Ω ?_;intro g Y Z G H;have J:=z.trans G;have ab:=z.size;refine Am ay.u ao.i H (o:=0) (λ_=>rfl) Ξ (h.ext J) (qA _ _) ?_;intro ac I ad A;have K:=J.then I (by rintro r L rfl;omega);have st:over (ints .i64 (p9 n 0)) 0 ((ints .i64 [c]).take n)=ints .i64 (p9 (min 1 n) c++p9 (n-min 1 n) 0):=by
    rcases Q2 n with rfl|e
    .simp[over]
    .rw[j6 Θ,mN Θ];have:min 1 n=1:=Ω
     simp[this,ints]
   rw[st]at A;refine⟨λt f=>Ext w f/\∃i:Nat,t=Δ i/\i<=n/\(0<n->0<i)/\af f g ao (ints .i64 (p9 i c++p9 (n-i) 0)),λt _=>n-(bU t).toNat,
    ⟨K,min 1 n,Ξ,Ω,Ω,A⟩,?_⟩
   rintro _ f ⟨p,i,rfl,hi,ae,q⟩;simp only[hr ay.u,aS,al,er];refine⟨λM N s _ _=>?_,λag=>?_⟩
   .have M:i<n:=Ω
    have B:=q.ext s;rw[gW ay.u ao.i (l:=i) (h:=n) (m:=n) pf jl fc Ω Ω Ω,
     gW ay.u ao.i (l:=0) (h:=i) (m:=n) jk pg fc Ω Ω Ω]
    have O:ci N 1 (.slice (σ ⟨g,0,ν⟩) n n) n (ints .i64 (p9 i c++p9 (n-i) 0)):=(bX.full B (by simp<;>omega) (by simp[maxLen]<;>omega)).sl;have e:=O.part (l:=0) (h:=i) (m:=n) Ω Ω Ω Ω;have P:((ints .i64 (p9 i c++p9 (n-i) 0)).drop (0*1)).take ((i-0)*1)=ints .i64 (p9 i c):=by
     simp[ints]
    rw[P]at e;refine Am ay.u ao.i B (o:=i) (λ_=>?_) (by simp<;>omega) e (qA _ _) ?_
    .rw[if_neg Ω];simp[T3]
    .intro ai Q aj C;have ak:=p.size;have an:=s.size;have R:over (ints .i64 (p9 i c++p9 (n-i) 0)) i ((ints .i64 (p9 i c)).take (n-i))=ints .i64 (p9 (i+min i (n-i)) c++p9 (n-(i+min i (n-i))) 0):=by
      apply Y5;intro j;rw[mM _ _ _ (by simp[ints]<;>omega)];simp only[ints,Z3,List.map_replicate,List.getElem?_append,List.getElem?_take,List.getElem?_replicate,n9,List.length_replicate]
      repeat' split
      all_goals first|rfl|omega
     rw[R]at C;have S:min (i-0) (n-i)=min i (n-i):=Ω
     simp only[aO,S];have U:X9.wrap ((i:Int)+((min i (n-i):Nat):Int))=((i+min i (n-i):Nat):Int):=by rw[wrap_i64 Ω Ω];omega
     rw[U];refine⟨⟨(p.trans s).then Q (by rintro r L rfl;omega),_,rfl,Ω,Ω,C⟩,?_⟩;simp only[bU,r9];omega
   .have:i=n:=Ω
    subst this;rw[U8,List.replicate_zero,X5]at q;exact⟨p,g,Ω,av.of (n:=i) (bX.full q Ξ (by simp[maxLen];omega))⟩
  .intro aB y;refine aV (λv a=>v= .bool false/\aa=a) ?_ ?_
   .rintro _ _ ⟨rfl,rfl⟩;rw[a1];exact y _ rfl
   .intro ap W;simp only[bN,al];refine⟨λh=>Ω,λ_=>W _ _ ⟨?_,rfl⟩⟩;rw[decide_eq_false];omega
 .intro aB y;simp only[aS,al];exact⟨λh=>Ω,λ_=>y _ rfl⟩
def leads(v:x1)(r:Nat):Prop:=∃a n c,v= .slice (σ a) n c/\a.block=r
theorem bQ{g:Nat}(h:av k e w g v l){r:Nat}(f:leads v r):r=g/\g<w.heap.size:=by
 obtain⟨a,n,c,rfl,rfl⟩:=f;obtain⟨_,⟨h,_⟩|⟨cap,cs,h,p,_⟩⟩:=h
 .cases h
 .cases h;exact⟨rfl,p.lt⟩
theorem bt{g:Nat}(h:av k e w g v l)(J:ai S w w')(a:∀r,leads v r->¬S r):av k e w' g v l:=by
 refine⟨h.1,h.2.imp id λ⟨cap,cs,h1,f,p⟩=>⟨cap,cs,h1,f.ab J (a g ⟨_,_,_,h1,rfl⟩),p⟩⟩
def df(w:x3)(g a:Nat)(sv:x1)(aj:Λ)(k:Int)(cs:Λ):Prop:=
 (∃a6 gs,af w g cY [sv,Δ k,a6]/\av .i64 ah w gs sv aj/\av .i64 ao w a a6 cs)/\(g≠a/\¬leads sv a/\aP aj<=4096)/\b3 aj/\cs.length=(aP aj).toNat
theorem df.ext{g a:Nat}{k:Int}{cs:Λ}(h:df w g a sv aj k cs)(J:Ext w w'):df w' g a sv aj k cs:=by
 obtain⟨⟨a6,gs,h1,e,f⟩,p⟩:=h;exact⟨⟨a6,gs,h1.ext J,e.ext J,f.ext J⟩,p⟩
def AD(w:x3)(l:Λ)(k a:Int)(v:x1)(w':x3):Prop:=
 Ext w w'/\
  (¬b3 l->v= .tuple #[.pointer ν,Δ 1])/\
  (b3 l->4096<aP l->v= .tuple #[.pointer ν,Δ 5])/\
  (b3 l->aP l<=4096->¬cu a k->v= .tuple #[.pointer ν,Δ 3])/\
  (b3 l->aP l<=4096->cu a k->∃g e sv,v= .tuple #[Γ g,Δ 0]/\w.heap.size<=g/\w.heap.size<=e/\(∀r,leads sv r->w.heap.size<=r)/\
   df w' g e sv l k (p9 (aP l).toNat a))
theorem vY{k B:Int}(h:aH .i64 w sv l):am x7 IA [sv,Δ k,Δ B] w (AD w l k B):=by
 refine az func205 ?_;refine(JW h).mono ?_;rintro v V _ ⟨K,Y,Z,ab⟩;obtain⟨aL,e,rfl,ad,he⟩:∃(aL:x1)(e:Int),v= .tuple #[.agg #[aL],Δ e]/\aL.oneCell'=true/\
   ((e=1/\¬b3 l)\/(e=5/\b3 l/\4096<aP l)\/(e=0/\b3 l/\aP l<=4096/\∃g,w.heap.size<=g/\av .i64 ah V g aL l)):=by
  by_cases U:b3 l
  .by_cases A:aP l<=4096
   .obtain⟨g,aL,rfl,h1,L⟩:=ab U A;exact⟨aL,0,rfl,L.ls.cells.2,.inr (.inr ⟨rfl,U,A,g,h1,L⟩)⟩
   .exact⟨_,_,Z U Ω,rfl,.inr (.inl ⟨rfl,U,Ω⟩)⟩
  .exact⟨_,_,Y U,rfl,.inl ⟨rfl,U⟩⟩
 rw[bq,br];refine bo bz.i λaO aa aQ ae af=>?_;refine cb (vs:=[aL]) bz.i rfl rfl (by intro u hu;simp at hu;subst hu;exact ad) af ?_;intro ai aj aR ak;have M:Ext V ai:=ae.then aj (by rintro r q rfl;omega);have N:=K.trans M;simp only[bD,al];refine⟨λan=>⟨N,?_⟩,λaS=>?_⟩
 .rcases he with⟨rfl,C⟩|⟨rfl,U,A⟩|⟨rfl,_⟩
  .exact⟨λ_=>rfl,λh=>absurd h C,λh=>absurd h C,λh=>absurd h C⟩
  .exact⟨λh=>absurd U h,λ_ _=>rfl,λ_ h=>Ω,λ_ h=>Ω⟩
  .exact absurd rfl an
 .obtain⟨rfl,U,A,gs,aT,hm⟩:e=0/\b3 l/\aP l<=4096/\∃g,w.heap.size<=g/\av .i64 ah V g aL l:=by
   rcases he with⟨rfl,C⟩|⟨rfl,U,A⟩|h
   .omega
   .omega
   .exact h
  have aU:=prod_bound U;refine jU.mono ?_;rintro _ aV _ ⟨rfl,G⟩;have O:=N.trans G;simp only[bE,bZ];refine⟨λag=>⟨O,λh=>absurd U h,λ_ h=>Ω,λ_ _ _=>rfl,λ_ _ h=>by simp[h]at ag⟩,λaq=>?_⟩;have au:cu B k:=by simpa using aq
  simp only[cz,er];intro P H _ _;have aw:=O.trans H;have E:=(M.trans G).trans H;have Q:=(ak.ext G).ext H;rw[bK bz.p bz.i rfl Q.range,bK bz.p bz.i rfl Q.range];have s1:=K.size;have aW:=E.size;have R:((aP l).toNat:Int)=aP l:=Ω
  have S:∀{y:x3}{x:x1}{z:Nat},Ext P y->P.heap.size<=z->av .i64 ao y z x (p9 (aP l).toNat B)->
    ac x7 (Instr.build cY #[(0,.agg #[aL]),(1,Δ k),(2,x)]) y λax=>aD x7 (Instr.box cY ax) y λaA W=>AD w l k B (.tuple #[aA,Δ 0]) W:=by
   intro y x z s X q;rw[cZ (cs:=#[aL,Δ k,x]) (by
    obtain⟨_,_,_,_,_,rfl,_⟩:=q.ls;obtain⟨_,_,_,_,_,rfl,_⟩:=hm.ls;kernel_rfl)]
   refine bf λg W aX I aB=>?_;have aY:=s.size;have aC:leads x z:=by
    obtain⟨aZ,⟨_,aE⟩|⟨cap,cs,rfl,_⟩⟩:=q
    .simp at aE;omega
    .exact⟨_,_,_,rfl,rfl⟩
   have a1:=(bQ q aC).2;refine⟨(aw.trans s).trans I,λh=>absurd U h,λ_ h=>Ω,λ_ _ h=>absurd au h,λ_ _ _=>⟨g,z,aL,rfl,Ω,Ω,λr aF=>?_,⟨x,gs,aB,((hm.ext E).ext s).ext I,q.ext I⟩,⟨Ω,λaG=>?_,A⟩,U,Ξ⟩⟩
   .have:=(bQ hm aF).1;omega
   .have:=bQ hm aG;omega
  constructor
  .refine ee ay.u ao.i rfl λfd ap aI aJ a J=>⟨.inl a,?_⟩;refine(pi ((hm.ext E).ext a).ls U).mono ?_;rintro _ aK _ ⟨rfl,f⟩;refine⟨.inl (a.trans f),?_⟩;rw[<-R];refine(AC (J.ext f).ls Ω).mono ?_;rintro x y _ ⟨s,z,X,q⟩;have aM:=a.size;have aN:=f.size;exact⟨.inl ((a.trans f).trans s),S ((a.trans f).trans s) Ω q⟩
  .refine (pi (hm.ext E).ls U).mono ?_;rintro _ aI _ ⟨rfl,a⟩;refine⟨.inl a,?_⟩;refine ee ay.u ao.i rfl λfd ap aK aJ f J=>⟨.inl (a.trans f),?_⟩;rw[<-R];refine(AC J.ls Ω).mono ?_;rintro x y _ ⟨s,z,X,q⟩;have aM:=a.size;have aN:=f.size;exact⟨.inl ((a.trans f).trans s),S ((a.trans f).trans s) Ω q⟩
theorem n3{g:Nat}{a:List x1}{o:Nat}(h:af w g e cs)(f:∀j v,a[j]?=σ v->cs[o+j]?=σ v):w.rangeAt g o a:=λj v ad=>h.cell (f j v ad)
theorem AE{g a:Nat}{t:Λ}{k:Int}{cs:Λ}(h:df w g a sv aj k cs)(e:aH .i64 w aL t):
  am x7 Jb [Γ g,aL] w λv w'=>v=lg aj t/\Ext w w':=by
 obtain⟨⟨a6,gs,f,hm,q⟩,_,U,_⟩:=h;refine az func263 ?_;rw[dc eQ.u];simp only[Z5,a1];rw[bV,aU cY.p rfl,bK (cs:=[sv]) bz.p bz.i rfl (n3 f (by
  intro j v ad
  match j,ad with
  |0,ad=>exact ad))]
 refine(AA hm.ls e U).mono ?_;rintro _ V _ ⟨rfl,J⟩;unfold lg;cases cJ aj t 0 with
 |none=>rw[bq,br];exact⟨rfl,J⟩
 |some n=>rw[bq,br];exact⟨rfl,J⟩
def pj(aj t cs:Λ):x1:=match cJ aj t 0 with
 |some n=>.tuple #[Δ (cs.getD n.toNat 0),Δ 0]
 |none=>.tuple #[Δ 0,Δ 3]
theorem AF{t cs:Λ}{n:Int}(U:b3 aj)(a:cs.length=(aP aj).toNat)(h:cJ aj t 0=σ n):n=(n.toNat:Int)/\n.toNat<cs.length:=by
 have:=n2 U.2 h;simp only[Int.zero_mul,Int.zero_add,Int.one_mul]at this;omega
theorem vZ{g e:Nat}{t:Λ}{k:Int}{cs:Λ}(h:df w g e sv aj k cs)(f:aH .i64 w aL t):
  am x7 I4 [Γ g,aL] w λv w'=>v=pj aj t cs/\Ext w w':=by
 refine az func250 ?_;refine(AE h f).mono ?_;rintro _ V _ ⟨rfl,J⟩;obtain⟨⟨a6,gs,q,hm,r⟩,_,U,s⟩:=h.ext J;unfold lg pj;cases hi:cJ aj t 0 with
 |none=>
  rw[bq,br];simp only[bD,al];exact⟨λ_=>⟨trivial,J⟩,λh=>by simp at h⟩
 |some n=>
  obtain⟨x,a⟩:=AF U s hi;rw[bq,br];simp only[bD,al];refine⟨λh=>absurd rfl h,λ_=>?_⟩;rw[aQ cY.p 2 q rfl,
   fN x ay.u ao.i Ψ r.ls (x6 a)]
  refine⟨?_,J⟩;rw[u4,x6 a];rfl
def sU(aj t:Λ)(k c:Int)(cs:Λ):Λ:=match cJ aj t 0 with
 |some n=>if cu c k then cs.set n.toNat c else cs
 |none=>cs
def AG(aj t:Λ)(k c:Int):Int:=match cJ aj t 0 with
 |some _=>if cu c k then 0 else 3
 |none=>3
theorem JY{g e:Nat}{t:Λ}{k c:Int}{cs:Λ}(h:df w g e sv aj k cs)(C:aH .i64 w aL t):
  am x7 IC [Γ g,aL,Δ c] w λv w'=>v=Δ (AG aj t k c)/\ai (λr=>r=e) w w'/\df w' g e sv aj k (sU aj t k c cs):=by
 refine az func207 ?_;refine(AE h C).mono ?_;rintro _ V _ ⟨rfl,J⟩;have h1:=h.ext J;obtain⟨⟨a6,gs,a,hm,f⟩,_,U,q⟩:=h1;unfold lg AG sU;cases hi:cJ aj t 0 with
 |none=>
  rw[bq,br];simp only[bD,al];exact⟨λ_=>⟨trivial,J.ab _,h.ext J⟩,λh=>by simp at h⟩
 |some n=>
  obtain⟨O,P⟩:=AF U q hi;rw[bq,br];simp only[bD,al];refine⟨λh=>absurd rfl h,λ_=>?_⟩;rw[aQ cY.p 1 a rfl];refine jU.mono ?_;rintro _ aa _ ⟨rfl,s⟩;have y:=(h.ext J).ext s;by_cases z:cu c k
  .simp only[z,decide_true,bE,Y7,a1,if_true];obtain⟨⟨a6,gs,a,hm,f⟩,⟨E,A⟩,U,q⟩:=y;have Q:=f;obtain⟨R,⟨rfl,S⟩|⟨cap,full,rfl,G,H,I,K,B⟩⟩:=f
   .omega
   .rw[aQ cY.p 2 a rfl,
     Aj (i:=n) ay.u ao.i Ω Ω (λ_=>rfl)]
    refine bl ao.i rfl rfl G Ω ?_;intro W x X L;refine⟨trivial,((J.trans s).ab _).trans x,⟨_,gs,a.ab x Ω,bt hm x (λr M N=>A.1 (N▸M)),?_⟩,⟨E,A⟩,U,by simp[q]⟩;refine⟨Ξ,.inr ⟨cap,full.set (0+n.toNat*1) (Δ c),?_,L,by simpa using H,I,by simpa using K,?_⟩⟩
    .simp
    .simp only[b8,X8,U7]at B ⊢;rw[List.take_set,B,ints,ints,U9]
  .simp only[z,decide_false,bE,V0,bT,if_false];exact⟨trivial,(J.trans s).ab _,y⟩
def cA(b:Int):Bool:=decide (b=32\/b=9\/b=10\/b=13)
def bO(b:Int):Bool:=decide (33<=b/\b<=126)
def n4:Nat->Λ->List (Λ)×Bool
 |0,_=>([],true)
 |n+1,p=>
  match p.dropWhile cA with
  |[]=>([],true)
  |b::q=>
   if bO b then
    match(b::q).dropWhile bO with
    |[]=>([(b::q).takeWhile bO],true)
    |c::r=>if cA c then(((b::q).takeWhile bO)::(n4 n (c::r)).1,(n4 n (c::r)).2)else([],false)
   else([],false)
def lex(p:Λ):List (Λ)×Bool:=n4 (p.length+1) p
theorem pk(f:Int->Bool):∀(l:Λ),(l.dropWhile f).length<=l.length
 |[]=>o4 _
 |x::l=>by
  rw[List.dropWhile_cons];split
  .exact Y8 (pk f l) (Nat.le_succ _)
  .exact o4 _
theorem sV{f:Int->Bool}{x:Int}(h:f x=true):((x::l).dropWhile f).length<=l.length:=by
 rw[List.dropWhile_cons,if_pos h];exact pk f l
theorem AH:∀{n m:Nat}{p:Λ},p.length<n->p.length<m->n4 n p=n4 m p
 |n+1,m+1,p,s,hm=>by
  unfold n4;have h1:=pk cA p;cases f:p.dropWhile cA with
  |nil=>rfl
  |cons b q=>
   rw[f]at h1;simp only;by_cases a:bO b=true
   .rw[if_pos a,if_pos a];have e:=sV (l:=q) a;cases h:(b::q).dropWhile bO with
    |nil=>rfl
    |cons c r=>
     rw[h]at e;simp only[j9]at h1 e;simp only;rw[AH (n:=n) (m:=m) (p:=c::r) (by rw[j9];omega) (by rw[j9];omega)]
   .rw[if_neg a,if_neg a]
theorem kC(p:Λ):lex p=match p.dropWhile cA with
  |[]=>([],true)
  |b::q=>
   if bO b then
    match(b::q).dropWhile bO with
    |[]=>([(b::q).takeWhile bO],true)
    |c::r=>if cA c then(((b::q).takeWhile bO)::(lex (c::r)).1,(lex (c::r)).2)else([],false)
   else([],false):=by
 unfold lex
 conv=>lhs;unfold n4
 have h1:=pk cA p;cases f:p.dropWhile cA with
 |nil=>rfl
 |cons b q=>
  rw[f]at h1;simp only;by_cases a:bO b=true
  .rw[if_pos a,if_pos a];have e:=sV (l:=q) a;cases h:(b::q).dropWhile bO with
   |nil=>rfl
   |cons c r=>
    rw[h]at e;simp only[j9]at h1 e;simp only;rw[AH (n:=p.length) (m:=(c::r).length+1) (p:=c::r) (by rw[j9];omega) Ω]
  .rw[if_neg a,if_neg a]
theorem pm:∀(n:Nat)(p:Λ),p.length<=n->(lex p).1.length<=p.length
 |n,p,w=>by
  rw[kC];have h1:=pk cA p;cases h:p.dropWhile cA with
  |nil=>simp
  |cons b q=>
   rw[h]at h1;simp only;by_cases a:bO b=true
   .rw[if_pos a];have e:=sV (l:=q) a;cases s:(b::q).dropWhile bO with
    |nil=>simp only[j9,List.length_nil]at h1 ⊢;omega
    |cons c r=>
     rw[s]at e;simp only[j9]at h1 e;simp only;by_cases f:cA c=true
     .rw[if_pos f]
      match n with
      |0=>omega
      |n+1=>
       have:=pm n (c::r) (by rw[j9];omega);simp only[j9]at this ⊢;omega
     .rw[if_neg f];simp
   .rw[if_neg a];simp
theorem sW:∀(n:Nat)(p:Λ),p.length<=n->∀w∈(lex p).1,w≠[]/\(∀b∈w,bO b=true)/\w.length<=p.length
 |n,p,B,w,hw=>by
  rw[kC]at hw;have h1:=pk cA p;cases e:p.dropWhile cA with
  |nil=>rw[e]at hw;simp at hw
  |cons b q=>
   rw[e]at h1 hw;simp only at hw;have A:(b::q).length<=p.length:=h1;by_cases a:bO b=true
   .rw[if_pos a]at hw;have f:=sV (l:=q) a;have s:(b::q).takeWhile bO≠[]/\(∀x∈(b::q).takeWhile bO,bO x=true)/\((b::q).takeWhile bO).length<=p.length:=
     ⟨by rw[List.takeWhile_cons,if_pos a];simp,λx J=>List.all_takeWhile (l:=b::q) (p:=bO) |> List.all_eq_true.1 |> λh=>h x J,Y8 (List.takeWhile_sublist _).length_le A⟩
    cases y:(b::q).dropWhile bO with
    |nil=>
     rw[y]at hw;simp only[l9]at hw;subst hw;exact s
    |cons c r=>
     rw[y]at f hw;simp only[j9]at h1 f;simp only at hw;by_cases z:cA c=true
     .rw[if_pos z]at hw;rcases V4.1 hw with rfl|hw
      .exact s
      .match n with
       |0=>omega
       |n+1=>
        have:=sW n (c::r) (by rw[j9];omega) w hw;exact⟨this.1,this.2.1,Y8 this.2.2 (by rw[j9];omega)⟩
     .rw[if_neg z]at hw;simp at hw
   .rw[if_neg a]at hw;simp at hw
def ax:Int:=4611686018427387904
def gw(b:Int):Bool:=decide (48<=b/\b<=57)
def e2(n b:Int):Int:=min ax (10*n+(b-48))
def kD:Λ->Option Int
 |[]=>ν
 |l=>if l.all gw then σ (l.foldl e2 0)else ν
def gx:Λ->Option Int
 |45::l=>(kD l).map λn=>-n
 |l=>kD l
theorem JZ{n b:Int}(e:0<=n)(a:gw b=true):0<=e2 n b/\e2 n b<=ax:=by
 have a:=of_decide_eq_true a;unfold e2 ax;omega
theorem sX:∀{l:Λ}{n:Int},l.all gw=true->0<=n/\n<=ax->0<=l.foldl e2 n/\l.foldl e2 n<=ax
 |[],n,_,a=>a
 |b::l,n,h,a=>by
  rw[List.all_cons,U1]at h;exact sX (l:=l) h.2 (JZ a.1 h.1)
structure aE where
 toks:List (Λ)
 told:Int
 big:Bool
 shared:List (Λ×List (Λ×Int))
deriving DecidableEq
def dI(s:aE):Option (Λ×aE):=match s.toks with
 |[]=>ν
 |w::l=>σ (w,{s with toks:=l})
def bd(lo hi:Int)(s:aE):Option (Int×aE):=match dI s with
 |none=>ν
 |some (w,s)=>match gx w with
  |none=>ν
  |some n=>if lo<=n/\n<=hi then σ (n,s)else ν
def a8(b:Bool)(s:aE):aE:={s with big:=s.big||b}
def cL{α:Type}(f:List α->aE->Option (α×aE)):Nat->List α->aE->Option (List α×aE)
 |0,acc,s=>σ (acc,s)
 |n+1,acc,s=>match f acc s with
  |none=>ν
  |some (a,s)=>cL f n (acc++[a]) s
def eR(n:Int)(a:Nat)(s:aE):Option (Λ×aE):=cL (λacc s=>match bd 0 (n-1) s with
 |none=>ν
 |some (v,s)=>if v∈acc then ν else σ (v,s)) a [] s
def iL:Λ->Λ->aE->Option (Λ×aE)
 |[],acc,s=>σ (acc,s)
 |k::l,acc,s=>match bd 0 (k-1) s with
  |none=>ν
  |some (v,s)=>iL l (acc++[v]) s
def dQ(sizes:Λ)(acc:List (Λ×Int))(s:aE):Option ((Λ×Int)×aE):=match iL sizes [] s with
 |none=>ν
 |some (t,s)=>match bd 0 ax s with
  |none=>ν
  |some (c,s)=>if t∈acc.map (·.1)then ν else σ ((t,c),s)
def dA(sizes:Λ)(s:aE):Option (List (Λ×Int)×aE):=match bd (-ax) ax s with
 |none=>ν
 |some (n,s)=>
  if n<0 then match s.shared[(-n-1).toNat]? with
   |none=>ν
   |some (z,l)=>if z=sizes then σ (l,s)else ν
  else cL (dQ sizes) n.toNat [] (a8 (decide (16384<min (s.told+n) ax)) {s with told:=min (s.told+n) ax})
def dk(sizes:Λ):Bool:=decide (4096<aP (sizes.map λk=>min k 4097))
structure ck where
 scope:Λ
 sizes:Λ
 other:Int
 lines:List (Λ×Int)
deriving DecidableEq
def c0(all:Λ)(s:aE):Option (ck×aE):=match bd (-ax) ax s with
 |none=>ν
 |some (a,s)=>match eR all.length a.natAbs s with
  |none=>ν
  |some (scope,s)=>
   let sizes:=scope.map λv=>all.getD v.toNat 0
   match bd 0 ax (a8 (decide (6<a.natAbs)||dk sizes) s)with
   |none=>ν
   |some (other,s)=>match dA sizes s with
    |none=>ν
    |some (lines,s)=>σ (⟨scope,sizes,other,lines⟩,if a<0 then{s with shared:=s.shared++[(sizes,lines)]}else s)
def fe(most:Int)(_:Λ)(s:aE):Option (Int×aE):=match bd 1 most s with
 |none=>ν
 |some (z,s)=>σ (z,a8 (decide (32<z)) s)
structure bY where
 name:Λ
 k:Int
 sizes:Λ
 funs:List ck
deriving DecidableEq
def gY(s:aE):Option (bY×aE):=match dI s with
 |none=>ν
 |some (name,s)=>match bd 1 ax (a8 (decide (64<name.length)) s)with
  |none=>ν
  |some (n,s)=>match bd 1 ax (a8 (decide (64<n)) s)with
   |none=>ν
   |some (most,s)=>match bd 0 ax s with
    |none=>ν
    |some (a,s)=>match bd 1 ax (a8 (decide (256<a)) s)with
     |none=>ν
     |some (k,s)=>match cL (fe most) n.toNat [] (a8 (decide (2147483648<k)) s)with
      |none=>ν
      |some (sizes,s)=>match cL (λ_ s=>c0 sizes s) a.toNat [] s with
       |none=>ν
       |some (funs,s)=>σ (⟨name,k,sizes,funs⟩,s)
def fp(p:Λ):Option bY:=if 65536<p.length then ν else match gY ⟨(lex p).1,0,false,[]⟩with
 |none=>ν
 |some (f,s)=>if s.toks=[]/\(lex p).2=true/\s.big=false then σ f else ν
def mS(n:Int)(a:Bool)(v:Int):Prop:=0<=n/\n<=4611686018427387909/\(a=true->v=ax)/\(a=false->v=min ax n)
theorem J0{n b v:Int}{a:Bool}(h:mS n a v)(r:48<=b/\b<=57):
  mS (if a=true\/461168601842738790<n then n else 10*n+(b-48)) (a||decide (461168601842738790<n)) (e2 v b):=by
 obtain⟨h1,f,p,q⟩:=h;unfold e2 mS ax at*;cases a with
 |true=>
  have:=p rfl;rw[if_pos (.inl rfl)];exact⟨h1,f,λ_=>Ω,λh=>by cases h⟩
 |false=>
  have:=q rfl;by_cases e:461168601842738790<n
  .rw[if_pos (.inr e),decide_eq_true e];exact⟨h1,f,λ_=>Ω,λh=>by cases h⟩
  .rw[if_neg (by simp[e]),decide_eq_false e];exact⟨Ω,Ω,(λh=>by cases h),λ_=>Ω⟩
theorem J1:mS 0 false 0:=by unfold mS ax;exact⟨Ω,Ω,(λh=>by cases h),λ_=>Ω⟩
theorem J2{n v:Int}{a:Bool}(h:mS n a v):v=if a=true\/4611686018427387904<n then 4611686018427387904 else n:=by
 obtain⟨h1,q,f,p⟩:=h;unfold ax at*;cases a with
 |true=>rw[if_pos (.inl rfl)];exact f rfl
 |false=>
  have:=p rfl;by_cases e:4611686018427387904<n
  .rw[if_pos (.inr e)];omega
  .rw[if_neg (by simp[e])];omega
structure Cell where
 v:Int
 st:Nat
structure lh where
 i:Nat
 c:Cell
structure sY where
 olds:Nat
 cells:Nat
 st:Nat
structure aC where
 cells:List Cell
 olds:List lh
 marks:List sY
 ii:Nat
def aC.bR(t:aC):Λ:=t.cells.map (·.v)
def aC.set(t:aC)(i:Nat)(x:Int):aC:=match t.cells[i]? with
 |none=>t
 |some c=>match t.marks.getLast? with
  |none=>{t with cells:=t.cells.set i ⟨x,c.st⟩}
  |some m=>if c.st<m.st/\i<m.cells then{t with olds:=t.olds++[⟨i,c⟩],cells:=t.cells.set i ⟨x,m.st⟩}else{t with cells:=t.cells.set i ⟨x,c.st⟩}
def aC.grow(t:aC)(n:Nat):aC:={t with cells:=t.cells++p9 n ⟨0,0⟩}
def back(os:List lh)(cs:List Cell):List Cell:=os.foldr (λo cs=>cs.set o.i o.c) cs
theorem qE:∀(os:List lh)(cs:List Cell),(back os cs).length=cs.length
 |[],_=>rfl
 |o::os,cs=>by
  have:=qE os cs;show((back os cs).set o.i o.c).length=_;rw[b8,this]
theorem back_append(a b:List lh)(cs:List Cell):back (a++b) cs=back a (back b cs):=by unfold back;rw[List.foldr_append]
theorem v7:∀{os:List lh}{cs:List Cell}{n:Nat},(back os cs).take n=back (os.filter λo=>decide (o.i<n)) (cs.take n)
 |[],cs,n=>rfl
 |o::os,cs,n=>by
  show((back os cs).set o.i o.c).take n=_;by_cases h:o.i<n
  .rw[List.filter_cons_of_pos (by simpa using h),List.take_set,v7];rfl
  .rw[List.filter_cons_of_neg (by simpa using h),List.take_set_of_le Ω,v7]
theorem AI{os:List lh}{cs:List Cell}(h:∀o∈os,o.i<n):(back os cs).take n=back os (cs.take n):=by
 rw[v7,List.filter_eq_self.2 λo a=>by simpa using h o a]
theorem AJ:∀{os:List lh}{cs a:List Cell}{i:Nat},cs.length=a.length->(∃o∈os,o.i=i)->(back os cs)[i]?=(back os a)[i]?
 |[],_,_,_,_,⟨_,h,_⟩=>by cases h
 |o::os,cs,a,i,e,hm=>by
  show((back os cs).set o.i o.c)[i]?=((back os a).set o.i o.c)[i]?;rw[X2,X2];by_cases h:o.i=i
  .rw[if_pos h,if_pos h,qE,qE,e]
  .rw[if_neg h,if_neg h];obtain⟨x,J,he⟩:=hm;rcases V4.1 J with rfl|J
   .exact absurd he h
   .exact AJ e ⟨x,J,he⟩
theorem AK:∀{os:List lh}{cs a:List Cell}{i:Nat},cs[i]?=a[i]? ->cs.length=a.length->(back os cs)[i]?=(back os a)[i]?
 |[],_,_,_,h,_=>h
 |o::os,cs,a,i,h,e=>by
  show((back os cs).set o.i o.c)[i]?=((back os a).set o.i o.c)[i]?;rw[X2,X2,qE,qE,e,AK h e]
def hv:aC->List aC->Prop
 |t,[]=>t.marks=[]/\t.olds=[]/\(∀c∈t.cells,c.st<=t.ii)/\t.ii<=1000000
 |t,s::h=>hv s h/\(∀c∈t.cells,c.st<=t.ii)/\∃m new,t.marks=s.marks++[m]/\m.olds=s.olds.length/\m.cells=s.cells.length/\t.olds=s.olds++new/\m.cells<=t.cells.length/\(back new t.cells).take m.cells=s.cells/\
   (∀c∈s.cells,c.st<m.st)/\(∀c∈t.cells,c.st<=m.st)/\(∀(i:Nat)c,i<m.cells->t.cells[i]?=σ c->c.st=m.st->∃o∈new,o.i=i)/\(∀o∈new,o.i<m.cells)/\m.st<=t.ii/\s.ii<=t.ii
theorem hv.grow{h:List aC}{t:aC}(hk:hv t h):hv (t.grow n) h:=by
 cases h with
 |nil=>
  refine⟨hk.1,hk.2.1,λc a=>?_,hk.2.2.2⟩;rcases o5.1 a with a|a
  .exact hk.2.2.1 c a
  .rw[(List.mem_replicate.1 a).2];exact X6 _
 |cons s h=>
  obtain⟨h1,p,m,new,q,r,a3,a4,a5,w,x,y,a9,e,z,A⟩:=hk;have f:∀{b:Nat},(∀c∈t.cells,c.st<=b)->∀c∈(t.grow n).cells,c.st<=b:=λB c a=>by
   rcases o5.1 a with a|a
   .exact B c a
   .rw[(List.mem_replicate.1 a).2];exact X6 _
  refine⟨h1,f p,m,new,q,r,a3,a4,by show m.cells<=(t.cells++_).length;rw[r8];omega,?_,x,f y,λi c hi a he=>?_,e,z,A⟩
  .show (back new (t.cells++_)).take m.cells=_;rw[AI e,List.take_append_of_le_length a5,<-AI e];exact w
  .have a:(t.cells++p9 n ⟨0,0⟩)[i]?=σ c:=a;rw[Y9 Ω]at a;exact a9 i c hi a he
theorem J3{s:aC}{m:sY}{l:List sY}(h:l=s.marks++[m]):l.getLast? =σ m:=by rw[h,List.getLast?_concat]
theorem hv.set{h:List aC}{t:aC}{i:Nat}{x:Int}(hk:hv t h):hv (t.set i x) h:=by
 unfold aC.set;cases q:t.cells[i]? with
 |none=>exact hk
 |some c=>
  have F:=(x4.1 q).1;have y:=x5 q;have r:∀{b st:Nat},(∀c∈t.cells,c.st<=b)->st<=b->∀d∈t.cells.set i ⟨x,st⟩,d.st<=b:=λM B d a=>by
   rcases W5 a with a|rfl
   .exact M d a
   .exact B
  cases h with
  |nil=>
   obtain⟨h1,w,G,N⟩:=hk;simp only[h1,List.getLast?_nil];exact⟨rfl,w,r G (G c y),N⟩
  |cons s h=>
   obtain⟨h1,w,m,new,C,H,a3,a4,a5,I,J,z,a9,K,E,L⟩:=hk;simp only[J3 C];by_cases A:c.st<m.st/\i<m.cells
   .rw[if_pos A];refine⟨h1,r w E,m,new++[⟨i,c⟩],C,H,a3,by show t.olds++_=_;rw[a4,Y6],by show m.cells<=(t.cells.set i _).length;rw[b8];exact a5,?_,J,r z (o4 _),λj d e a he=>?_,λo p=>?_,E,L⟩
    .show (back (new++[⟨i,c⟩]) (t.cells.set i _)).take m.cells=_;rw[back_append];have:back [⟨i,c⟩] (t.cells.set i ⟨x,m.st⟩)=t.cells:=by
      show(t.cells.set i _).set i c=_;rw[List.set_set];refine Y5 λj=>?_;rw[X2];by_cases e:i=j
      .subst e;rw[if_pos rfl,if_pos F,q]
      .rw[if_neg e]
     rw[this];exact I
    .have a:(t.cells.set i ⟨x,m.st⟩)[j]?=σ d:=a;by_cases f:i=j
     .exact⟨⟨i,c⟩,Ξ,f⟩
     .rw[X2,if_neg f]at a;obtain⟨o,p,he⟩:=a9 j d e a he;exact⟨o,List.mem_append_left _ p,he⟩
    .rcases o5.1 p with p|p
     .exact K o p
     .rw[l9.1 p];exact A.2
   .rw[if_neg A];refine⟨h1,r w (w c y),m,new,C,H,a3,a4,by show m.cells<=(t.cells.set i _).length;rw[b8];exact a5,?_,J,r z (z c y),λj d e a he=>?_,K,E,L⟩
    .rw[<-I];show(back new (t.cells.set i _)).take m.cells=_;refine Y5 λj=>?_;by_cases e:j<m.cells
     .rw[Z9 e,Z9 e];by_cases f:i=j
      .subst f;have B:c.st=m.st:=by
        have:=z c y;have:¬c.st<m.st:=λaA=>A ⟨aA,e⟩;omega
       exact AJ (by rw[b8]) (a9 i c e q B)
      .exact AK (by rw[X2,if_neg f]) (by rw[b8])
     .rw[Z4 (by rw[n9];omega),Z4 (by rw[n9];omega)]
    .have a:(t.cells.set i ⟨x,c.st⟩)[j]?=σ d:=a;by_cases f:i=j
     .subst f;rw[X2,if_pos rfl,if_pos F]at a;cases a;exact a9 i c e q he
     .rw[X2,if_neg f]at a;exact a9 j d e a he
theorem aC.qF{t:aC}{i:Nat}{x:Int}:(t.set i x).bR=t.bR.set i x:=by
 unfold aC.set aC.bR;cases a:t.cells[i]? with
 |none=>rw[List.set_eq_of_length_le (by rw[u9];exact List.getElem?_eq_none_iff.1 a)]
 |some c=>
  simp only;cases t.marks.getLast? with
  |none=>simp only;rw[U9]
  |some m=>simp only;split<;>rw[U9]
theorem aC.J4{t:aC}:(t.grow n).bR=t.bR++p9 n 0:=by
 unfold aC.grow aC.bR;rw[Z3,List.map_replicate]
end Go.Proofs.YtikkpokkcdocoabGreatDoor
namespace Go.Vc
open Go Go.RowKit
section
variable{P:W8}{w:x3}{m:Bool}{S R:ak}
theorem sZ{b k l:Nat}{low high:Option x1}(p:P.underlying t=σ (.slice e))(hi:aR P e k b z)(ad:ci w k v n cs)(h1:ma low l)(q:mb high n h)(a:l<=h)(aA:h<=n)(r:∀f,ci w k f (h-l) ((cs.drop (l*k)).take ((h-l)*k))->K f):
  ac P (U3 t v low high ν) w K:=by
 have s:=ad;obtain⟨_,x,o,base,cap,rfl,y,_⟩:=ad;rw[gW p hi h1 q fc a Ω (o4 _)];exact r _ (ci.part s a aA Ω (o4 _))
theorem J5{f:o6}{b i:Nat}(p:y=(i:Int))(q:P.underlying t=σ (.slice e))(hi:aR P e 1 b z)(h:aH k w v l)(r:i<=l.length)(s:∀a,aH k w a (l.drop i)->K a):ac P (U3 t v (σ (.int f y)) ν ν) w K:=by
 refine sZ q hi h (nT i y p) jl r (o4 _) λa h'=>s a (aH.of (n:=l.length-i) ?_);have x:((ints k l).drop (i*1)).take ((l.length-i)*1)=ints k (l.drop i):=by
  rw[j6 Ξ,U7,ints,<-List.map_drop]
 rw[x]at h';exact h'
theorem J6{f:o6}{b i:Nat}(p:y=(i:Int))(q:P.underlying t=σ (.slice e))(hi:aR P e 1 b z)(h:aH k w v l)(r:i<=l.length)(s:∀a,aH k w a (l.take i)->K a):ac P (U3 t v ν (σ (.int f y)) ν) w K:=by
 refine sZ q hi h jk (nU i y p) (X6 _) r λa h'=>s a (aH.of (n:=i) ?_);have x:((ints k l).drop (0*1)).take ((i-0)*1)=ints k (l.take i):=by
  simp[ints,List.map_take]
 rw[x]at h';exact h'
theorem pn{b:Nat}{parts:Array (Nat×x1)}{K:x1->x3->Prop}(a:P.underlying t=σ (.slice e))(hi:aR P e 1 b (Δ 0))(r:n<=100000)(f:l.length=n)(ag:Instr.fill (λj=>σ (j*1,1)) ((Array.range (n*1)).map ((if n*1=0 then#[]else(V5 .i64 0).cells)[·% (if n*1=0 then#[]else(V5 .i64 0).cells).size]!)) parts.toList=σ (ints .i64 l).toArray)(h:∀v g w',g=w.heap.size->Ext w w'->av .i64 e w' g v l->K v w'):aD P (Y3 t n parts) w K:=
 kw a hi Ω ag λg w' p J q=>h _ g w' p J (av.of (n:=n) (bX.full (by simpa using q) (by simp[f]) (by simp[maxLen];omega)))
end
section
variable{P:W8}{w:x3}
theorem J7{h p:p8}{q kn:o6}{b k cap:Nat}{base:Option Addr}{K:x1->x3->Prop}(x:y=(k:Int))(A:P.underlying t=σ (.slice e))(B:P.underlying h=σ (.int kn))(hi:aR P e 1 b z)(C:z.cells= #[z])(U:ci w 1 (.slice base n cap) n xs)(E:0<k)(r:cap<n+k)(F:(n+k)*b<=140737488355328)(G:n+k<=9223372036854775807)(H:∀v g w',g=w.heap.size->Ext w w'->bX w' g e 1 v (n+k) (xs++p9 k z)->K v w'):aD P (Z2 #[t,h] p #[.slice base n cap,.int q y]) w K:=by
 subst x;obtain⟨i,hi,I,rfl,J⟩:=hi;obtain⟨f,W,o,X,Y,he,L,Z,M,N⟩:=U;cases he;have O:(Z6.firstCells i.size n (.slice base n cap)).run P w.drew= .ok xs.toArray w.drew:=by
  rcases Q2 n with rfl|Q
  .have:xs=[]:=c8 (by simpa using f);subst this;cases base with
   |none=>exact run_firstCells_none w.drew i.size 0 0 cap
   |some a=>exact run_firstCells_some w.drew i.size 0 a 0 cap [] Ξ Ξ
  .have:=M Q;subst this;refine run_firstCells_some w.drew i.size n _ n cap xs (by rw[I];exact f) λj u hu=>?_;rw[T3];exact N j u hu
 have R:k*i.bytes<=281474976710656:=by
  have:k*i.bytes<=(n+k)*i.bytes:=X1 _ Ω;omega
 have S:=Lib.run_append_grow_zeros (P:=P) w t h p e i z q kn A B hi J base n cap xs O k E Ω r Ω R (growslice_fits r F);have T:n+k<=grownCap w (n+k) cap e:=grownCap_ge w _ _ _;have V:grownCap w (n+k) cap e<=maxLen:=grownCap_le_maxLen w (n+k) cap e (by simpa[maxLen]using G);have s:∀m,Z6.zeroCells z.cells m=(p9 m z).toArray:=λm=>by
  rw[C];apply Array.ext
  .simp[size_zeroCells]
  .intro j h1 L;simp[Z6.zeroCells,Nat.mod_one]
 refine .of S ((qe w _ (Nat.le_succ _)).trans (qg _ _)) (H _ w.heap.size _ rfl ((rZ w _).trans (qf _ _)) ⟨by simp at f;simp[f],.inr ⟨_,xs++p9 k z++p9 (grownCap w (n+k) cap e-(n+k)) z,rfl,?_,T,V,?_,?_⟩⟩)
 .rw[s,s];have:=heap_alloc_new w.drew (.cells (xs.toArray++(p9 k z).toArray++(p9 (grownCap w (n+k) cap e-(n+k)) z).toArray) e);rw[List.append_toArray,List.append_toArray]at this ⊢;exact this
 .simp at f;simp[f];omega
 .simp at f;rw[List.take_append_of_le_length (by simp[f]),j6 (by simp[f])]
theorem AL{a:p8}{base:Option Addr}(f:P.underlying t=σ (.slice e)):
  ac P (Z6.cap_ #[t] a #[.slice base n c]) w K=K (Δ c):=ac.of λw' _=>by simp[Z6.cap_,run_underlying f,goInt]
theorem J8{g o k:Nat}(h:af w g e cs)(hk:o+k<=cs.length)(a:k<=c)(f:c<=maxLen):ci w 1 (.slice (σ ⟨g,o,ν⟩) k c) k ((cs.drop o).take k):=by
 refine⟨Θ,g,o,_,c,rfl,a,f,λ_=>rfl,λj v ad=>?_⟩;have p:=(x4.1 ad).1;simp at p;rw[Z9 Ω,List.getElem?_drop]at ad;exact h.cell ad
theorem AM{h p:p8}{q g o cap:Nat}{K:x1->x3->Prop}(s:P.underlying t=σ (.slice e))(hi:aR P e 1 q z)(x:z.cells= #[z])(h1:z.oneCell'=true)(a:af w g p cs)(y:0<n)(F:o+n<=cs.length)(A:∀w',ai (λr=>r=g) w w'->w'.heap.size=w.heap.size->af w' g p (over cs o (p9 n z))->K (.tuple #[]) w'):aD P (Z6.clear_ #[t] h #[.slice (σ ⟨g,o,ν⟩) n cap]) w K:=by
 obtain⟨i,hi,G,rfl,B⟩:=hi;have C:=Lib.run_clear_slice (P:=P) w t e h z s (λw=>by simp[zeroValue,typeInfo,hi,B]) x h1 g o n cap y
  (λj H=>by rw[a.cell (x6 (show o+j<cs.length by omega))];rfl) (λj _=>a.frozen _ _)
 obtain⟨E,f⟩:=nV (p9 n z) cs o w a;exact .of C (f.cw a) (A _ f.ab f.size E)
end
section
variable{P:W8}{w:x3}
theorem hx{a:p8}{f:o6}{i b g:Nat}(p:y=(i:Int))(q:P.underlying t=σ (.slice e))(hi:aR P e 1 b z)(h:av k a w g v l)(r:i<l.length):ac P (c9 t v (.int f y)) w K=K (.pointer (σ ⟨g,i,ν⟩)):=by
 subst p;obtain⟨_,⟨_,s⟩|⟨cap,cs,rfl,_⟩⟩:=h
 .omega
 .rw[fb q hi r (λ_=>rfl)];simp
theorem po{a:o6}{i b:Nat}{x:Int}(f:y=(i:Int))(p:P.underlying t=σ (.slice e))(hi:aR P e 1 b z)(h:aH k w v l)(J:l[i]?=σ x)(q:∀b o,w.cell? ⟨b,o,ν⟩=σ (.int k x)->K (.pointer (σ ⟨b,o,ν⟩))):ac P (c9 t v (.int a y)) w K:=by
 subst f;have r:=(x4.1 J).1;obtain⟨_,_,_,_,_,rfl,_,_,s,A⟩:=h;rw[fb p hi r s,U7];exact q _ _ (A i _ (lf J))
theorem hy{a:p8}{i b g:Nat}{x:Int}{K:Unit->x3->Prop}(hi:aR P e 1 b z)(h:av k a w g v l)(F:i<l.length)(q:∀w',ai (λr=>r=g) w w'->w'.heap.size=w.heap.size->av k a w' g v (l.set i x)->K () w'):aD P (o9 e (.pointer (σ ⟨g,i,ν⟩)) (.int k x)) w K:=by
 obtain⟨G,⟨_,H⟩|⟨cap,full,rfl,s,y,A,f,p⟩⟩:=h
 .omega
 .have B:i<full.length:=by simp at f;omega
  refine bl hi rfl rfl s B λw' C U E=>q w' C U ⟨Ξ,.inr ⟨cap,full.set i (.int k x),Ξ,E,by simpa using y,A,by simpa using f,?_⟩⟩;simp only[b8,U7]at p ⊢;rw[List.take_set,p,ints,ints,U9]
theorem md{b o:Nat}(a:jR P t=true)(h:w.cell? ⟨b,o,ν⟩=σ v):cD P (u5 t (.pointer (σ ⟨b,o,ν⟩))) v w:=λw' J=>by
 have h':=iH J h;unfold jR at a;cases hu:P.underlying t with
 |none=>rw[hu]at a;cases a
 |some d=>
  rw[hu]at a;cases d<;>first|(cases a;done)|simp[u5,Instr.sureAddr,loadVar,isAgg,run_underlying hu,h']
theorem hT{S:ak}(h:aH k w v l)(J:ai S w w')(p:∀r,S r->∀a n c,v= .slice (σ a) n c->a.block≠r):aH k w' v l:=by
 obtain⟨h1,b,o,base,cap,rfl,q,s,e,x⟩:=h;refine⟨h1,b,o,base,cap,rfl,q,s,e,?_⟩;rcases Q2 l.length with f|f
 .intro j u hu;have:=(x4.1 hu).1;simp at this;omega
 .have y:=e f;subst y;exact iI J (λh=>p _ h _ _ _ rfl rfl) x
end
end Go.Vc
namespace Go.Vc
open Go Go.RowKit Go.ChangeShapes Go.WideShapes
structure mT(P:W8)(t:p8)(α:Type)[aq α](G:α->Prop):Prop where
 op:∀{H:Type}{enc:p8×x1->H}{w:x3}{base:Nat}{spare:Nat->Bool}{held:Bool}{fuel:Nat}{cs:List x1}{x:DataW H×List MemPlace},
  DataW.trod enc P w base spare held fuel t cs=σ x->∃a:α,Seen fo w cs a/\G a
section
variable{P:W8}{α β:Type}[aq α][aq β]
theorem AN{n:Int}(h:(Lit.int k n).wf=true):k.min<=n/\n<=k.max:=by simpa[Lit.wf]using h
theorem J9(a:P.underlying t=σ (.int k)):mT P t (mc k) λn=>k.min<=n.val/\n.val<=k.max:=⟨λh=>by
 obtain⟨n,rfl,_,hw⟩:=DataW.trod_int a h;exact⟨(n:Int),rfl,AN hw⟩⟩
theorem s3(a:P.underlying t=σ (.int .i64)):mT P t Int λn=>X9.min<=n/\n<=X9.max:=⟨λh=>by
 obtain⟨n,rfl,_,hw⟩:=DataW.trod_int a h;exact⟨n,rfl,AN hw⟩⟩
theorem Ka(a:Addr)(m n:Nat):(a.add m).add n=a.add (m+n):=by
 unfold Addr.add;by_cases hm:m=0<;>by_cases e:n=0<;>simp[hm,e,R5]
theorem Kb{base:Nat}{a:Addr}(h:w.cells? base a n=σ cs):cs.length=n/\∀j v,cs[j]?=σ v->w.cell? (a.add j)=σ v:=by
 unfold x3.cells? at h;split at h
 .have e:cs.length=n:=by
   have:=mapM_some_length h;simpa using this
  refine⟨e,λj v ad=>?_⟩;have f:=(x4.1 ad).1;have:=mapM_some_get h j j (List.getElem?_range Ω);rw[this,ad]
 .cases h
theorem Kc{G:α->Prop}(L:P.underlying t=σ (.slice e))(he:mT P e α G)(M:P.cellsOf e=aq.n α)(U:0<aq.n α):mT P t (List α) λl=>∀a∈l,G a:=by
 constructor;intro H enc w base spare held fuel cs x h;rcases DataW.trod_slice L h with⟨rfl,_⟩|⟨a,len,cap,V,rest,n,_,rfl,rfl,W,X,hm,Y,N,_,_⟩
 .exact⟨[],ht,λ_ h=>by cases h⟩
 .
  have J:∀i,i<len->∃(c:List x1)(y:α),c.length=aq.n α/\(∀j v,c[j]?=σ v->w.cell? (a.add (i*aq.n α+j))=σ v)/\Seen fo w c y/\G y:=by
   intro i hi;have h1:=N i hi;rw[x6 Ω,M,Option.bind_eq_some_iff]at h1;obtain⟨c,q,r⟩:=h1;obtain⟨A,B⟩:=Kb q;obtain⟨y,C,O⟩:=he.op r;exact⟨c,y,A,λj v ad=>by have:=B j v ad;rwa [Ka]at this,C,O⟩
  have all:∀m,m<=len->∃(vs:List (List x1))(l:List α),vs.length=m/\l.length=m/\(∀c∈vs,c.length=aq.n α)/\(∀(j:Nat)(v:x1),vs.flatten[j]?=σ v->w.cell? (a.add j)=σ v)/\
    (∀(i:Nat)(c:List x1)(y:α),vs[i]?=σ c->l[i]?=σ y->Seen fo w c y)/\∀y∈l,G y:=by
   intro m;induction m with
   |zero=>exact λ_=>⟨[],[],rfl,rfl,(λ_ h=>by cases h),(λj v h=>by simp at h),(λi c y h=>by simp at h),(λ_ h=>by cases h)⟩
   |succ m Q=>
    intro hm;obtain⟨vs,l,h1,q,r,A,B,C⟩:=Q Ω;obtain⟨c,y,g1,E,R,S⟩:=J m Ω;refine⟨vs++[c],l++[y],by simp[h1],by simp[q],λd f=>?_,λj v ad=>?_,λi d z f p=>?_,λz p=>?_⟩
    .rcases o5.1 f with f|f
     .exact r d f
     .simp at f;subst f;exact g1
    .have s:=ky r;rw[h1]at s;rw[List.flatten_append]at ad;by_cases T:j<m*aq.n α
     .rw[Y9 Ω]at ad;exact A j v ad
     .rw[X0 Ω,s]at ad;simp at ad;have:=E _ v ad;rwa [show m*aq.n α+(j-m*aq.n α)=j by omega]at this
    .by_cases hi:i<m
     .rw[Y9 Ω]at f p;exact B i d z f p
     .have F:=(x4.1 f).1;simp[h1]at F;have F:i=m:=Ω
      subst F;rw[X0 Ω,h1]at f;rw[X0 Ω,q]at p;simp at f p;subst f p;exact R
    .rcases o5.1 p with p|p
     .exact C z p
     .simp at p;subst p;exact S
  obtain⟨vs,l,h1,q,r,A,B,C⟩:=all len (o4 _);have s:=ky r;rw[h1]at s;have K:0<len->a=⟨a.block,a.off,ν⟩:=λI=>by
   obtain⟨c,y,g1,E,_⟩:=J 0 Ω;have:=E 0 c[0] (x6 Ω);rw[Nat.zero_mul]at this;exact vT this
  refine⟨l,⟨_,rfl,vs,0,λ_ _=>False,⟨λ_ _ h=>h.elim,(λh=>by cases h),(λh=>by cases h)⟩,⟨Ω,B⟩,⟨by rw[s,q],a.block,a.off,σ a,cap,by rw[q],Ω,hm,λI=>congrArg σ (K Ω),λ_=>.inr trivial,λj v ad=>?_⟩,λh=>by cases h⟩,C⟩;have:=A j v ad;have T:=(x4.1 ad).1;have I:0<len:=by
   rcases Q2 len with h|h
   .rw[h,Nat.zero_mul]at s;omega
   .exact h
  rw[K I,T3]at this;exact this
structure s4(P:W8)(fs:List Field)(off:Nat)(α:Type)[aq α](G:α->Prop):Prop where
 op:∀{H:Type}{enc:p8×x1->H}{w:x3}{base:Nat}{spare:Nat->Bool}{held:Bool}{n:Nat}{cs:List x1},cs.length=off+aq.n α->
  (∀f∈fs,∃x,DataW.trod enc P w base spare held n f.type ((cs.drop f.offset).take (P.cellsOf f.type))=σ x)->∃a:α,Seen fo w (cs.drop off) a/\G a
theorem Kd{f:Field}{G:α->Prop}(h:mT P f.type α G)(e:f.offset=off)(p:P.cellsOf f.type=aq.n α):s4 P [f] off α G:=by
 constructor;intro H enc w base spare held n cs r ag;obtain⟨x,J⟩:=ag f (.head _);obtain⟨a,h1,q⟩:=h.op J;rw[e,p,j6 Θ]at h1;exact⟨a,h1,q⟩
theorem s5{f:Field}{e:List Field}{G:α->Prop}{q:β->Prop}(h:mT P f.type α G)(r:f.offset=off)(s:P.cellsOf f.type=aq.n α)(y:s4 P e (off+aq.n α) β q):
  s4 P (f::e) off (α×β) λp=>G p.1/\q p.2:=by
 constructor;intro H enc w base spare held n cs E ag;obtain⟨x,J⟩:=ag f (.head _);obtain⟨a,h1,z⟩:=h.op J;rw[r,s]at h1;have F:aq.n (α×β)=aq.n α+aq.n β:=rfl;obtain⟨b,A,B⟩:=y.op Ω λg C=>ag g (.tail _ C);refine⟨(a,b),⟨(cs.drop off).take (aq.n α),cs.drop (off+aq.n α),λ_=>False,λ_=>False,?_,λ_ h=>h,λ_ h=>h,(λh=>by cases h),h1,A⟩,z,B⟩;rw[<-List.drop_drop,List.take_append_drop]
theorem Ke{a:List Field}{G:α->Prop}(e:P.underlying t=σ (.struct a.toArray))(ag:s4 P a 0 α G)(y:P.cellsOf t=aq.n α):mT P t α G:=by
 constructor;intro H enc w base spare held fuel cs x h;obtain⟨xs,n,_,rfl,z,p,q⟩:=DataW.trod_struct e h;have:=ag.op (enc:=enc) (w:=w) (base:=base) (spare:=spare) (held:=held) (n:=n) (cs:=cs) Ω λf r=>by
  obtain⟨i,hi,rfl⟩:=List.mem_iff_getElem.1 r;have s:i<xs.length:=by simpa[p]using hi
  have:=q i a[i] (by simp[hi]);rw[x6 s]at this;exact⟨_,this⟩
 simpa using this
end
end Go.Vc
