/- own texts, made small by a tool (wip/ holds them as they were written): no statement of the seat. -/
import Derived.RangeFuncNested
import Derived.RangeFuncLeaves
import Derived.OrdersIn
import Derived.KernelRfl
import Derived.Deep.Upon
import Derived.RangeFuncBound
import Derived.Deep.MidRow
import Derived.Laws.Cover3
import Derived.Laws.Pointers
import Derived.Laws.StructEq
import Derived.Laws.Tables
import Derived.Below
import Derived.Laws.MakeOwn
import Derived.Lib.Overlaps
import Derived.Lib.AppendZerosOnto
import Derived.Lib.SliceRun
import Derived.OpenShut
import Derived.Lib.ConvBytes
import Derived.Laws.BytesArg
import Derived.Laws.Concat
import Derived.MapKept
import Derived.Carry
import Derived.WideKeyArr
import Derived.WideKeyMaps
import Derived.Laws.IdiomRangeMap
import Derived.Shelf.SlSortCmp.NoneTotal
import Derived.Shelf.SlSortCmp.WholeK
import Derived.Ground.SlsfProg
import Derived.WideKeyEntry
import Derived.WalkKit
import Derived.Test.YtnhkbjhpbbobaaaGreatDoorProg
import Derived.Test.YtnhkbjhpbbobaaaGreatDoorChecked
set_option linter.defProp false
set_option linter.unusedVariables false
set_option linter.unusedSimpArgs false
set_option linter.unnecessarySimpa false
open Array renaming getElem?_eq_some_iff→Z0,getElem?_toList→Q0
open BitVec renaming ofInt→T8
open Bool renaming false→v6,true→v2,not_true→X3,not_false→W6,or_eq_false_iff→U1,and_eq_true→U9
open Decidable renaming not_not→X5
open Go renaming Value→x4,World→x6,TypeId→o5,IntKind→j4,Builtin→Y4,Program→V5,Oper→S0,Operand→R4,FuncId→Q6
open Go.Addr renaming add_mid→T9
open Go.Builtin renaming append_→Z9,len_→V1
open Go.Instr renaming loadAt→u6,fieldAt→u7,storeAt→j0,indexAt→b8,extract→Y8,buildSlice→X2,sliceAt→U4,alloc→Q8
open Go.IntKind renaming i64→W5,u64→T7
open Go.Proofs.Tryz renaming prog→v8
open Go.Result renaming andThen→V2
open Go.Sem renaming run_bind→W9,run_pure→V9
open Go.Sort renaming Holds→R5
open Go.Value renaming int→U3
open Go.World renaming putObj_heap_other→Q7
open Int renaming toNat_natCast→u9,eq_ofNat_of_zero_le→V3,le_refl→S9
open List renaming getElem?_eq_some_iff→x5,mem_of_getElem?→x7,getElem?_eq_getElem→x8,getElem?_map→u4,getD_eq_getElem?_getD→u5,length_map→r8,take_add_one→r9,replicate→o6,length_set→o7,length_take→o8,take_length→o9,length_append→n9,getElem?_set_self→l9,mem_map→j5,mem_append→j9,mem_singleton→c9,take_of_length_le→b9,eq_nil_of_length_eq_zero→Z2,map_append→Z4,getElem?_set_ne→Z6,getElem?_append_right→Z7,length_cons→Y1,getElem?_append_left→Y2,getElem?_eq_none→Y5,getElem?_take_of_lt→Y6,getElem?_set→Y7,ext_getElem?→X0,range→X9,drop_eq_getElem_cons→W3,mem_or_eq_of_mem_set→W8,mem_cons→V4,length_eq_one_iff→V6,foldl_cons→V7,append_nil→U2,mem_of_mem_take→T1,map_set→T2,map_cons→T3,set_append_right→T4,append_assoc→T6,mem_range→S1,getElem?_drop→R3,getElem_mem→P6
open Nat renaming le_refl→o4,le_trans→X1,mul_le_mul_right→X4,zero_add→X6,zero_le→W0,sub_self→V0,add_mul→U7,mul_one→T0,lt_of_lt_of_le→S3,beq→S6,add_assoc→Q3,eq_zero_or_pos→Q9
open Ne renaming symm→R7
open Option renaming toList_some→j6,isNone_some→Y0,map_some→Y3,getD_some→W7,map→U8
open Option.some renaming injEq→X7
open Prod.mk renaming injEq→S7
set_option maxHeartbeats 16000000
open Option renaming some→σ,none→ν
abbrev Λ:=List Int
namespace Go
def T{α:Sort _}{a:α}:a=a:=rfl
abbrev World.z(w:World):Nat:=w.heap.size
def _root_.Eq.F{α:Sort _}{a b c:α}(h:a=b)(g:b=c):a=c:=h.trans g
def _root_.Iff.F{a b c:Prop}(h:a<->b)(g:b<->c):a<->c:=h.trans g
def _root_.List.Perm.F{α:Type _}{a b c:List α}(h:a.Perm b)(g:b.Perm c):a.Perm c:=h.trans g
set_option linter.defProp false in
def _root_.Go.Calls.Y:=@Calls.mono
def _root_.ms{c:Prop}{h:Decidable c}(hc:c){α:Sort _}{t e:α}:ite c t e=t:=if_pos hc
def _root_.rc{c:Prop}{h:Decidable c}(hnc:¬c){α:Sort _}{t e:α}:ite c t e=e:=if_neg hnc
def _root_.ro{a b:Prop}(h:a)(g:¬a):b:=absurd h g
def _root_.rs{p:Prop}[Decidable p](h:p):decide p=true:=decide_eq_true h
def _root_.s2{p:Prop}[Decidable p](h:¬p):decide p=false:=decide_eq_false h
def _root_.sp{p:Prop}[Decidable p]:(decide p=true)=p:=decide_eq_true_eq
def _root_.ty{p:Prop}[Decidable p](h:decide p=true):p:=of_decide_eq_true h
def Ω{p:Prop}(h:p:=by omega):p:=h
def Ψ{p:Prop}(h:p:=by kernel_rfl):p:=h
def Φ{p:Prop}(h:p:=by decide):p:=h
def Ξ{p:Prop}(h:p:=by simp):p:=h
def Θ{p:Prop}(h:p:=by simp;omega):p:=h
abbrev Γ(n:Nat):Value:=.pointer (some ⟨n,0,none⟩)
abbrev Δ:Int→Value:=Value.int .i64
end Go
variable{a y:Int}{c h j n:Nat}{I w:x6}{S:Nat->Prop}{aV s1 sv v z:x4}{args cs vs xs:List x4}{K:x4->Prop}{aj l:Λ}{D:List Nat}{f k:j4}{e t:o5}{cx cy:Bool}
namespace Go.Vc
open Go Go.RowKit
def fK:Obj->Bool
 | .loop _=>v6
 | .deferred _=>v6
 | .mapIter ..=>v6
 |_=>v2
def book:Obj->Bool
 | .loop _=>v2
 | .deferred _=>v2
 |_=>v6
def zg{o:Obj}(h:book o=v2):fK o=v6:=by cases o<;>first|rfl|cases h
def sQ:Obj->Bool
 | .mapIter ..=>v2
 |_=>v6
def G0{o:Obj}(h:sQ o=v2):fK o=v6:=by cases o<;>first|rfl|cases h
structure Ext(w I:x6):Prop where
 size:w.heap.size<=I.heap.size
 aX:∀(r:Nat)(o:Obj),w.heap[r]?=σ o->fK o=v2->I.heap[r]?=σ o
def Ext.refl(w:x6):Ext w w:=⟨o4 _,λ_ _ h _=>h⟩
def Ext.F{a b c:x6}(h:Ext a b)(k:Ext b c):Ext a c:=
 ⟨X1 h.size k.size,λr o e J=>k.aX r o (h.aX r o e J) J⟩
structure af(S:Nat->Prop)(w I:x6):Prop where
 size:w.heap.size<=I.heap.size
 aX:∀(r:Nat)(o:Obj),w.heap[r]?=σ o->fK o=v2->¬S r->I.heap[r]?=σ o
def Ext.aa(S:Nat->Prop)(h:Ext w I):af S w I:=⟨h.size,λr o a J _=>h.aX r o a J⟩
def af.W(h:af S w I)(e:∀r,r<w.heap.size->¬S r):Ext w I:=
 ⟨h.size,λr o a J=>h.aX r o a J (e r (Z0.1 a).1)⟩
def af.refl(S:Nat->Prop)(w:x6):af S w w:=⟨o4 _,λ_ _ h _ _=>h⟩
def af.F{a b c:x6}(h:af S a b)(k:af S b c):af S a c:=
 ⟨X1 h.size k.size,λr o f J e=>k.aX r o (h.aX r o f J e) J e⟩
def af.Y{T:Nat->Prop}{a b:x6}(h:af S a b)(f:∀r,r<a.heap.size->S r->T r):af T a b:=
 ⟨h.size,λr o e J j=>h.aX r o e J λp=>j (f r (Z0.1 e).1 p)⟩
def Ext.then{a b c:x6}(h:Ext a b)(k:af S b c)(f:∀r,r<a.heap.size->¬S r):Ext a c:=
 ⟨X1 h.size k.size,λr o e J=>k.aX r o (h.aX r o e J) J (f r (Z0.1 e).1)⟩
def kP(w I:x6):Prop:=I.tape=w.tape/\w.drawn<=I.drawn
def kP.ly(h:I.tape=w.tape:=by rfl)(k:I.drawn=w.drawn:=by rfl):kP w I:=⟨h,Nat.le_of_eq k.symm⟩
def kP.F{a b c:x6}(k:kP b c)(h:kP a b):kP a c:=⟨k.1.F h.1,X1 h.2 k.2⟩
structure cQ(w I:x6):Prop where
 os:I.os=w.os
 tape:kP w I
 output:I.output=w.output
 size:w.heap.size<=I.heap.size
 aX:∀(r:Nat)(o:Obj),w.heap[r]?=σ o->fK o=v6->I.heap[r]?=σ o
structure cM(n:Nat)(w I:x6):Prop where
 os:I.os=w.os
 tape:kP w I
 output:I.output=w.output
 size:w.heap.size<=I.heap.size
 aX:∀(r:Nat)(o:Obj),w.heap[r]?=σ o->book o=v2->I.heap[r]?=σ o
 old:∀(r:Nat)(o:Obj),r<n->w.heap[r]?=σ o->fK o=v6->I.heap[r]?=σ o
def cQ.b(h:cQ w I):cM n w I:=⟨h.os,h.tape,h.output,h.size,λr o a J=>h.aX r o a (zg J),λr o _ a J=>h.aX r o a J⟩
def cM.refl(n:Nat)(w:x6):cM n w w:=⟨T,.ly,T,o4 _,λ_ _ h _=>h,λ_ _ _ h _=>h⟩
def cM.F{a b c:x6}(h:cM n a b)(k:cM n b c):cM n a c:=
 ⟨k.os.F h.os,k.tape.F h.tape,k.output.F h.output,X1 h.size k.size,λr o e J=>k.aX r o (h.aX r o e J) J,λr o f e J=>k.old r o f (h.old r o f e J) J⟩
def cM.cA(h:cM n w I)(e:w.heap.size<=n):cQ w I:=
 ⟨h.os,h.tape,h.output,h.size,λr o a J=>h.old r o (S3 (Z0.1 a).1 e) a J⟩
structure fL(n:Nat)(w I:x6):Prop where
 os:I.os=w.os
 tape:kP w I
 output:I.output=w.output
 size:w.heap.size<=I.heap.size
 old:∀(r:Nat)(o:Obj),r<n->w.heap[r]?=σ o->fK o=v6->I.heap[r]?=σ o
def cM.o(h:cM n w I):fL n w I:=⟨h.os,h.tape,h.output,h.size,h.old⟩
theorem cQ.o(h:cQ w I):fL n w I:=⟨h.os,h.tape,h.output,h.size,λr o _ a J=>h.aX r o a J⟩
def fL.Y{m:Nat}(h:fL n w I)(hm:m<=n):fL m w I:=⟨h.os,h.tape,h.output,h.size,λr o a=>h.old r o (S3 a hm)⟩
def cM.zh{m:Nat}{a b c:x6}(h:cM n a b)(k:fL m b c)(hm:a.heap.size<=m):cM n a c:=
 ⟨k.os.F h.os,k.tape.F h.tape,k.output.F h.output,X1 h.size k.size,
  λr o e J=>k.old r o (S3 (Z0.1 e).1 hm) (h.aX r o e J) (zg J),
  λr o f e J=>k.old r o (S3 (Z0.1 e).1 hm) (h.old r o f e J) J⟩
def fb(w I:x6):Prop:=∀(r:Nat)(o:Obj),w.heap[r]?=σ o->sQ o=v2->I.heap[r]?=σ o
def fb.refl(w:x6):fb w w:=λ_ _ h _=>h
def fb.F{a b c:x6}(h:fb a b)(k:fb b c):fb a c:=λr o e J=>k r o (h r o e J) J
def cQ.lz(h:cQ w I):fb w I:=λr o a J=>h.aX r o a (G0 J)
abbrev fM:=Bool×Nat
def cQ.refl(w:x6):cQ w w:=⟨T,.ly,T,o4 _,λ_ _ h _=>h⟩
def cQ.F{a b c:x6}(h:cQ a b)(k:cQ b c):cQ a c:=
 ⟨k.os.F h.os,k.tape.F h.tape,k.output.F h.output,X1 h.size k.size,λr o e J=>k.aX r o (h.aX r o e J) J⟩
def sR(w:x6)(n:Nat):Ext w {w with drawn:=n}:=⟨o4 _,λ_ _ h _=>h⟩
def qX(w:x6)(n:Nat)(h:w.drawn<=n):cQ w {w with drawn:=n}:=⟨T,⟨T,h⟩,T,o4 _,λ_ _ h _=>h⟩
def qY(w:x6)(o:Obj):Ext w {w with heap:=w.heap.push o}:=
 ⟨Ξ,λr o' h _=>by
  have:=(Z0.1 h).1;simp only[Array.getElem?_push];rw[rc Ω];exact h⟩
def qZ(w:x6)(o:Obj):cQ w {w with heap:=w.heap.push o}:=
 ⟨T,.ly,T,Ξ,λr o' h _=>by
  have:=(Z0.1 h).1;simp only[Array.getElem?_push];rw[rc Ω];exact h⟩
inductive eJ where
 |v (x:x4)
 |b (c:Bool)
 |u
def eJ.val:eJ->x4
 | .v x=>x
 | .b c=>.bool c
 | .u=>undef
def eJ.ofConst:x4->eJ
 | .bool c=>.b c
 |x=>.v x
def eJ.G1(x:x4):(eJ.ofConst x).val=x:=by cases x<;>rfl
abbrev Env:=List (Nat×eJ)
def look:Env->Nat->Option eJ
 |[],_=>ν
 |(s,x)::r,t=>bif S6 s t then σ x else look r t
def eS(e:Env):R4->Option eJ
 | .tmp t=>look e t
 | .const x=>σ (eJ.ofConst x)
 | .global g=>σ (.v (Γ g))
 | .func f=>σ (.v (.func (.func f) #[] #[]))
def cZ(e:Env)(x:R4):x4:=
 match eS e x with
 |some y=>y.val
 |none=>undef
def known(e:Env):List R4->Bool
 |[]=>v2
 |x::r=>(eS e x).isSome&&known e r
def R5(N:Nat)(e:Env)(a:Act):Prop:=
 a.tmps.size=N/\∀t x,look e t=σ x->a.tmps.getD t undef=x.val
def R5.eS{N:Nat}{e:Env}{a:Act}(h:R5 N e a){x:R4}{y:eJ}(j:Vc.eS e x=σ y):a.eval x=y.val:=by
 cases x with
 |tmp t=>exact h.2 t y j
 |const v=>simp[Vc.eS]at j;subst j;simp[Act.eval,eJ.G1]
 |global g=>simp[Vc.eS]at j;subst j;rfl
 |func f=>simp[Vc.eS]at j;subst j;rfl
def R5.eval{N:Nat}{e:Env}{a:Act}(h:R5 N e a){x:R4}(j:(Vc.eS e x).isSome=v2):a.eval x=cZ e x:=by
 obtain⟨y,f⟩:=Option.isSome_iff_exists.1 j;rw[h.eS f];simp[cZ,f]
theorem vC{e:Env}:∀{l:List R4},known e l=v2->∀x∈l,(eS e x).isSome=v2
 |[],_,_,a=>by cases a
 |y::r,h,x,a=>by
  simp only[known,U9]at h;cases a with
  |head=>exact h.1
  |tail _ a=>exact vC h.2 x a
def ek(e:Env)(d:Option Tmp)(x:eJ):Env:=
 match d with
 |some t=>(t,x)::e
 |none=>e
def kQ(N:Nat)(d:Option Tmp):Bool:=
 match d with
 |some t=>Nat.blt t N
 |none=>v2
def R5.put{N:Nat}{e:Env}{a:Act}(h:R5 N e a){d:Option Tmp}(p:kQ N d=v2){x:eJ}(q:x.val=v):
  R5 N (ek e d x) (a.put d v):=by
 cases d with
 |none=>exact h
 |some t=>
  have r:t<N:=by simpa[kQ,Nat.blt_eq]using p
  refine⟨by simp[Act.put,h.1],λs y J=>?_⟩;simp only[ek,look]at J;cases f:S6 t s with
  |true=>
   have j:=Nat.eq_of_beq_eq_true f;subst j;simp only[f,cond_true,X7]at J;subst J;simp[Act.put,h.1,r,q]
  |false=>
   have j:=Nat.ne_of_beq_eq_false f;simp only[f,cond_false]at J;have:=h.2 s y J;simp only[Act.put,Array.getD_eq_getD_getElem?]at this ⊢;rw[Array.getElem?_setIfInBounds_ne j];exact this
def eK(r:Option Nat):Fence:={Fence.wide with round:=r}
def vD(r:Option Nat)(n:Nat):(eK r).depth.isSome=v2->1<=n:=λh=>by simp[eK,Fence.wide]at h
def zi{r:Option Nat}{P:V5}{f:Q6}{args:Array x4}{R:Ending->x6->Prop}(h:Calls P f args w R):CallsIn (eK r) n P f args w R:=by
 have:=(callsIn_wide (n:=n)).2 h;exact this
section
variable(P:V5)
def aG{α:Type}(s:Sem α)(w:x6)(K:α->x6->Prop):Prop:=∃v I,s.run P w= .ok v I/\cQ w I/\K v I
def sS{α:Type}(free:fM)(s:Sem α)(w:x6)(K:α->x6->Prop):Prop:=∃v I,s.run P w= .ok v I/\(free.1=v6->cM free.2 w I)/\K v I
def Split(x:x4)(A B:Prop):Prop:=∃c,x= .bool c/\(c=v2->A)/\(c=v6->B)
def a8:Bool->R4
 |true=>.const (.bool v2)
 |false=>.tmp 0
def pR:R4->Bool
 | .const _=>v2
 |_=>v6
def G2(op:BinOp)(t:o5)(x y:R4)(a b:x4):eqGuard op t x y a b=eqGuard op t (a8 (pR x)) (a8 (pR y)) a b:=by
 cases x<;>cases y<;>rfl
def aP(op:BinOp)(t:o5)(cx cy:Bool)(a b:x4):Sem x4:=do eqGuard op t (a8 cx) (a8 cy) a b;binOp op t a b
def sT(s:Sem Next):Sem x4:=do
 match <-s with
 | .value v=>pure v
 |_=>stuck "no value"
def bU(x:x4):Sem x4:=sT (execOp (λ_=>x) {dst:=ν,op:=.nilCheck (.tmp 0),type:=0,pos:= "",after:=#[],guard:=ν})
def b5(a:R4->x4):List R4->List x4
 |[]=>[]
 |x::r=>a x::b5 a r
theorem sU(a:R4->x4):∀l,b5 a l=l.map a
 |[]=>rfl
 |x::r=>by simp[b5,sU a r]
def vE(a:R4->x4)(l:Array R4):(b5 a l.toList).toArray=l.map a:=by
 apply Array.toList_inj.1;simp[sU]
def partsOf(a:R4->x4):List (Nat×R4)->List (Nat×x4)
 |[]=>[]
 |x::r=>(x.1,a x.2)::partsOf a r
theorem zj(a:R4->x4):∀l,partsOf a l=l.map λ(i,x)=>(i,a x)
 |[]=>rfl
 |x::r=>by simp[partsOf,zj a r]
def G3(a:R4->x4)(l:Array (Nat×R4)):(partsOf a l.toList).toArray=l.map λ(i,x)=>(i,a x):=by
 apply Array.toList_inj.1;simp[zj]
def opsOf:Op->List R4
 | .alloc _| .ready _| .waits _=>[]
 | .move x| .assign x| .box _ x| .load _ x| .nilCheck x| .unOp _ _ x| .convert _ _ x| .sliceToArrayPointer _ x| .makeInterface _ x
 | .makeChan _ x| .fieldAddr _ x _| .field _ x _| .range _ x| .next x _| .entry x| .typeAssert x _ _ _| .extract x _| .panic x| .recv _ x _=>[x]
 | .pick c a b=>[c,a,b]
 | .build _ e| .buildSlice _ _ e=>e.toList.map (·.2)
 | .store _ a v| .binOp _ _ a v _| .makeSlice _ a v| .indexAddr _ a v| .index _ a v| .lookup _ a v _| .mapEntry _ a v| .send a v=>[a,v]
 | .makeFunc _ first j=>first.toList++j.toList
 | .makeMap _ r=>match r with
  |some x=>[x]
  |none=>[]
 | .slice _ x l h m=>x::((match l with
  |some y=>[y]
  |none=>[])++((match h with
  |some y=>[y]
  |none=>[])++(match m with
  |some y=>[y]
  |none=>[])))
 | .mapUpdate _ m k v| .entryStore _ m k v| .insert _ m k v=>[m,k,v]
 | .call c=>match c.callee with
  | .value f=>f::c.args.toList
  | .invoke r _=>r::c.args.toList
  | .builtin _=>c.args.toList
 | .go _| .defer _| .select ..=>[]
def G4{op:Op}(h1:∀c,op≠ .go c)(e:∀c,op≠ .defer c)(f:∀cs b,op≠ .select cs b):∀x∈op.operands,x∈opsOf op:=by
 intro x a;cases op<;>simp only[Op.operands,opsOf]at a ⊢<;>try (first|(simp at a;done)|(simp at a ⊢;exact a))
 case go c=>exact ro T (h1 c)
 case defer c=>exact ro T (e c)
 case select cs b=>exact ro T (f cs b)
 case makeMap t r=>cases r<;>simp at a ⊢<;>exact a
 case slice t y l h m=>cases l<;>cases h<;>cases m<;>simpa[or_assoc]using a
 case call c=>cases j:c.callee<;>simpa[Call.operands,j]using a
def q0(e:R4->x4):Op->Option (Sem x4)
 | .pick c a b=>σ (do pure (if <-asBool (e c)then e a else e b))
 | .alloc j=>σ (Q8 j v2 (.tuple #[]))
 | .box j x=>σ (Instr.box j (e x))
 | .build t parts=>σ (Instr.build t (partsOf e parts.toList).toArray)
 | .buildSlice t len parts=>σ (X2 t len (partsOf e parts.toList).toArray)
 | .load t a=>σ (u6 t (e a))
 | .nilCheck x=>σ (bU (e x))
 | .binOp op ju x y _=>σ (aP op ju (pR x) (pR y) (e x) (e y))
 | .unOp op _ x=>σ (Op.unary op (e x))
 | .convert src dst x=>σ (convert src dst (e x))
 | .makeInterface ju x=>σ (Instr.makeInterface ju (e x))
 | .makeFunc fn first p=>σ (Instr.makeFunc fn (b5 e first.toList).toArray (b5 e p.toList).toArray)
 | .makeMap t r=>σ (Instr.makeMap t (r.map e))
 | .makeSlice t l c=>σ (Instr.makeSlice t (e l) (e c))
 | .slice t x lo hi mx=>σ (U4 t (e x) (lo.map e) (hi.map e) (mx.map e))
 | .fieldAddr s x f=>σ (u7 s (e x) f)
 | .field ju x f=>σ (Instr.field ju (e x) f)
 | .indexAddr t x h=>σ (b8 t (e x) (e h))
 | .index ju x h=>σ (Instr.index ju (e x) (e h))
 | .lookup ju x h ok=>σ (Instr.lookup ju (e x) (e h) ok)
 | .mapEntry t m k=>σ (Instr.mapEntry t (e m) (e k))
 | .range ju x=>σ (Instr.range ju (e x))
 | .entry q=>σ (Instr.entry (e q))
 | .typeAssert x ju w ok=>σ (Instr.typeAssert (e x) ju w ok)
 | .extract t h=>σ (Y8 (e t) h)
 |_=>ν
def vF(e:R4->x4):Op->Option (Sem Unit)
 | .store t a x=>σ (j0 t (e a) (e x))
 | .mapUpdate t m k x=>σ (Instr.mapUpdate t (e m) (e k) (e x))
 | .insert t m k x=>σ (Instr.mapUpdate t (e m) (e k) (e x))
 | .entryStore t m s x=>σ (Instr.entryStore t (e m) (e s) (e x))
 |_=>ν
def pS(b:Y4)(ats:Array o5)(a:o5)(args:Array x4):Option (Sem x4):=
 match b with
 | .append=>σ (Z9 ats a args)
 | .cap=>σ (Y4.cap_ ats a args)
 | .clear=>σ (Y4.clear_ ats a args)
 | .copy=>σ (Y4.copy_ ats a args)
 | .delete=>σ (Y4.delete_ ats a args)
 | .len=>σ (V1 ats a args)
 | .max=>σ (Y4.max_ ats a args)
 | .min=>σ (Y4.min_ ats a args)
 |_=>ν
def G5{s:Sem Next}(h:(sT s).run P w= .ok v I):s.run P w= .ok (.value v) I:=by
 unfold sT at h;rw[W9]at h;cases J:s.run P w with
 |halt x U=>rw[J]at h;simp[V2]at h
 |ok x U=>
  rw[J]at h;cases x<;>simp_all [V2,stuck,V9]
def G6(x:x4)(b:Bool)(t:o5):Instr.next x b 0=Instr.next x b t:=rfl
def vG{f:R4->x4}{o:S0}{s:Sem x4}(h:q0 f o.op=σ s)(a:s.run P w= .ok v I):
  (execOp f o).run P w= .ok (.value v) I:=by
 cases e:o.op with
 |nilCheck x=>
  rw[e]at h;cases h;have:=G5 P a;unfold execOp at this ⊢;simpa[e]using this
 |pick c x y=>
  rw[e]at h;cases h;unfold execOp;simp only[e,W9,V9]at a ⊢;cases j:(asBool (f c)).run P w with
  |halt x U=>rw[j]at a;simp[V2]at a
  |ok x U=>rw[j]at a;simp only[V2,Result.ok.injEq]at a ⊢;simp[a]
 |binOp op ju x y p=>
  rw[e]at h;cases h;unfold execOp;simp only[e];unfold aP at a;rw[<-G2]at a;simp only[W9,V9]at a ⊢;rw[a];rfl
 |_=>
  rw[e]at h
  first
   |(cases h;done)
   |(cases h;simp only[vE,G3]at a;unfold execOp;simp only[e,W9,a,V2,V9])
   |(cases h;unfold execOp;simp only[e,W9,a,V2,V9])
def G7{a:R4->x4}{o:S0}{s:Sem Unit}(h:vF a o.op=σ s){v:Unit}(f:s.run P w= .ok v I):
  (execOp a o).run P w= .ok .skip I:=by
 cases e:o.op with
 |_=>
  rw[e]at h
  first
   |(cases h;done)
   |(cases h;unfold execOp;simp only[e,W9,f,V2,V9])
def Enters(f:Q6):Prop:=∀args w,(callFunc f args).run P w= .ok (.enter f args) w
inductive ak(f:Q6)(args:List x4)(w:x6)(K:x4->x6->Prop):Prop
 |code (h1:Enters P f) (h2:Calls P f args.toArray w λe I=>∃v,e= .returned v/\cQ w I/\K v I)
 |W (v:x4) (I:x6) (h1:(callFunc f args.toArray).run P w= .ok (.value v) I) (h2:cQ w I) (h3:K v I)
inductive gT(f:Q6)(args:List x4)(w:x6)(K:x4->x6->Prop):Prop
 |code (h1:Enters P f) (h2:Calls P f args.toArray w λe I=>∃v,e= .returned v/\K v I)
 |W (v:x4) (I:x6) (h1:(callFunc f args.toArray).run P w= .ok (.value v) I) (h3:K v I)
def gT.calls{f:Q6}{K:x4->x6->Prop}(h:gT P f args w K)(a:Enters P f):Calls P f args.toArray w λe I=>∃v,e= .returned v/\K v I:=by
 cases h with
 |code _ h=>exact h
 |W v I h1=>rw[a]at h1;cases h1
def iZ(l:Nat)(args:List x4)(w:x6)(K:x4->x6->Prop):Prop:=
 YieldAt Fence.wide 0 P l args.toArray w λe I=>∃v,e= .returned v/\K v I
def iZ.Y{P:V5}{l:Nat}{K a:x4->x6->Prop}(h:iZ P l args w K)(e:∀v I,K v I->a v I):iZ P l args w a:=by
 obtain⟨fn,tmps,f,body,j,p⟩:=h;exact⟨fn,tmps,f,body,j,RoundIn.mono p λ_ I ⟨v,h1,q⟩=>⟨v,h1,e v I q⟩⟩
def sV(free:Bool)(f:x4)(args:List x4)(w:x6)(K:x4->x6->Prop):Prop:=
 match f with
 | .func (.func g) first cap=>bif free then gT P g (first.toList++args++cap.toList) w K else ak P g (first.toList++args++cap.toList) w K
 | .func (.yield l) first _=>bif free then free=v2/\iZ P l (first.toList++args) w K else iZ P l (first.toList++args) w λv I=>cQ w I/\K v I
 |_=>False
def ab(s:Sem x4)(w:x6)(K:x4->Prop):Prop:=∃v,(∀I,Ext w I->s.run P I= .ok v I)/\K v
def G8:List (Nat×Nat):=[(9,22),(22,22)]
def G9(s d:Nat):Bool:=G8.any λp=>S6 p.1 s&&S6 p.2 d
def kk(o:S0):Bool:=
 match o.op with
 | .convert s d _=>!G9 s d
 | .move _| .assign _| .pick .. | .load .. | .nilCheck _| .binOp .. | .unOp .. | .makeInterface .. | .makeFunc .. | .slice .. | .fieldAddr .. | .field ..
 | .indexAddr .. | .index .. | .lookup .. | .extract .. | .build .. | .typeAssert ..=>v2
 | .call c=>
  match c.callee with
  | .builtin .len| .builtin .cap| .builtin .min| .builtin .max=>v2
  |_=>v6
 |_=>v6
def b6(s:Sem x4)(v:x4)(I:x6):Prop:=∀a,Ext I a->s.run P a= .ok v a
def mW(o:S0)(e:Env)(w:x6)(K:Env->(x6->Prop)->Prop):Prop:=
 bif known e (opsOf o.op)then
  match o.op with
  | .move x| .assign x=>
   match eS e x with
   |some y=>K (ek e o.dst y) (λ_=>True)
   |none=>False
  | .pick c a b=>
   match eS e c with
   |some (.b v2)=>(match eS e a with|some y=>K (ek e o.dst y) (λ_=>True)|none=>False)
   |some (.b v6)=>(match eS e b with|some y=>K (ek e o.dst y) (λ_=>True)|none=>False)
   |some (.v x)=>Split x (K (ek e o.dst (.v (cZ e a))) (λ_=>True)) (K (ek e o.dst (.v (cZ e b))) (λ_=>True))
   |some .u=>False
   |none=>False
  | .call c=>
   match c.callee with
   | .builtin b=>
    match pS b c.argTypes o.type (b5 (cZ e) c.args.toList).toArray with
    |some s=>ab P s w λv=>K (ek e o.dst (.v v)) (b6 P s v)
    |none=>False
   |_=>False
  |op=>
   match q0 (cZ e) op with
   |some s=>ab P s w λv=>K (ek e o.dst (.v v)) (b6 P s v)
   |none=>False
 else False
def vH(free:fM)(o:S0)(e:Env)(w:x6)(K:Env->x6->Prop):Prop:=
 bif known e (opsOf o.op)then
  match o.op with
  | .call c=>
   match c.callee with
   | .builtin b=>
    match pS b c.argTypes o.type (b5 (cZ e) c.args.toList).toArray with
    |some s=>aG P s w λv I=>K (ek e o.dst (.v v)) I
    |none=>False
   | .value (.func f)=>
    bif free.1 then gT P f (b5 (cZ e) c.args.toList) w λv I=>K (ek e o.dst (.v v)) I
    else ak P f (b5 (cZ e) c.args.toList) w λv I=>K (ek e o.dst (.v v)) I
   | .value x=>sV P free.1 (cZ e x) (b5 (cZ e) c.args.toList) w λv I=>K (ek e o.dst (.v v)) I
   | .invoke _ _=>False
  | .next x str=>sS P free (Instr.next (cZ e x) str 0) w λv I=>K (ek e o.dst (.v v)) I
  |op=>
   match q0 (cZ e) op with
   |some s=>aG P s w λv I=>K (ek e o.dst (.v v)) I
   |none=>
    match vF (cZ e) op with
    |some s=>aG P s w λ_ I=>K (ek e o.dst (.v undef)) I
    |none=>False
 else False
def pT(free:fM)(o:S0)(e:Env)(w:x6)(K:Env->x6->Prop):Prop:=
 bif kk o then mW P o e w (λa _=>K a w)else vH P free o e w K
def Enters.of{f:Q6}{fn:Func}{c:Code}(a:P.funcs[f]?=σ fn)(e:fn.body=σ c)(h:(fn.name == "runtime.NumGoroutine")=v6):Enters P f:=by
 intro args w;have j:fn.name≠ "runtime.NumGoroutine":=by simpa using h
 unfold callFunc;simp[W9,program,Sem.run,V2,a,j,e,V9]
variable{P}
variable{N:Nat}{r:Option Nat}{o:S0}{e:Env}{a:Act}{w:x6}
def lA(f:R5 N e a)(hk:known e (opsOf o.op)=v2)(J:∀cs b,o.op≠ .select cs b)(h:∀c,o.op≠ .go c:=by simp_all)(j:∀c,o.op≠ .defer c:=by simp_all):
  execOp a.eval o=execOp (cZ e) o:=
 execOp_congr o J λx p=>f.eval (vC hk x (G4 h j J x p))
def q1{next:Act->x6->Prop}{Q:Exit->Act->x6->Prop}(j:R5 N e a)(hk:known e (opsOf o.op)=v2)(J:∀cs b,o.op≠ .select cs b)(f:∀c,o.op≠ .defer c){v:x4}{I:x6}(p:(execOp (cZ e) o).run P w= .ok (.value v) I)(h:next (a.put o.dst v) I)(q:∀c,o.op≠ .go c:=by simp_all):o.wpIn (eK r) 0 P a w next Q:=by
 refine⟨λ_ _=>trivial,?_⟩;rw[S0.semAt_eq _ _ _ f,lA j hk J q f,p,S0.uponIn_value];exact h
def Ha{next:Act->x6->Prop}{Q:Exit->Act->x6->Prop}(j:R5 N e a)(hk:known e (opsOf o.op)=v2)(J:∀cs b,o.op≠ .select cs b)(f:∀c,o.op≠ .defer c){I:x6}(p:(execOp (cZ e) o).run P w= .ok .skip I)(h:next (a.put o.dst undef) I)(q:∀c,o.op≠ .go c:=by simp_all):o.wpIn (eK r) 0 P a w next Q:=by
 refine⟨λ_ _=>trivial,?_⟩;rw[S0.semAt_eq _ _ _ f,lA j hk J q f,p,S0.uponIn_skip];exact h
def fz(N:Nat)(free:fM)(K:Env->x6->Prop)(o:S0)(a:Act)(w:x6)(a':Act)(I:x6):Prop:=
 ∃e v,K e I/\R5 N e a'/\a'=a.put o.dst v/\(free.1=v6->cM free.2 w I)
def fz.of{free:fM}{K:Env->x6->Prop}{x:eJ}(f:K (ek e o.dst x) I)(h:R5 N e a)(j:kQ N o.dst=v2)(p:x.val=v)(q:free.1=v6->cM free.2 w I):fz N free K o a w (a.put o.dst v) I:=⟨_,v,f,h.put j p,T,q⟩
def zk{free:fM}{K:Env->x6->Prop}{Q:Exit->Act->x6->Prop}{f:Q6}{args:Array x4}(p:R5 N e a)(q:kQ N o.dst=v2)(h:Calls P f args w λj I=>∃v,j= .returned v/\(free.1=v6->cM free.2 w I)/\K (ek e o.dst (.v v)) I):
  o.uponIn (eK r) 0 P a (fz N free K o a w) Q (.ok (.enter f args) w):=by
 rw[S0.uponIn_enter];refine⟨vD _ _,CallsIn.mono (zi h) ?_⟩;rintro j I ⟨v,rfl,s,x⟩;exact fz.of x p q T s
def mX{x:R4}{y:eJ}(h:eS e x=σ y):cZ e x=y.val:=by simp[cZ,h]
def zl{l:List R4}{x:R4}(hk:known e l=v2)(a:x∈l):∃y,eS e x=σ y:=Option.isSome_iff_exists.1 (vC hk x a)
def zm{K:Env->(x6->Prop)->Prop}(h:mW P o e w K)(A:R5 N e a)(M:kQ N o.dst=v2):
  ∃v,∃st:x6->Prop,(∀I,Ext w I->(execOp a.eval o).run P I= .ok (.value v) I)/\(∃B,K B st/\R5 N B (a.put o.dst v))/\(∀c,o.op≠ .defer c)/\
   (∀I,st I->∀j,Ext I j->(execOp a.eval o).run P j= .ok (.value v) j):=by
 unfold mW at h;cases hk:known e (opsOf o.op)with
 |false=>rw[hk]at h;exact h.elim
 |true=>
  rw[hk]at h;simp only[cond_true]at h;have put:∀{x:eJ}{v:x4}{st:x6->Prop},K (ek e o.dst x) st->x.val=v->∃B,K B st/\R5 N B (a.put o.dst v):=λh1 C=>⟨_,h1,A.put M C⟩;cases f:o.op with
  |move x=>
   rw[f]at h;simp only at h;cases q:eS e x with
   |none=>rw[q]at h;exact h.elim
   |some y=>
    rw[q]at h;have all:∀I:x6,(execOp a.eval o).run P I= .ok (.value y.val) I:=λI=>by
     rw[lA A hk (by simp[f])];unfold execOp;simp only[f,V9,mX q]
    exact⟨y.val,_,λI _=>all I,put h rfl,Ξ,λ_ _ j _=>all j⟩
  |assign x=>
   rw[f]at h;simp only at h;cases q:eS e x with
   |none=>rw[q]at h;exact h.elim
   |some y=>
    rw[q]at h;have all:∀I:x6,(execOp a.eval o).run P I= .ok (.value y.val) I:=λI=>by
     rw[lA A hk (by simp[f])];unfold execOp;simp only[f,V9,mX q]
    exact⟨y.val,_,λI _=>all I,put h rfl,Ξ,λ_ _ j _=>all j⟩
  |pick c x y=>
   rw[f]at h;simp only at h;have F:=hk;rw[f]at F;obtain⟨S,q⟩:=zl F (x:=x) (by simp[opsOf]);obtain⟨T,L⟩:=zl F (x:=y) (by simp[opsOf]);have E:∀(t:Bool)(I:x6),cZ e c= .bool t->(execOp a.eval o).run P I= .ok (.value (if t=v2 then cZ e x else cZ e y)) I:=by
    intro t I G;rw[lA A hk (by simp[f])];unfold execOp;simp[f,G,asBool,V9]
   cases p:eS e c with
   |none=>rw[p]at h;exact h.elim
   |some O=>
    rw[p]at h;cases O with
    |b t=>
     cases t with
     |true=>
      simp only[q]at h;exact⟨_,_,λI _=>E v2 I (mX p),put h (by simp[mX q]),Ξ,λ_ _ I _=>E v2 I (mX p)⟩
     |false=>
      simp only[L]at h;exact⟨_,_,λI _=>E v6 I (mX p),put h (by simp[mX L]),Ξ,λ_ _ I _=>E v6 I (mX p)⟩
    |v z=>
     obtain⟨t,Q,G,R⟩:=h;have r:=λI=>E t I (by rw[mX p];exact Q);cases t with
     |true=>exact⟨_,_,λI _=>r I,put (G rfl) rfl,Ξ,λ_ _ I _=>r I⟩
     |false=>exact⟨_,_,λI _=>r I,put (R rfl) rfl,Ξ,λ_ _ I _=>r I⟩
    |u=>exact h.elim
  |call c=>
   rw[f]at h;simp only at h;cases p:c.callee with
   |builtin b=>
    rw[p]at h;simp only at h;rw[vE]at h;cases J:pS b c.argTypes o.type (c.args.map (cZ e))with
    |none=>rw[J]at h;exact h.elim
    |some s=>
     rw[J]at h;obtain⟨v,r,H⟩:=h;have all:∀I:x6,s.run P I= .ok v I->(execOp a.eval o).run P I= .ok (.value v) I:=λI r=>by
      rw[lA A hk (by simp[f])];unfold execOp;cases b<;>simp only[pS]at J<;>first|(cases J;done)|(cases J;simp[f,p,resolve,invoke,builtin,r,V2])
     exact⟨v,_,λI hw=>all I (r I hw),put H rfl,Ξ,λI h1 j C=>all j (h1 j C)⟩
   |value x=>rw[p]at h;exact h.elim
   |invoke x m=>rw[p]at h;exact h.elim
  |_=>
   rw[f]at h
   first
    |(simp only[q0]at h;done)
    |(obtain⟨v,r,H⟩:=h
      refine⟨v,_,λI hw=>?_,put H rfl,Ξ,λI h1 j C=>?_⟩
      .rw[lA A hk (by simp[f])];exact vG P (by rw[f];rfl) (r I hw)
      .rw[lA A hk (by simp[f])];exact vG P (by rw[f];rfl) (h1 j C))
def Hb{free:fM}{K:Env->x6->Prop}{Q:Exit->Act->x6->Prop}(h:vH P free o e w K)(p:R5 N e a)(C:kQ N o.dst=v2):
  o.wpIn (eK r) 0 P a w (fz N free K o a w) Q:=by
 unfold vH at h;cases hk:known e (opsOf o.op)with
 |false=>rw[hk]at h;exact h.elim
 |true=>
  rw[hk]at h;simp only[cond_true]at h;cases j:o.op with
  |call c=>
   rw[j]at h;simp only at h;cases E:c.callee with
   |builtin b=>
    rw[E]at h;simp only at h;rw[vE]at h;cases J:pS b c.argTypes o.type (c.args.map (cZ e))with
    |none=>rw[J]at h;exact h.elim
    |some s=>
     rw[J]at h;obtain⟨v,I,q,A,B⟩:=h;refine q1 p hk (by simp[j]) (by simp[j]) (v:=v) ?_ (fz.of B p C rfl λ_=>A.b);unfold execOp;cases b<;>simp only[pS]at J<;>first|(cases J;done)|(cases J;simp[j,E,resolve,invoke,builtin,q,V2])
   |value x=>
    rw[E]at h;have step:∀(d:Deferred)(y:x4),cZ e x=y->Deferred.ofValue y (c.args.map (cZ e))=pure d->
      (invoke d.target d.args).run P w=(execOp (cZ e) o).run P w:=by
     intro d y z S;unfold execOp;simp only[j,E,resolve,z,S,W9,V9,V2]
    have G:∀(g:Q6)(first cap:Array x4),cZ e x= .func (.func g) first cap->
      (execOp (cZ e) o).run P w=(callFunc g (first.toList++b5 (cZ e) c.args.toList++cap.toList).toArray).run P w:=by
     intro g first cap z
     rw[<-step {target:=.fn (.func g) cap,args:=first++c.args.map (cZ e)} _ z rfl];simp only[invoke];have H:first++c.args.map (cZ e)++cap=(first.toList++b5 (cZ e) c.args.toList++cap.toList).toArray:=by apply Array.toList_inj.1;simp[sU]
     rw[H]
    have enter:∀(g:Q6)(first cap:Array x4),cZ e x= .func (.func g) first cap->Enters P g->
      (execOp (cZ e) o).run P w= .ok (.enter g (first.toList++b5 (cZ e) c.args.toList++cap.toList).toArray) w:=by
     intro g first cap z F
     rw[G g first cap z,F]
    have go:∀(g:Q6)(first cap:Array x4),cZ e x= .func (.func g) first cap->
      (bif free.1 then gT P g (first.toList++b5 (cZ e) c.args.toList++cap.toList) w λv I=>K (ek e o.dst (.v v)) I
       else ak P g (first.toList++b5 (cZ e) c.args.toList++cap.toList) w λv I=>K (ek e o.dst (.v v)) I)->
      o.wpIn (eK r) 0 P a w (fz N free K o a w) Q:=by
     intro g first cap z h
     obtain⟨fr,T⟩:=free;cases fr with
     |true=>
      rcases h with⟨F,L⟩|⟨v,I,q,B⟩
      .refine⟨λ_ _=>trivial,?_⟩;rw[S0.semAt_eq _ _ _ (by simp[j]),lA p hk (by simp[j])];rw[enter g first cap z F];exact zk p C (L.Y λR I ⟨v,h1,M⟩=>⟨v,h1,(λh=>by cases h),M⟩)
      .rw[<-G g first cap z]at q;exact q1 p hk (by simp[j]) (by simp[j]) q (fz.of B p C rfl λh=>by cases h)
     |false=>
      rcases h with⟨F,L⟩|⟨v,I,q,A,B⟩
      .refine⟨λ_ _=>trivial,?_⟩;rw[S0.semAt_eq _ _ _ (by simp[j]),lA p hk (by simp[j])];rw[enter g first cap z F];exact zk p C (L.Y λR I ⟨v,h1,A,M⟩=>⟨v,h1,λ_=>A.b,M⟩)
      .rw[<-G g first cap z]at q;exact q1 p hk (by simp[j]) (by simp[j]) q (fz.of B p C rfl λ_=>A.b)
    have O:sV P free.1 (cZ e x) (b5 (cZ e) c.args.toList) w (λv I=>K (ek e o.dst (.v v)) I)->
      o.wpIn (eK r) 0 P a w (fz N free K o a w) Q:=by
     intro h;unfold sV at h;split at h
     .rename_i g first cap z
      exact go g first cap z h
     .rename_i l first cap z
      obtain⟨fn,tmps,U,body,V,W⟩:iZ P l (first.toList++b5 (cZ e) c.args.toList) w λv I=>(free.1=v6->cM free.2 w I)/\K (ek e o.dst (.v v)) I:=by
       obtain⟨fr,T⟩:=free;cases fr with
       |true=>exact iZ.Y h.2 λv I hk=>⟨(λh=>by cases h),hk⟩
       |false=>exact iZ.Y h λv I hk=>⟨λ_=>hk.1.b,hk.2⟩
      refine⟨λ_ _=>trivial,?_⟩;rw[S0.semAt_eq _ _ _ (by simp[j]),lA p hk (by simp[j])];have:(execOp (cZ e) o).run P w= .ok (.round l fn tmps U body) w:=by
       rw[<-step {target:=.fn (.yield l) cap,args:=first++c.args.map (cZ e)} _ z rfl,<-V];have H:(first.toList++b5 (cZ e) c.args.toList).toArray=first++c.args.map (cZ e):=by apply Array.toList_inj.1;simp[sU]
       rw[H];rfl
      rw[this,S0.uponIn_round];refine⟨vD _ _,?_⟩;have X:=W;refine RoundIn.mono X ?_;rintro R I ⟨v,rfl,A,B⟩;exact fz.of B p C rfl A
     .exact h.elim
    cases x with
    |func f=>exact go f #[] #[] rfl (by simpa using h)
    |tmp t=>exact O h
    |const v=>exact O h
    |global g=>exact O h
   |invoke x m=>rw[E]at h;exact h.elim
  |next x str=>
   rw[j]at h;obtain⟨v,I,q,A,B⟩:=h;refine q1 p hk (by simp[j]) (by simp[j]) (v:=v) ?_ (fz.of B p C rfl A);rw[G6 _ _ o.type]at q;unfold execOp;simp only[j,W9,q,V2,V9]
  |_=>
   rw[j]at h
   first
    |(simp only[q0,vF]at h;done)
    |(obtain⟨v,I,q,A,B⟩:=h
      exact q1 p hk (by simp[j]) (by simp[j]) (vG P (by rw[j];rfl) q) (fz.of B p C rfl λ_=>A.b))
    |(obtain⟨v,I,q,A,B⟩:=h
      exact Ha p hk (by simp[j]) (by simp[j]) (G7 P (by rw[j];rfl) q) (fz.of B p C rfl λ_=>A.b))
def sW{free:fM}{K:Env->x6->Prop}{Q:Exit->Act->x6->Prop}(h:pT P free o e w K)(j:R5 N e a)(p:kQ N o.dst=v2):
  o.wpIn (eK r) 0 P a w (fz N free K o a w) Q:=by
 unfold pT at h;cases q:kk o with
 |false=>rw[q]at h;exact Hb h j p
 |true=>
  rw[q]at h;have h:mW P o e w (λf _=>K f w):=h;obtain⟨v,st,s,⟨f,x,y⟩,z,_⟩:=zm h j p;refine⟨λ_ _=>trivial,?_⟩;rw[S0.semAt_eq _ _ _ z,s w (Ext.refl _),S0.uponIn_value];exact⟨f,v,x,y,T,λ_=>cM.refl _ _⟩
end
section
variable{P:V5}
def Still{α:Type}(P:V5)(s:Sem α):Prop:=∀w v U,s.run P w= .ok v U->U=w/\∀I,s.run P I= .ok v I
def Still.pure{α:Type}(a:α):Still P (Pure.pure a:Sem α):=λw v U h=>by
 rw[V9]at h;cases h;exact⟨T,λI=>by rw[V9]⟩
def Still.bind{α β:Type}{s:Sem α}{f:α->Sem β}(J:Still P s)(j:∀a,Still P (f a)):Still P (s >>= f):=λw v U h=>by
 rw[W9]at h;cases e:s.run P w with
 |halt x V=>rw[e]at h;simp[V2]at h
 |ok a V=>
  rw[e]at h;obtain⟨rfl,p⟩:=J w a V e;obtain⟨rfl,q⟩:=j a _ v U h;exact⟨T,λI=>by rw[W9,p I];exact q I⟩
def Still.never{α:Type}{s:Sem α}(h:∀w v U,s.run P w≠ .ok v U):Still P s:=λw v U aW=>ro aW (h w v U)
theorem Still.stuck{α:Type}(m:String):Still P (stuck m:Sem α):=.never λw v U h=>by simp[Go.stuck]at h
theorem Still.unsupported{α:Type}(m):Still P (unsupported m:Sem α):=.never λw v U h=>by simp[Go.unsupported]at h
theorem Still.program:Still P program:=λw v U h=>by cases h;exact⟨T,λ_=>rfl⟩
theorem Still.underlying(t:o5):Still P (underlying t):=Still.bind .program λp=>by
 cases p.underlying t with
 |some d=>exact Still.pure d
 |none=>exact Still.stuck _
theorem Still.typeInfo(t:o5):Still P (typeInfo t):=Still.bind .program λp=>by
 cases p.info? t with
 |some d=>exact Still.pure d
 |none=>exact Still.stuck _
theorem Still.sizeOf(t:o5):Still P (sizeOf t):=Still.bind (.typeInfo t) λ_=>Still.pure _
theorem Still.boundsPanic{α:Type}(k:j4)(x y:Int)(c:BoundsCode):Still P (boundsPanic k x y c:Sem α):=.never λw v U h=>by
 have e:∀(s:Sem Bool)(w:x6)(v:α)(U:x6),(s >>= λb=>(runtimePanic (.bounds (W5.wrap x) y b c):Sem α)).run P w≠ .ok v U:=by
  intro s w v U h;rw[W9]at h;cases f:s.run P w with
  |halt x V=>rw[f]at h;simp[V2]at h
  |ok a V=>rw[f]at h;simp[V2,Go.runtimePanic,Go.goPanic]at h
 unfold Go.boundsPanic at h;dsimp only at h;split at h
 .exact e _ _ _ _ h
 .exact e _ _ _ _ h
theorem Still.asIntOf(v:x4):Still P (asIntOf v):=by
 unfold Go.asIntOf;split
 .exact Still.pure _
 .exact Still.unsupported _
 .exact Still.stuck _
def Still.sureAddr(v:x4):Still P (Instr.sureAddr v):=by
 unfold Instr.sureAddr;split
 .exact Still.pure _
 .exact Still.stuck _
def Still.extract(v:x4)(i:Nat):Still P (Y8 v i):=by
 unfold Y8;split
 .split
  .exact Still.pure _
  .exact Still.stuck _
 .exact Still.stuck _
def Still.indexAt(t:o5)(x i:x4):Still P (b8 t x i):=by
 have tail:∀(t:o5)(k:j4)(i:Int)(base:Option Addr)(len:Nat)(e:o5),Still P (do
   let f:=len<=1&&(match <-Go.underlying t with| .array ..=>v2|_=>v6)
   match base with
   |some a=>
    if 0<=i/\i<len then Pure.pure (x4.pointer (σ (a.add (i.toNat*(<-Go.sizeOf e)))))
    else if f then Go.unsupported (.noEntry "op/indexAddr.an index out of range at an array of length 0 or 1 (ledger 616)")
    else Go.boundsPanic k i len .index
   |none=>Go.boundsPanic k i 0 .index):=by
  intro t k i base len e;refine .bind (.underlying t) λd=>?_;cases base with
  |none=>exact Still.boundsPanic _ _ _ _
  |some a=>
   dsimp only;split
   .exact .bind (.sizeOf e) λ_=>.pure _
   .split<;>split<;>first|exact Still.unsupported _|exact Still.boundsPanic _ _ _ _
 unfold b8;refine .bind (.asIntOf i) λh=>?_;refine .bind (.underlying t) λd=>?_;split
 .refine .bind (.sureAddr _) λb=>?_;refine .bind (.pure _) λy=>?_;exact tail _ _ _ _ _ _
 .refine .bind (.pure _) λy=>?_;exact tail _ _ _ _ _ _
 .refine .bind (.stuck _) λy=>?_;exact tail _ _ _ _ _ _
end
section
variable(P:V5)
def sX(free:fM)(ops:Array S0)(o:S0)(e:Env)(w:x6)(K:Env->x6->Prop):Prop:=
 match o.guard with
 |none=>pT P free o e w K
 |some (j,b)=>
  match(ops[j]?).bind (·.dst)with
  |none=>False
  |some s=>
   match look e s with
   |some (.b c)=>bif xor c b then K (ek e o.dst .u) w else pT P free o e w K
   |some (.v x)=>
    Split x (bif b then pT P free o ((s,.b v2)::e) w K else K (ek ((s,.b v2)::e) o.dst .u) w)
     (bif b then K (ek ((s,.b v6)::e) o.dst .u) w else pT P free o ((s,.b v6)::e) w K)
   |some .u=>K (ek e o.dst .u) w
   |none=>False
def pU(free:fM)(ops:Array S0):List S0->Env->x6->(Env->x6->Prop)->Prop
 |[],e,w,K=>K e w
 |o::l,e,w,K=>sX P free ops o e w λa I=>pU free ops l a I K
def vI(ops:Array S0)(o:S0)(e:Env)(w:x6)(K:Env->(x6->Prop)->Prop):Prop:=
 match o.guard with
 |none=>mW P o e w K
 |some (j,b)=>
  match(ops[j]?).bind (·.dst)with
  |none=>False
  |some s=>
   match look e s with
   |some (.b c)=>bif xor c b then K (ek e o.dst .u) (λ_=>True)else mW P o e w K
   |some (.v x)=>
    Split x (bif b then mW P o ((s,.b v2)::e) w K else K (ek ((s,.b v2)::e) o.dst .u) (λ_=>True))
     (bif b then K (ek ((s,.b v6)::e) o.dst .u) (λ_=>True)else mW P o ((s,.b v6)::e) w K)
   |some .u=>K (ek e o.dst .u) (λ_=>True)
   |none=>False
def mY(o:S0):Bool:=
 match o.op with
 | .move _| .assign _| .extract .. | .indexAddr ..=>v2
 |_=>v6
def nH(ops:Array S0):List Nat->Option Nat
 |[]=>ν
 |i::r=>match ops[i]? with
  |some o=>bif kk o then σ i else nH ops r
  |none=>nH ops r
def vJ(p:Nat->Prop):List Nat->Prop
 |[]=>True
 |[i]=>p i
 |i::r=>p i/\vJ p r
def l5(a:Array Nat)(j k:Nat):Bool:=!(S6 k j)&&(!((a.getD j 0).testBit k)&& !((a.getD k 0).testBit j))
def sY(same:Bool)(q:Nat)(w:x6)(st:x6->Prop)(a:List (x6×List (Nat×(x6->Prop)))):List (x6×List (Nat×(x6->Prop))):=
 match same,a with
 |true,g::r=>(g.1,(q,st)::g.2)::r
 |_,a=>(w,[(q,st)])::a
def q2(a:Array Nat)(j:Nat):List (Nat×(x6->Prop))->Bool
 |[]=>v6
 |x::r=>l5 a j x.1||q2 a j r
def pV(a:Array Nat)(j:Nat)(I:x6):List (Nat×(x6->Prop))->Prop
 |[]=>True
 |x::r=>bif l5 a j x.1 then x.2 I/\pV a j I r else pV a j I r
def oE(a:Array Nat)(j:Nat)(I:x6)(C:Prop):List (x6×List (Nat×(x6->Prop)))->Prop
 |[]=>C
 |g::r=>bif q2 a j g.2 then(Ext g.1 I\/pV a j I g.2)/\oE a j I C r else oE a j I C r
def nI(free:fM)(ops:Array S0)(f:Array Nat):Nat->Array Bool->Bool->List (x6×List (Nat×(x6->Prop)))->Env->x6->(Env->x6->Prop)->Prop
 |0,a,_,_,e,w,K=>match Region.ready .any ops a with|[]=>K e w|_=>False
 |fuel+1,a,same,h,e,w,K=>
  match Region.ready .any ops a with
  |[]=>K e w
  |i::r=>
   match nH ops (i::r)with
   |some q=>
    bif Region.free .any ops a q then
     match ops[q]? with
     |some o=>vI P ops o e w λp st=>
       bif mY o then nI free ops f fuel (a.setIfInBounds q v2) same h p w K
       else nI free ops f fuel (a.setIfInBounds q v2) v2 (sY same q w st h) p w K
     |none=>False
    else False
   |none=>
    vJ (λj=>match ops[j]? with
     |some o=>sX P free ops o e w λp I=>oE f j I (nI free ops f fuel (a.setIfInBounds j v2) v6 h p I K) h
     |none=>False) (i::r)
def vK(free:fM)(ops:Array S0)(e:Env)(w:x6)(K:Env->x6->Prop):Prop:=
 bif Region.noSelect ops then nI P free ops (Region.before ops) ops.size (Array.replicate ops.size v6) v6 [] e w K else False
end
section
variable{P:V5}{N:Nat}{r:Option Nat}{free:fM}{ops:Array S0}
def Hc{e:Env}{a:Act}(p:R5 N e a){s:Nat}{c:Bool}(q:(ops[j]?).bind (·.dst)=σ s){x:eJ}(J:look e s=σ x)(r:x.val= .bool c):
  yielded ops a.tmps j=σ c:=by
 have h:=p.2 s x J;rw[r]at h;have w:a.tmps[s]?=σ (.bool c):=by
  rw[Array.getD_eq_getD_getElem?]at h;cases f:a.tmps[s]? with
  |none=>rw[f]at h;simp[undef]at h
  |some y=>rw[f]at h;simpa using h
 simp[yielded,q,w]
def sZ{e:Env}{a:Act}(f:R5 N e a){o:S0}{s:Nat}{b c:Bool}(h:o.guard=σ (j,b))(p:(ops[j]?).bind (·.dst)=σ s){x:eJ}(J:look e s=σ x)(q:x.val= .bool c):Region.wanted o (yielded ops a.tmps)= !(xor c b):=by
 simp only[Region.wanted,h,Hc f p J q];cases c<;>cases b<;>rfl
def zn{e:Env}{a:Act}(p:R5 N e a){o:S0}{s:Nat}{b:Bool}(q:o.guard=σ (j,b))(r:(ops[j]?).bind (·.dst)=σ s)(J:look e s=σ .u):Region.wanted o (yielded ops a.tmps)=v6:=by
 have h:=p.2 s .u J;have w:yielded ops a.tmps j=ν:=by
  rw[Array.getD_eq_getD_getElem?]at h;unfold yielded;rw[r];cases f:a.tmps[s]? with
  |none=>simp[f]
  |some y=>
   rw[f]at h;simp only[W7,eJ.val]at h;subst h;simp[f,undef]
 simp[Region.wanted,q,w]
def R5.lit{e:Env}{a:Act}(h:R5 N e a){s:Nat}{x:eJ}{c:Bool}(J:look e s=σ x)(p:x.val= .bool c):R5 N ((s,.b c)::e) a:=by
 refine⟨h.1,λt y f=>?_⟩;simp only[look]at f;cases j:S6 s t with
 |true=>
  have:s=t:=Nat.eq_of_beq_eq_true j;subst this;simp only[j,cond_true,X7]at f;subst f;rw[h.2 s x J,p];rfl
 |false=>simp only[j,cond_false]at f;exact h.2 t y f
def zo{o:S0}{e:Env}{a:Act}{K:Env->x6->Prop}{Q:Exit->Act->x6->Prop}(h:sX P free ops o e w K)(f:R5 N e a)(p:kQ N o.dst=v2):
  (Region.wanted o (yielded ops a.tmps)=v2/\o.wpIn (eK r) 0 P a w (fz N free K o a w) Q)\/
  (Region.wanted o (yielded ops a.tmps)=v6/\fz N free K o a w (a.put o.dst undef) w):=by
 unfold sX at h;cases q:o.guard with
 |none=>rw[q]at h;exact .inl ⟨by simp[Region.wanted,q],sW h f p⟩
 |some F=>
  obtain⟨j,b⟩:=F;rw[q]at h;simp only at h;cases z:(ops[j]?).bind (·.dst)with
  |none=>rw[z]at h;exact h.elim
  |some s=>
   rw[z]at h;simp only at h;cases J:look e s with
   |none=>rw[J]at h;exact h.elim
   |some x=>
    rw[J]at h;cases x with
    |b c=>
     simp only at h;have hw:=sZ f q z J T;cases E:xor c b with
     |true=>
      rw[E]at h hw;exact .inr ⟨hw,fz.of h f p T λ_=>cM.refl _ _⟩
     |false=>
      rw[E]at h hw;exact .inl ⟨hw,sW h f p⟩
    |v y=>
     simp only at h;obtain⟨c,rfl,A,B⟩:=h;have hw:=sZ f q z J T;have C:=f.lit J T;cases c with
     |true=>
      have A:=A T;cases b with
      |true=>exact .inl ⟨hw,sW A C p⟩
      |false=>exact .inr ⟨hw,fz.of A C p T λ_=>cM.refl _ _⟩
     |false=>
      have B:=B T;cases b with
      |true=>exact .inr ⟨hw,fz.of B C p T λ_=>cM.refl _ _⟩
      |false=>exact .inl ⟨hw,sW B C p⟩
    |u=>exact .inr ⟨zn f q z J,fz.of h f p T λ_=>cM.refl _ _⟩
def gU(D:List Nat)(a a':Act):Prop:=a'.defers=a.defers/\∀t,t∉D->a'.tmps.getD t undef=a.tmps.getD t undef
def gU.refl(D:List Nat)(a:Act):gU D a a:=⟨T,λ_ _=>rfl⟩
def gU.F{a b c:Act}(h:gU D a b)(k:gU D b c):gU D a c:=⟨k.1.F h.1,λt e=>(k.2 t e).F (h.2 t e)⟩
def gU.put(a:Act){d:Option Tmp}(v:x4)(e:∀t,d=σ t->t∈D):gU D a (a.put d v):=by
 cases d with
 |none=>exact gU.refl _ _
 |some s=>
  refine⟨T,λt f=>?_⟩;have j:s≠t:=λh=>f (h▸e s T);simp only[Act.put,Array.getD_eq_getD_getElem?];rw[Array.getElem?_setIfInBounds_ne j]
def nJ(N:Nat)(free:fM)(K:Env->x6->Prop)(D:List Nat)(a:Act)(w:x6)(a':Act)(I:x6):Prop:=
 ∃e,K e I/\R5 N e a'/\gU D a a'/\(free.1=v6->cM free.2 w I)
def nJ.step{K:Env->x6->Prop}{a e a':Act}{U:x6}(h:nJ N free K D e U a' I)(hk:gU D a e)(j:free.1=v6->cM free.2 w U):
  nJ N free K D a w a' I:=by
 obtain⟨p,h1,q,r,s⟩:=h;exact⟨p,h1,q,hk.F r,λf=>(j f).F (s f)⟩
def oF(N:Nat)(l:List S0):Bool:=l.all λo=>kQ N o.dst
def Hd{K:Env->x6->Prop}{Q:Exit->Act->x6->Prop}(B:∀o∈ops.toList,∀t,o.dst=σ t->t∈D)(y:oF N ops.toList=v2):
  ∀(l:List S0)(k:Nat)(e:Env)(a:Act)(w:x6),(∀j,l[j]?=ops[k+j]?)->pU P free ops l e w K->R5 N e a->
   (∀a' I,nJ N free K D a w a' I->Q .normal a' I)->wpOpsIn (eK r) 0 P ops Q (List.range' k l.length) a w:=by
 intro l;induction l with
 |nil=>
  intro k e a w _ h f p;exact p a w ⟨e,h,f,gU.refl _ _,λ_=>cM.refl _ _⟩
 |cons o l C=>
  intro k e a w z h f p;have q:=z 0;simp only[List.getElem?_cons_zero,Nat.add_zero]at q;have A:o∈ops.toList:=by
   have:=q.symm;rw[<-Q0]at this;exact x7 this
  have E:kQ N o.dst=v2:=by
   simp only[oF,List.all_eq_true]at y;exact y o A
  have F:∀j,l[j]?=ops[k+1+j]?:=λj=>by
   have:=z (j+1);rw[List.getElem?_cons_succ]at this;rw[this];congr 1;omega
  have next:∀s U,fz N free (λG I=>pU P free ops l G I K) o a w s U->wpOpsIn (eK r) 0 P ops Q (List.range' (k+1) l.length) s U:=by
   rintro s U ⟨H,v,J,L,rfl,M⟩;refine C (k+1) H _ U F J L λa' I ac=>p a' I (ac.step (gU.put a v λt O=>B o A t O) M)
  simp only[pU]at h;show wpOpsIn (eK r) 0 P ops Q (k::List.range' (k+1) l.length) a w;unfold wpOpsIn;rw[<-q];simp only;rcases zo h f E with⟨hw,x⟩|⟨hw,x⟩
  .rw[ms hw];exact S0.wpIn_mono next x
  .rw[hw];exact⟨λ_ _=>trivial,next _ _ x⟩
def He{K:Env->x6->Prop}{Q:Exit->Act->x6->Prop}{id:Nat}{e:Env}{a:Act}(f:∀o∈ops.toList,∀t,o.dst=σ t->t∈D)(p:oF N ops.toList=v2)(h:pU P free ops ops.toList e w K)(q:R5 N e a)(s:∀a' I,nJ N free K D a w a' I->Q .normal a' I):
  (Code.region id ops v6).wpIn (eK r) 0 P Q a w:=by
 refine wpIn_region ?_;have:=Hd (r:=r) f p ops.toList 0 e a w (λj=>Ξ) h q s;rw[List.range_eq_range'];simpa using this
end
section
variable{P:V5}{N:Nat}{r:Option Nat}{free:fM}{ops:Array S0}{Q:Exit->Act->x6->Prop}
def Hf(e:Option Nat)(o:S0)(J:∀cs b,o.op≠ .select cs b)(a:Act)(d:Option Tmp)(v:x4)(h:∀t,d=σ t->t∉o.looksAt ops):
  o.semAt e (a.put d v).eval=o.semAt e a.eval:=by
 have he:=execOp_put o J a d v h;unfold S0.semAt;split
 .rename_i l c f;have:resolve (a.put d v).eval c o.type=resolve a.eval c o.type:=resolve_congr c o.type λx j=>Act.eval_put λt p q=>h t p (by
   subst q;refine List.mem_append_left _ (List.mem_filterMap.2 ⟨.tmp t,?_,T⟩);rw[f];simpa[Op.operands]using j)
  rw[this]
 .exact he
def nK(o:S0)(w0:x6)(st:x6->Prop)(I:x6):Prop:=mY o=v2\/Ext w0 I\/∃U,st U/\Ext U I
def nK.W{o:S0}{w0:x6}{st:x6->Prop}(h:nK o w0 st w)(k:Ext w I):nK o w0 st I:=by
 rcases h with h|h|⟨U,h1,a⟩
 .exact .inl h
 .exact .inr (.inl (h.F k))
 .exact .inr (.inr ⟨U,h1,a.F k⟩)
def Hg{o:S0}(hm:mY o=v2){e:R4->x4}(h:(execOp e o).run P w= .ok (.value v) w):(execOp e o).run P I= .ok (.value v) I:=by
 unfold mY at hm;split at hm
 .rename_i x a;unfold execOp at h ⊢;simp only[a,V9,Result.ok.injEq,and_true]at h ⊢;exact h
 .rename_i x a;unfold execOp at h ⊢;simp only[a,V9,Result.ok.injEq,and_true]at h ⊢;exact h
 .rename_i x i a;unfold execOp at h ⊢;simp only[a]at h ⊢;exact((Still.bind (Still.extract _ _) λ_=>Still.pure _) _ _ _ h).2 _
 .rename_i t x i a;unfold execOp at h ⊢;simp only[a]at h ⊢;exact((Still.bind (Still.indexAt _ _ _) λ_=>Still.pure _) _ _ _ h).2 _
 .cases hm
def jv(P:V5)(ops:Array S0)(o:S0)(v:x4)(a:Act)(w0:x6->Prop):Prop:=
 (Region.wanted o (yielded ops a.tmps)=v2/\(∀c,o.op≠ .defer c)/\∀I,w0 I->(execOp a.eval o).run P I= .ok (.value v) I)\/
 (Region.wanted o (yielded ops a.tmps)=v6/\v=undef)
def jv.put{o e:S0}{a:Act}{w0:x6->Prop}(f:jv P ops o v a w0)(J:∀cs b,o.op≠ .select cs b)(h:∀t,e.dst=σ t->t∉o.looksAt ops)(u:x4):
  jv P ops o v (a.put e.dst u) w0:=by
 unfold jv at*;rw[execOp_put o J a e.dst u h,wanted_put o a e.dst u h];exact f
def jv.go{i:Nat}{e:S0}{a:Act}{w0:x6->Prop}(hi:ops[i]?=σ e)(f:jv P ops e v a w0)(hw:w0 w){K:Act->x6->Prop}(h:K (a.put e.dst v) w):
  wpOpIn (eK r) 0 P ops Q i K a w:=by
 unfold wpOpIn;simp only[hi];rcases f with⟨h1,j,p⟩|⟨h1,rfl⟩
 .rw[ms h1];refine⟨λ_ _=>trivial,?_⟩;rw[S0.semAt_eq _ _ _ j,p w hw,S0.uponIn_value];exact h
 .rw[h1];exact⟨λ_ _=>trivial,h⟩
def Hh{p s:S0}(B:ops[j]?=σ s)(C:p.apart ops s=v2)(E:∀cs b,p.op≠ .select cs b)(F:∀cs b,s.op≠ .select cs b)(z:∀c a w,¬Q (.panic c) a w){K:Act->x6->Prop}{a:Act}{w:x6}{w0:x6->Prop}(q:jv P ops p v a w0)(h:wpOpIn (eK r) 0 P ops Q j K (a.put p.dst v) w):
  wpOpIn (eK r) 0 P ops Q j (λa' I=>jv P ops p v a' w0/\K (a'.put p.dst v) I) a w:=by
 obtain⟨h1,y,G⟩:=S0.apart_spec C;have aX:∀(a:Act),jv P ops p v a w0->∀u,jv P ops p v (a.put s.dst u) w0:=λa q u=>q.put E G u;have H:∀d,jv P ops p v {a with defers:=d::a.defers} w0:=λd=>q;unfold wpOpIn at*;simp only[B]at*;rw[wanted_put s a p.dst v h1]at h;split
 .rename_i hw;simp only[hw,if_true]at h;obtain⟨_,h⟩:=h;refine⟨λ_ _=>trivial,?_⟩;rw[Hf _ s F a p.dst v h1]at h;generalize (s.semAt (eK r).round a.eval).run P w=J at*;cases J with
  |ok n I=>
   cases n<;>simp only[S0.uponIn]at h ⊢
   case value u=>exact⟨aX a q u,by rw[<-Act.put_comm a v u y];exact h⟩
   case skip=>exact⟨aX a q _,by rw[<-Act.put_comm a v undef y];exact h⟩
   case defer d=>
    refine⟨aX _ (H d) _,?_⟩;rw[<-Act.put_comm _ v undef y,<-Act.put_defers];exact h
   case enter f args=>
    refine⟨h.1,CallsIn.mono h.2 λe A he=>?_⟩;cases e with
    |returned u=>exact⟨aX a q u,by rw[<-Act.put_comm a v u y];exact he⟩
    |panicked c=>exact ro he (z _ _ _)
    |outgrown=>exact he
   case row row args=>exact⟨h.1,RowsIn.mono h.2 λu A he=>⟨aX a q u,by rw[<-Act.put_comm a v u y];exact he⟩⟩
   case round l f tmps L body=>
    refine⟨h.1,RoundIn.mono h.2 λe A he=>?_⟩;cases e with
    |returned u=>exact⟨aX a q u,by rw[<-Act.put_comm a v u y];exact he⟩
    |panicked c=>exact ro he (z _ _ _)
    |outgrown=>exact he
  |halt x I=>
   cases x<;>simp only[S0.uponIn]at h ⊢
   case panic u=>exact ro h (z _ _ _)
 .rename_i hw;simp only[hw]at h;exact⟨λ_ _=>trivial,aX a q _,by rw[<-Act.put_comm a v undef y];exact h.2⟩
def mZ(ops:Array S0)(a:Array Nat):Bool:=
 (X9 ops.size).all λj=>(X9 ops.size).all λk=>!((a.getD j 0).testBit k)||
  (match ops[j]? with
   |some o=>o.after.any λe=>Region.binds .any e&&Nat.blt e.on j&&(S6 e.on k||(a.getD e.on 0).testBit k)
   |none=>v6)
def Down(ops:Array S0)(a:Array Bool):Prop:=
 ∀(x:Nat)(o:S0),ops[x]?=σ o->a.getD x v6=v2->∀e∈o.after,Region.binds .any e=v2->a.getD e.on v6=v2
def zp{f:Array Nat}(p:mZ ops f=v2){k:Nat}(r:j<ops.size)(hk:k<ops.size)(h:(f.getD j 0).testBit k=v2):
  ∃o,ops[j]?=σ o/\∃e∈o.after,Region.binds .any e=v2/\e.on<j/\(e.on=k\/(f.getD e.on 0).testBit k=v2):=by
 simp only[mZ,List.all_eq_true,S1]at p;have:=p j r k hk;rw[h]at this;simp only[X3,Bool.false_or]at this;cases q:ops[j]? with
 |none=>rw[q]at this;cases this
 |some o=>
  rw[q]at this;obtain⟨e,he,a⟩:=Array.any_eq_true'.1 this;simp only[U9,Nat.blt_eq,Bool.or_eq_true]at a;exact⟨o,T,e,he,a.1.1,a.1.2,a.2.imp (λh=>Nat.eq_of_beq_eq_true h) id⟩
def Hi{f:Array Nat}{a:Array Bool}(q:mZ ops f=v2)(r:Down ops a):∀(j k:Nat),j<ops.size->k<ops.size->a.getD j v6=v2->
  (f.getD j 0).testBit k=v2->a.getD k v6=v2:=by
 intro j;induction j using Nat.strongRecOn with
 |_ j s=>
  intro k w hk x h;obtain⟨o,y,e,he,z,A,h⟩:=zp q w hk h;have p:=r j o y x e he z;rcases h with rfl|h
  .exact p
  .exact s e.on A k Ω hk p h
def zq{f:Array Nat}{a:Array Bool}(p:mZ ops f=v2)(w:Down ops a){k:Nat}(hk:k<ops.size)(x:j∈Region.ready .any ops a)(h:(f.getD j 0).testBit k=v2):a.getD k v6=v2:=by
 obtain⟨_,o,q,y⟩:=mem_ready.1 x;have z:=(Z0.1 q).1;obtain⟨o',r,e,he,A,B,h⟩:=zp p z hk h;rw[q]at r;cases r;have s:=y e he A;rcases h with rfl|h
 .exact s
 .exact Hi p w e.on k Ω hk s h
def Down.set{a:Array Bool}(r:Down ops a){i:Nat}(s:i∈Region.ready .any ops a):Down ops (a.setIfInBounds i v2):=by
 intro x o f h e he j;by_cases p:x=i
 .subst p;obtain⟨_,o',q,w⟩:=mem_ready.1 s;rw[f]at q;cases q;exact getD_set_true (w e he j)
 .rw[getD_set_ne v6 (R7 p)]at h;exact getD_set_true (r x o f h e he j)
def vL{a:Array Bool}{k:Nat}(h:a.getD k v2=v6):a.getD k v6=v6:=by
 rcases Nat.lt_or_ge k a.size with aW|aW
 .simpa[aW]using h
 .simp[Array.getElem?_eq_none aW]at h
def nL(ops:Array S0)(i:Nat):Bool:=match ops[i]? with
 |some o=>kk o
 |none=>v6
def nM(a:Array Nat)(e:List (x6×List (Nat×(x6->Prop))))(j:Nat)(I:x6):Prop:=∀g∈e,∀x∈g.2,l5 a j x.1=v2->Ext g.1 I\/x.2 I
theorem vM{e:Array Nat}{j:Nat}{I:x6}:∀{l:List (Nat×(x6->Prop))},pV e j I l->∀x∈l,l5 e j x.1=v2->x.2 I
 |[],_,_,h,_=>by cases h
 |y::l,h,x,a,hu=>by
  unfold pV at h;cases f:l5 e j y.1 with
  |true=>
   rw[f]at h;cases a with
   |head=>exact h.1
   |tail _ a=>exact vM h.2 x a hu
  |false=>
   rw[f]at h;cases a with
   |head=>rw[f]at hu;cases hu
   |tail _ a=>exact vM (show pV e j I l from h) x a hu
theorem zr{e:Array Nat}{j:Nat}:∀{l:List (Nat×(x6->Prop))},q2 e j l=v6->∀x∈l,l5 e j x.1=v6
 |[],_,_,h=>by cases h
 |y::l,h,x,a=>by
  simp only[q2,U1]at h;cases a with
  |head=>exact h.1
  |tail _ a=>exact zr h.2 x a
theorem vN{p:Array Nat}{j:Nat}{I:x6}{C:Prop}:∀{w:List (x6×List (Nat×(x6->Prop)))},oE p j I C w->C/\nM p w j I
 |[],h=>⟨h,λg y=>by cases y⟩
 |g::r,h=>by
  unfold oE at h;cases hu:q2 p j g.2 with
  |true=>
   rw[hu]at h;obtain⟨h1,q⟩:=vN h.2;refine⟨h1,λs a x f e=>?_⟩;cases a with
   |head=>exact h.1.imp id λh=>vM h x f e
   |tail _ a=>exact q s a x f e
  |false=>
   rw[hu]at h;obtain⟨h1,q⟩:=vN (show oE p j I C r from h);refine⟨h1,λs a x f e=>?_⟩;cases a with
   |head=>rw[zr hu x f]at e;cases e
   |tail _ a=>exact q s a x f e
def vO(ops:Array S0)(a:Array Nat)(e:List (x6×List (Nat×(x6->Prop))))(j:Nat)(w I:x6):Prop:=(nL ops j=v2->Ext w I)/\(nL ops j=v6->nM a e j I)
def jT(r:Option Nat)(P:V5)(ops:Array S0)(f:Array Nat)(Q:Exit->Act->x6->Prop):Nat->Array Bool->List (x6×List (Nat×(x6->Prop)))->Act->x6->Prop
 |0,e,_,a,w=>Region.ready .any ops e=[]/\Q .normal a w
 |fuel+1,e,h,a,w=>(Region.ready .any ops e=[]->Q .normal a w)/\
  ∀i∈Region.ready .any ops e,wpOpIn (eK r) 0 P ops Q i (λa' I=>vO ops f h i w I/\jT r P ops f Q fuel (e.setIfInBounds i v2) h a' I) a w
theorem jT.any{f:Array Nat}:∀(fuel:Nat)(e:Array Bool)(j:List (x6×List (Nat×(x6->Prop))))(a:Act)(w:x6),jT r P ops f Q fuel e j a w->wpAnyIn (eK r) 0 P .any ops Q fuel e a w
 |0,_,_,_,_,h=>h
 |fuel+1,_,_,_,_,h=>⟨h.1,λi hi=>wpOpIn_mono (λa' I aW=>jT.any fuel _ _ a' I aW.2) (h.2 i hi)⟩
def Hj{a:Array Nat}{e:Array Bool}(f:mZ ops a=v2)(p:Down ops e){i:Nat}{s:S0}(hi:ops[i]?=σ s)(q:i∈Region.ready .any ops e)(r:j∈Region.ready .any ops e)(w:j≠i):l5 a j i=v2:=by
 have x:=(Z0.1 hi).1;obtain⟨y,C,z,_⟩:=mem_ready.1 r;have A:=(Z0.1 z).1;have B:=(mem_ready.1 q).1;simp only[l5,U9,Bool.not_eq_true'];refine⟨?_,?_,?_⟩
 .cases h:S6 i j with
  |true=>exact ro (Nat.eq_of_beq_eq_true h).symm w
  |false=>rfl
 .cases h:(a.getD j 0).testBit i with
  |true=>have:=zq f p x r h;rw[vL B]at this;cases this
  |false=>rfl
 .cases h:(a.getD i 0).testBit j with
  |true=>have:=zq f p A q h;rw[vL y]at this;cases this
  |false=>rfl
def jT.take{q:Array Nat}(V:mZ ops q=v2)(W:Region.noSelect ops=v2)(X:∀c a w,¬Q (.panic c) a w){i:Nat}{p:S0}(hi:ops[i]?=σ p)(Y:kk p=v2){w0:x6}{B C:List (x6×List (Nat×(x6->Prop)))}(K:∀j I,nM q C j I->nM q B j I){st:x6->Prop}(Z:mY p=v6->∀j I,l5 q j i=v2->nM q C j I->Ext w0 I\/st I):
  ∀(fuel:Nat)(f:Array Bool)(a:Act)(w:x6),Down ops f->
   (∀j z,ops[j]?=σ z->j≠i->f.getD j v2=v6->(∀e∈z.after,Region.binds .any e=v2->e.on≠i)->p.apart ops z=v2)->
   i∈Region.ready .any ops f->jv P ops p v a (nK p w0 st)->nK p w0 st w->
   jT r P ops q Q fuel (f.setIfInBounds i v2) C (a.put p.dst v) w->jT r P ops q Q (fuel+1) f B a w:=by
 have L:=Region.noSelect_spec W;have aa:nL ops i=v2:=by simp[nL,hi,Y]
 have i7:∀(fuel:Nat)(f:Array Bool)(a:Act)(w:x6),jT r P ops q Q fuel f C a w->jT r P ops q Q fuel f B a w:=by
  intro fuel;induction fuel with
  |zero=>intro f a w h;exact h
  |succ fuel F=>intro f a w h;exact⟨h.1,λj x=>wpOpIn_mono (λa' I aW=>⟨⟨aW.1.1,λG=>K _ _ (aW.1.2 G)⟩,F _ a' I aW.2⟩) (h.2 j x)⟩
 have M:∀w,vO ops q B i w w:=λw=>⟨λ_=>Ext.refl _,λh=>by rw[aa]at h;cases h⟩;intro fuel;induction fuel with
 |zero=>
  intro f a w _ _ y E hw H;refine⟨λh=>(by rw[h]at y;cases y),λj x=>?_⟩;by_cases s:j=i
  .subst s;exact E.go hi hw ⟨M w,i7 _ _ _ _ H⟩
  .have:=ready_mono x s;rw[H.1]at this;cases this
 |succ fuel F=>
  intro f a w N O y E hw H;refine⟨λh=>(by rw[h]at y;cases y),λj x=>?_⟩;by_cases s:j=i
  .subst s;exact E.go hi hw ⟨M w,i7 _ _ _ _ H⟩
  .have h1:=H.2 j (ready_mono x s);have hu:=Hj V N hi y x s;obtain⟨R,z,J,ab⟩:=mem_ready.1 x;have ac:∀e∈z.after,Region.binds .any e=v2->e.on≠i:=λe he ad ae=>by
    have h1:=ab e he ad;rw[ae,vL (mem_ready.1 y).1]at h1;cases h1
   have af:=Hh J (O j z J s R ac) (λcs b=>L i p cs b hi) (λcs b=>L j z cs b J) X E h1;have ag:∀k ok,ops[k]?=σ ok->k≠i->(f.setIfInBounds j v2).getD k v2=v6->
     (∀e∈ok.after,Region.binds .any e=v2->e.on≠i)->p.apart ops ok=v2:=λk ok hk ah S ai=>by
    refine O k ok hk ah ?_ ai;by_cases T:j=k
    .subst T;exact R
    .rw[getD_set_ne v2 T]at S;exact S
   refine wpOpIn_mono (λa' I A=>⟨⟨A.2.1.1,λG=>K _ _ (A.2.1.2 G)⟩,F (f.setIfInBounds j v2) a' I (N.set x) ag (ready_mono y (R7 s)) A.1 ?_ ?_⟩) af
   .cases hm:mY p with
    |true=>exact .inl hm
    |false=>
     cases U:nL ops j with
     |true=>exact hw.W (A.2.1.1 U)
     |false=>exact .inr ((Z hm j I hu (A.2.1.2 U)).imp id λh=>⟨I,h,Ext.refl _⟩)
   .rw[Array.setIfInBounds_comm _ _ s];exact A.2.2
theorem zs{p:Nat->Prop}:∀{l:List Nat},vJ p l->∀i∈l,p i
 |[],_,_,h=>by cases h
 |[i],h,j,a=>by cases a with
  |head=>exact h
  |tail _ h=>cases h
 |i::k::l,h,j,a=>by
  obtain⟨h1,e⟩:=h;cases a with
  |head=>exact h1
  |tail _ a=>exact zs e j a
theorem vP:∀{l:List Nat}{q:Nat},nH ops l=σ q->q∈l/\∃o,ops[q]?=σ o/\kk o=v2
 |[],q,h=>by cases h
 |i::l,q,h=>by
  simp only[nH]at h;cases a:ops[i]? with
  |none=>rw[a]at h;obtain⟨h1,e⟩:=vP h;exact⟨.tail _ h1,e⟩
  |some o=>
   rw[a]at h;simp only at h;cases f:kk o with
   |true=>rw[f]at h;simp only[cond_true,X7]at h;subst h;exact⟨.head _,o,a,f⟩
   |false=>rw[f]at h;obtain⟨h1,e⟩:=vP h;exact⟨.tail _ h1,e⟩
def Hk{o:S0}{e:Env}{a:Act}{K:Env->(x6->Prop)->Prop}(h:vI P ops o e w K)(f:R5 N e a)(F:kQ N o.dst=v2):
  ∃v st,jv P ops o v a (nK o w st)/\∃p,K p st/\R5 N p (a.put o.dst v):=by
 unfold vI at h;have z:∀{e:Env},R5 N e a->mW P o e w K->Region.wanted o (yielded ops a.tmps)=v2->∃v st,jv P ops o v a (nK o w st)/\∃p,K p st/\R5 N p (a.put o.dst v):=λf h hw=>by
  obtain⟨v,st,h1,G,H,L⟩:=zm h f F;exact⟨v,st,.inl ⟨hw,H,λI A=>A.elim (λhm=>Hg hm (h1 w (Ext.refl w))) λh=>h.elim (h1 I) λ⟨U,M,O⟩=>L U M I O⟩,G⟩
 have skip:∀{e:Env},R5 N e a->K (ek e o.dst .u) (λ_=>True)->Region.wanted o (yielded ops a.tmps)=v6->∃v st,jv P ops o v a (nK o w st)/\∃p,K p st/\R5 N p (a.put o.dst v):=λf h hw=>
  ⟨undef,_,.inr ⟨hw,T⟩,_,h,f.put F T⟩
 cases q:o.guard with
 |none=>rw[q]at h;exact z f h (by simp[Region.wanted,q])
 |some Q=>
  obtain⟨j,b⟩:=Q;rw[q]at h;simp only at h;cases r:(ops[j]?).bind (·.dst)with
  |none=>rw[r]at h;exact h.elim
  |some s=>
   rw[r]at h;simp only at h;cases J:look e s with
   |none=>rw[J]at h;exact h.elim
   |some x=>
    rw[J]at h;cases x with
    |b c=>
     simp only at h;have hw:=sZ f q r J T;cases A:xor c b with
     |true=>rw[A]at h hw;exact skip f h hw
     |false=>rw[A]at h hw;exact z f h hw
    |v y=>
     simp only at h;obtain⟨c,rfl,B,C⟩:=h;have hw:=sZ f q r J T;have E:=f.lit J T;cases c with
     |true=>
      have B:=B T;cases b with
      |true=>exact z E B hw
      |false=>exact skip E B hw
     |false=>
      have C:=C T;cases b with
      |true=>exact skip E C hw
      |false=>exact z E C hw
    |u=>exact skip f h (zn f q r J)
theorem vQ:∀{l:List Nat},nH ops l=ν->∀j∈l,nL ops j=v6
 |[],_,_,h=>by cases h
 |i::l,h,j,a=>by
  simp only[nH]at h;cases e:ops[i]? with
  |none=>
   rw[e]at h;cases a with
   |head=>simp[nL,e]
   |tail _ a=>exact vQ h j a
  |some o=>
   rw[e]at h;simp only at h;cases f:kk o with
   |true=>rw[f]at h;cases h
   |false=>
    rw[f]at h;cases a with
    |head=>simp[nL,e,f]
    |tail _ a=>exact vQ h j a
def Hl{p:Array Nat}{same:Bool}{q:Nat}{st:x6->Prop}{e:List (x6×List (Nat×(x6->Prop)))}(J:same=v2->∃a r,e=(w,a)::r):
  (∀j I,nM p (sY same q w st e) j I->nM p e j I)/\(∀j I,l5 p j q=v2->nM p (sY same q w st e) j I->Ext w I\/st I)/\∃a r,sY same q w st e=(w,a)::r:=by
 cases same with
 |true=>
  obtain⟨a,r,rfl⟩:=J T;refine⟨λj I h g f x s hu=>?_,λj I hu h=>h (w,(q,st)::a) (.head _) (q,st) (.head _) hu,_,_,T⟩;cases f with
  |head=>exact h (w,(q,st)::a) (.head _) x (.tail _ s) hu
  |tail _ f=>exact h g (.tail _ f) x s hu
 |false=>
  refine⟨λj I h g f x s hu=>h g (.tail _ f) x s hu,λj I hu h=>h (w,[(q,st)]) (.head _) (q,st) (.head _) hu,_,_,T⟩
def Hm{K:Env->x6->Prop}{z:Array Nat}(W:mZ ops z=v2)(X:Region.noSelect ops=v2)(Y:∀c a w,¬Q (.panic c) a w)(M:∀o∈ops.toList,∀t,o.dst=σ t->t∈D)(Z:oF N ops.toList=v2):
  ∀(fuel:Nat)(p:Array Bool)(same:Bool)(s:List (x6×List (Nat×(x6->Prop))))(e:Env)(a:Act)(w:x6),Down ops p->(same=v2->∃ag r,s=(w,ag)::r)->
   nI P free ops z fuel p same s e w K->R5 N e a->
   (∀a' I,nJ N free K D a w a' I->Q .normal a' I)->jT r P ops z Q fuel p s a w:=by
 have F:∀{j:Nat}{o:S0},ops[j]?=σ o->o∈ops.toList:=λh=>by
  rw[<-Q0]at h;exact x7 h
 have ok:∀{j:Nat}{o:S0},ops[j]?=σ o->kQ N o.dst=v2:=λh=>by
  simp only[oF,List.all_eq_true]at Z;exact Z _ (F h)
 intro fuel;induction fuel with
 |zero=>
  intro p same s e a w A O h C B;unfold nI at h;cases x:Region.ready .any ops p with
  |nil=>rw[x]at h;exact⟨x,B a w ⟨e,h,C,gU.refl _ _,λ_=>cM.refl _ _⟩⟩
  |cons i l=>rw[x]at h;exact h.elim
 |succ fuel R=>
  intro p same s e a w A O h C B;unfold nI at h;cases x:Region.ready .any ops p with
  |nil=>
   rw[x]at h;refine⟨λ_=>B a w ⟨e,h,C,gU.refl _ _,λ_=>cM.refl _ _⟩,λi hi=>?_⟩;rw[x]at hi;cases hi
  |cons i l=>
   rw[x]at h;simp only at h;cases G:nH ops (i::l)with
   |some q=>
    rw[G]at h;simp only at h;obtain⟨ah,o,f,aa⟩:=vP G;cases H:Region.free .any ops p q with
    |false=>rw[H]at h;exact h.elim
    |true=>
     rw[H,f]at h;simp only[cond_true]at h;obtain⟨v,st,ab,J,y,ad⟩:=Hk h C (ok f);have L:q∈Region.ready .any ops p:=by rw[x];exact ah
     cases hm:mY o with
     |true=>
      rw[hm]at y;refine jT.take W X Y f aa (λ_ _ h=>h) (λh=>by rw[hm]at h;cases h) fuel p a w A (Region.free_spec f H) L ab (.inr (.inl (Ext.refl _))) ?_;exact R _ same s J _ w (A.set L) O y ad λa' I ac=>B a' I (ac.step (gU.put a v λt E=>M o (F f) t E) λ_=>cM.refl _ _)
     |false=>
      rw[hm]at y;obtain⟨h1,ai,aj⟩:=Hl O;refine jT.take W X Y f aa h1 (λ_=>ai) fuel p a w A (Region.free_spec f H) L ab (.inr (.inl (Ext.refl _))) ?_;exact R _ v2 _ J _ w (A.set L) (λ_=>aj) y ad λa' I ac=>B a' I (ac.step (gU.put a v λt E=>M o (F f) t E) λ_=>cM.refl _ _)
   |none=>
    rw[G]at h;simp only at h;refine⟨(λae=>by rw[x]at ae;cases ae),λj af=>?_⟩;have S:=af;rw[x]at S;have ak:=vQ G j S;have ac:=zs h j S;cases f:ops[j]? with
    |none=>rw[f]at ac;exact ac.elim
    |some o=>
     rw[f]at ac;simp only at ac;unfold wpOpIn;simp only[f];have next:∀T U,fz N free (λJ I=>oE z j I (nI P free ops z fuel (p.setIfInBounds j v2) v6 s J I K) s) o a w T U->
       vO ops z s j w U/\jT r P ops z Q fuel (p.setIfInBounds j v2) s T U:=by
      rintro T U ⟨al,v,y,am,rfl,an⟩;obtain⟨y,ao⟩:=vN y;exact⟨⟨λh=>(by rw[ak]at h;cases h),λ_=>ao⟩,
       R _ v6 s al _ U (A.set af) (λh=>by cases h) y am λa' I ac=>B a' I (ac.step (gU.put a v λt E=>M o (F f) t E) an)⟩
     rcases zo ac C (ok f)with⟨hw,V⟩|⟨hw,V⟩
     .rw[ms hw];exact S0.wpIn_mono next V
     .rw[hw];exact⟨λ_ _=>trivial,next _ _ V⟩
def Hn(hm:P.follows .mixedOrders=v2){K:Env->x6->Prop}{id:Nat}{e:Env}{a:Act}(p:mZ ops (Region.before ops)=v2)(q:∀c a w,¬Q (.panic c) a w)(s:∀o∈ops.toList,∀t,o.dst=σ t->t∈D)(y:oF N ops.toList=v2)(h:∀I,Ext w I->Ext I w->cQ w I->vK P free ops e I K)(z:R5 N e a)(A:∀a' I,nJ N free K D a w a' I->Q .normal a' I):
  (Code.region id ops v2).wpIn (eK r) 0 P Q a w:=by
 refine wpIn_region_any hm ?_;have h:=h {w with drawn:=w.drawn+1} (sR w _) ⟨o4 _,λ_ _ h _=>h⟩ (qX w _ (Nat.le_succ _));unfold vK at h;cases f:Region.noSelect ops with
 |false=>rw[f]at h;exact h.elim
 |true=>
  rw[f]at h;refine jT.any _ _ _ _ _ (Hm p f q s y ops.size _ v6 [] e a _ ?_ (λh=>by cases h) h z λa' I ac=>A a' I (ac.step (gU.refl _ _) λ_=>(qX w _ (Nat.le_succ _)).b));intro x o _ j;rcases Nat.lt_or_ge x ops.size with aW|aW
  .simp[aW]at j
  .simp[aW]at j
end
def kl(t:Nat):List Nat->Bool
 |[]=>v6
 |s::r=>bif S6 s t then v2 else kl t r
theorem vR{t:Nat}:∀{l:List Nat},kl t l=v2↔t∈l
 |[]=>by simp[kl]
 |s::r=>by
  simp only[kl];cases h:S6 s t with
  |true=>simp[Nat.eq_of_beq_eq_true h]
  |false=>
   have:=Nat.ne_of_beq_eq_false h;simp[vR,R7 this]
def oG:List S0->List Nat
 |[]=>[]
 |o::l=>match o.dst with
  |some d=>d::oG l
  |none=>oG l
def tmpsOf:List R4->List Nat
 |[]=>[]
 | .tmp t::l=>t::tmpsOf l
 |_::l=>tmpsOf l
def Ho(ops:Array S0)(o:S0):List Nat:=
 match o.guard with
 |some (j,_)=>match(ops[j]?).bind (·.dst)with
  |some s=>[s]
  |none=>[]
 |none=>[]
def s3(D:List Nat):List Nat->List Nat
 |[]=>[]
 |t::r=>bif kl t D then s3 D r else t::s3 D r
def vS(D:List Nat):List Nat->List Nat
 |[]=>[]
 |t::r=>bif kl t D then t::vS D r else vS D r
def zt(ops:Array S0):List S0->List Nat->List Nat
 |[],_=>[]
 |o::l,D=>s3 D (tmpsOf (opsOf o.op)++Ho ops o)++zt ops l (match o.dst with
  |some d=>d::D
  |none=>D)
def dJ:Code->List Nat
 | .region _ ops _=>oG ops.toList
 | .seq a b=>dJ a++dJ b
 | .cond _ a b=>dJ a++dJ b
 | .block _ c=>dJ c
 | .loop c=>dJ c
 | .scope c=>dJ c
 |_=>[]
def kR(id:Nat):Code->Nat
 | .seq a b=>kR id a+kR id b
 | .cond _ a b=>kR id a+kR id b
 | .block _ c=>kR id c
 | .loop c=>kR id c
 | .scope c=>kR id c
 | .exit i=>bif S6 i id then 1 else 0
 | .rangeFunc _ _ _ b=>kR id b
 |_=>0
def Hp(ops:Array S0):Bool:=
 let a:=Region.before ops;let e:=λ(i:Nat)=>match ops[i]? with|some o=>!(kk o)|none=>v6
 (X9 ops.size).any λj=>e j&&((X9 j).any λi=>e i&&(!((a.getD j 0).testBit i)&& !((a.getD i 0).testBit j)))
def l6:Code->Nat
 | .region _ ops e=>bif (e&&Hp ops)||ops.any (·.guard.isSome)then 2 else 1
 | .seq a b=>bif S6 (l6 a) 0 then 0 else l6 b
 | .cond _ a b=>l6 a+l6 b
 | .block id c=>l6 c+kR id c
 | .loop _=>0
 | .scope c=>l6 c
 | .exit _=>0
 | .goto _=>0
 | .ret=>0
 | .refuse _=>0
 |_=>1
def m4:Code->List Nat
 | .region _ ops _=>oG ops.toList
 | .seq a b=>m4 a++m4 b
 | .cond _ a b=>bif S6 (l6 a) 0 then m4 b else bif S6 (l6 b) 0 then m4 a else vS (m4 a) (m4 b)
 | .block id c=>bif S6 (kR id c) 0 then m4 c else[]
 | .scope c=>m4 c
 |_=>[]
def reads:Code->List Nat
 | .region _ ops _=>zt ops ops.toList []
 | .seq a b=>reads a++s3 (m4 a) (reads b)
 | .cond c a b=>tmpsOf [c]++(reads a++reads b)
 | .block _ c=>reads c
 | .loop c=>reads c
 | .scope c=>reads c
 | .rangeFunc f _ a b=>tmpsOf [f]++(reads a++reads b)
 |_=>[]
def lB:Code->Bool
 | .seq a b=>lB a||lB b
 | .cond _ a b=>lB a||lB b
 | .block _ c=>lB c
 | .loop c=>lB c
 | .scope c=>lB c
 | .rangeFunc ..=>v2
 |_=>v6
def wf(N:Nat):Code->Bool
 | .region _ ops e=>oF N ops.toList&&(!e||mZ ops (Region.before ops))
 | .seq a b=>wf N a&&wf N b
 | .cond _ a b=>wf N a&&wf N b
 | .block _ c=>wf N c
 | .loop c=>wf N c
 | .scope c=>wf N c
 | .rangeFunc _ f a b=>(f.toList.all λt=>Nat.blt t N)&&(wf N a&&wf N b)
 |_=>v2
def oH:Nat->Type->Type
 |0,β=>β
 |n+1,β=>x4->oH n β
def app{β:Type}:(n:Nat)->oH n β->List x4->β
 |0,f,_=>f
 |n+1,f,[]=>app n (f undef) []
 |n+1,f,v::r=>app n (f v) r
def lam{β:Type}:(n:Nat)->(List x4->β)->oH n β
 |0,f=>f []
 |n+1,f=>λv=>lam n λr=>f (v::r)
def s4:(n:Nat)->oH n Prop->Prop
 |0,p=>p
 |n+1,p=>∀v,s4 n (p v)
theorem s5{β:Type}:∀(n:Nat)(f:List x4->β)(vs:List x4),vs.length=n->app n (lam n f) vs=f vs
 |0,f,[],_=>rfl
 |n+1,f,v::r,h=>by
  simp only[app,lam];exact s5 n _ r (by simpa using h)
theorem s6:∀(n:Nat)(p:oH n Prop)(vs:List x4),s4 n p->app n p vs
 |0,_,_,h=>h
 |n+1,_,[],h=>s6 n _ [] (h undef)
 |n+1,_,v::r,h=>s6 n _ r (h v)
def Hq(n:Nat)(vs:List x4)(w:x6)(B:List x4->x6->(List x4->x6->Prop)->Prop):Prop:=
 ∃(a:oH n (x6->Prop))(e:oH n (x6->Nat)),app n a vs w/\
  s4 n (lam n λus=>∀I,app n a us I->B us I λf h=>app n a f h/\app n e f h<app n e us I)
def Hr(w:x6)(B:x6->(x6->Prop)->Prop):Prop:=
 ∃(a:x6->Prop)(e:x6->Nat),a w/\∀I,a I->B I λf=>a f/\e f<e I
def bY(a:x4)(w:x6)(B:x4->x6->(x4->x6->Prop)->Prop):Prop:=
 ∃(e:x4->x6->Prop)(f:x4->x6->Nat),e a w/\∀a I,e a I->B a I λa' h=>e a' h/\f a' h<f a I
def b7(a b:x4)(w:x6)(B:x4->x4->x6->(x4->x4->x6->Prop)->Prop):Prop:=
 ∃(e:x4->x4->x6->Prop)(f:x4->x4->x6->Nat),e a b w/\∀a b I,e a b I->B a b I λa' h j=>e a' h j/\f a' h j<f a b I
def kS(a b c:x4)(w:x6)(B:x4->x4->x4->x6->(x4->x4->x4->x6->Prop)->Prop):Prop:=
 ∃(e:x4->x4->x4->x6->Prop)(f:x4->x4->x4->x6->Nat),e a b c w/\
  ∀a b c I,e a b c I->B a b c I λa' h j p=>e a' h j p/\f a' h j p<f a b c I
def q3(a b c d:x4)(w:x6)(B:x4->x4->x4->x4->x6->(x4->x4->x4->x4->x6->Prop)->Prop):Prop:=
 ∃(e:x4->x4->x4->x4->x6->Prop)(f:x4->x4->x4->x4->x6->Nat),e a b c d w/\
  ∀a b c d I,e a b c d I->B a b c d I λa' h j p q=>e a' h j p q/\f a' h j p q<f a b c d I
def q4(a b c d e:x4)(w:x6)(B:x4->x4->x4->x4->x4->x6->(x4->x4->x4->x4->x4->x6->Prop)->Prop):Prop:=
 ∃(f:x4->x4->x4->x4->x4->x6->Prop)(h:x4->x4->x4->x4->x4->x6->Nat),f a b c d e w/\∀a b c d e I,f a b c d e I->B a b c d e I λa' j p q r s=>f a' j p q r s/\h a' j p q r s<h a b c d e I
def Hs(a b c d e f:x4)(w:x6)(B:x4->x4->x4->x4->x4->x4->x6->(x4->x4->x4->x4->x4->x4->x6->Prop)->Prop):Prop:=
 ∃(h:x4->x4->x4->x4->x4->x4->x6->Prop)(j:x4->x4->x4->x4->x4->x4->x6->Nat),h a b c d e f w/\∀a b c d e f I,h a b c d e f I->B a b c d e f I λa' p q r s x y=>h a' p q r s x y/\j a' p q r s x y<j a b c d e f I
def cB{α:Type}(ax:α)(B:α->Prop):Prop:=B ax
def vT(n:Nat)(w:x6)(K:x6->Prop):Prop:=∀I,Ext w I->Ext I w/\fL n w I->K I
def Over(n:Nat)(w:x6)(K:x6->Prop):Prop:=∀I,Ext w I->Ext I w/\fL n w I->fb w I->K I
def en(w:x6)(K:x6->Prop):Prop:=∀I,Ext w I->Ext I w->cQ w I->K I
def lC(e:Env):List Nat->Option (List x4)
 |[]=>σ []
 |t::r=>match look e t with
  |some x=>match lC e r with
   |some vs=>σ (x.val::vs)
   |none=>ν
  |none=>ν
def km:List Nat->List x4->Env->Env
 |t::r,v::vs,e=>(t,.v v)::km r vs e
 |_,_,e=>e
def nN(D:List Nat):Env->Env
 |[]=>[]
 |(t,x)::r=>bif kl t D then nN D r else(t,x)::nN D r
def q5(N:Nat)(D R:List Nat):List Nat:=(X9 N).filter λt=>kl t D&&kl t R
def q6(N:Nat)(D R:List Nat)(e:Env):List Nat:=(X9 N).filter λt=>kl t D&&((look e t).isSome&&kl t R)
def ko:Code->Bool
 | .seq a b=>ko a||ko b
 | .cond _ a b=>ko a||ko b
 | .block _ c=>ko c
 | .loop c=>ko c
 | .scope c=>ko c
 | .rangeFunc _ _ a b=>ko a||ko b
 | .ret=>v2
 |_=>v6
def Ht(i:Nat)(l:List Nat):List Nat:=bif kl i l then l else i::l
def s7:List Nat->List Nat->List Nat
 |[],l=>l
 |i::r,l=>Ht i (s7 r l)
def vU(i:Nat):List Nat->List Nat
 |[]=>[]
 |j::r=>bif S6 i j then vU i r else j::vU i r
def kT:Code->List Nat
 | .seq a b=>s7 (kT a) (kT b)
 | .cond _ a b=>s7 (kT a) (kT b)
 | .block id c=>vU id (kT c)
 | .loop c=>kT c
 | .scope c=>kT c
 | .rangeFunc _ _ a b=>s7 (kT a) (kT b)
 | .exit i=>[i]
 |_=>[]
def oI:List (Nat×(x6->Prop))->Nat->x6->Prop
 |[],_,_=>False
 |(j,k)::r,i,w=>(i=j/\k w)\/oI r i w
def vV(K:Nat->x6->Prop):List Nat->List (Nat×(x6->Prop))
 |[]=>[]
 |i::r=>(i,λw=>K i w)::vV K r
theorem zu{K:Nat->x6->Prop}:∀{l:List Nat}{i:Nat}{w:x6},oI (vV K l) i w->K i w
 |[],_,_,h=>h.elim
 |j::r,i,w,h=>by
  rcases h with⟨rfl,h⟩|h
  .exact h
  .exact zu h
section
variable(P:V5)
def pW{a:Type}(G:Bool)(g:Q6)(cap:List x4)(p:a)(q:a->Prop)(r:a->List x4->a->x6->Prop)(h:x6->Prop):Prop:=
 Enters P g/\∀(l:Nat)(ax e:a->x6->Prop)(w:x6),
  (∀k U V,Ext U V->cM w.heap.size U V->ax k U->ax k V)->(∀k U V,Ext U V->cM w.heap.size U V->e k U->e k V)->
  (∀k j vs I,h I->r k vs j I->ax k I->iZ P l vs I λv f=>(v= .bool v2/\h f/\ax j f/\(G=v2->cQ I f))\/(v= .bool v6/\e k f))->
  h w->ax p w->gT P g (.func (.yield l) #[] #[]::cap) w λ_ I=>(∃k,q k/\ax k I)\/∃k,e k I
def vW(G:Bool)(g:Q6)(cap:List x4)(n:Nat)(h:Nat->List x4->x6->Prop)(f:x6->Prop):Prop:=
 Enters P g/\∀(l:Nat)(ax a:Nat->x6->Prop)(w:x6),
  (∀k U V,Ext U V->cM w.heap.size U V->ax k U->ax k V)->(∀k U V,Ext U V->cM w.heap.size U V->a k U->a k V)->
  (∀k vs I,k<n->f I->h k vs I->ax k I->iZ P l vs I λv e=>(v= .bool v2/\f e/\ax (k+1) e/\(G=v2->cQ I e))\/(v= .bool v6/\a k e))->
  f w->ax 0 w->gT P g (.func (.yield l) #[] #[]::cap) w λ_ I=>ax n I\/∃k,k<n/\a k I
def q7{e:Type}(o G:Bool)(g:Q6)(cap:List x4)(p:e)(q:e->Prop)(s:e->List x4->e->x6->Prop)(h:(Nat->Prop)->x6->Prop):Prop:=
 Enters P g/\∀(l:Nat)(ax f:(Nat->Prop)->e->x6->Prop)(w:x6),
  (∀D k U V,af (λr=>o=v2/\w.heap.size<=r/\¬D r) U V->fL w.heap.size U V->ax D k U->ax D k V)->
  (∀D k U V,af (λr=>o=v2/\w.heap.size<=r/\¬D r) U V->fL w.heap.size U V->f D k U->f D k V)->
  (∀D k j vs I,(∀r,D r->w.heap.size<=r/\r<I.heap.size)->w.heap.size<=I.heap.size->h D I->s k vs j I->ax D k I->iZ P l vs I λv a=>
   (v= .bool v2/\(∃D',(∀r,D' r->D r\/I.heap.size<=r/\r<a.heap.size)/\(∀r,D r->D' r)/\h D' a/\ax D' j a)/\(G=v2\/o=v2->cQ I a)/\I.heap.size<=a.heap.size/\(o=v2->af (λr=>r<w.heap.size\/D r) I a))\/(o=v6/\v= .bool v6/\f D k a))->
  (h (λ_=>False) w)->ax (λ_=>False) p w->gT P g (.func (.yield l) #[] #[]::cap) w λ_ I=>(∃D k,q k/\ax D k I)\/∃D k,f D k I
abbrev pX(g:Q6)(cap:List x4)(n:Nat)(a:Nat->List x4->x6->Prop)(e:x6->Prop):Prop:=vW P v6 g cap n a e
def Hu(z:x4)(q:Nat)(w:x6)(B:List x4->x6->(Exit->x6->Prop)->Prop)(A C:x6->Prop)(E:List (Nat×(x6->Prop))):Prop:=
 ∃(h:Type)(o G:Bool)(g:Q6)(cap:Array x4)(x:h)(y:h->Prop)(s:h->List x4->h->x6->Prop)(e:(Nat->Prop)->x6->Prop)(f:(Nat->Prop)->h->x6->Prop)(j:(Nat->Prop)->h->Exit->x6->Prop),
  z= .func (.func g) #[] cap/\q7 P o G g cap.toList x y s e/\(∀k vs p w,s k vs p w->vs.length=q)/\
  (∀m w I,Ext w I->e m w->e m I)/\(∀m k U V,af (λr=>o=v2/\w.heap.size<=r/\¬m r) U V->fL w.heap.size U V->f m k U->f m k V)/\(∀m k ex U V,af (λr=>o=v2/\w.heap.size<=r/\¬m r) U V->fL w.heap.size U V->j m k ex U->j m k ex V)/\
  e (λ_=>False) w/\f (λ_=>False) x w/\
  s4 q (lam q λvs=>∀m k p I,(∀r,m r->w.heap.size<=r/\r<I.heap.size)->w.heap.size<=I.heap.size->e m I->s k vs p I->f m k I->B vs I λex a=>match ex with
   | .normal=>bif o then(∃bR,(∀r,bR r->m r\/I.heap.size<=r/\r<a.heap.size)/\(∀r,m r->bR r)/\e bR a/\f bR p a)/\fb I a/\af (λr=>r<w.heap.size\/m r) I a else e m a/\f m p a/\(G=v2->fb I a)
   |ex=>bif o then False else j m k ex a)/\
  (∀m k I,y k->f m k I->A I)/\(∀m k I,j m k .ret I->C I)/\(∀m k i I,j m k (.exit i) I->oI E i I)
def lD(z:x4)(w:x6)(B:x4->x6->(Exit->x6->Prop)->Prop)(A C:x6->Prop)(E:List (Nat×(x6->Prop))):Prop:=
 ∃(j:Type)(o G:Bool)(g:Q6)(cap:Array x4)(x:j)(y:j->Prop)(s:j->List x4->j->x6->Prop)(f:(Nat->Prop)->x6->Prop)(h:(Nat->Prop)->j->x6->Prop)(p:(Nat->Prop)->j->Exit->x6->Prop),
  z= .func (.func g) #[] cap/\q7 P o G g cap.toList x y s f/\(∀k vs q w,s k vs q w->vs.length=1)/\
  (∀m w I,Ext w I->f m w->f m I)/\(∀m k U V,af (λr=>o=v2/\w.heap.size<=r/\¬m r) U V->fL w.heap.size U V->h m k U->h m k V)/\(∀m k ex U V,af (λr=>o=v2/\w.heap.size<=r/\¬m r) U V->fL w.heap.size U V->p m k ex U->p m k ex V)/\
  f (λ_=>False) w/\h (λ_=>False) x w/\
  (∀a,∀m k q I,(∀r,m r->w.heap.size<=r/\r<I.heap.size)->w.heap.size<=I.heap.size->f m I->s k [a] q I->h m k I->B a I λex e=>match ex with
   | .normal=>bif o then(∃bR,(∀r,bR r->m r\/I.heap.size<=r/\r<e.heap.size)/\(∀r,m r->bR r)/\f bR e/\h bR q e)/\fb I e/\af (λr=>r<w.heap.size\/m r) I e else f m e/\h m q e/\(G=v2->fb I e)
   |ex=>bif o then False else p m k ex e)/\
  (∀m k I,y k->h m k I->A I)/\(∀m k I,p m k .ret I->C I)/\(∀m k i I,p m k (.exit i) I->oI E i I)
def pY(z:x4)(w:x6)(B:x4->x4->x6->(Exit->x6->Prop)->Prop)(A C:x6->Prop)(E:List (Nat×(x6->Prop))):Prop:=
 ∃(j:Type)(o G:Bool)(g:Q6)(cap:Array x4)(x:j)(y:j->Prop)(s:j->List x4->j->x6->Prop)(f:(Nat->Prop)->x6->Prop)(h:(Nat->Prop)->j->x6->Prop)(p:(Nat->Prop)->j->Exit->x6->Prop),
  z= .func (.func g) #[] cap/\q7 P o G g cap.toList x y s f/\(∀k vs q w,s k vs q w->vs.length=2)/\
  (∀m w I,Ext w I->f m w->f m I)/\(∀m k U V,af (λr=>o=v2/\w.heap.size<=r/\¬m r) U V->fL w.heap.size U V->h m k U->h m k V)/\(∀m k ex U V,af (λr=>o=v2/\w.heap.size<=r/\¬m r) U V->fL w.heap.size U V->p m k ex U->p m k ex V)/\
  f (λ_=>False) w/\h (λ_=>False) x w/\
  (∀a b,∀m k q I,(∀r,m r->w.heap.size<=r/\r<I.heap.size)->w.heap.size<=I.heap.size->f m I->s k [a,b] q I->h m k I->B a b I λex e=>match ex with
   | .normal=>bif o then(∃bR,(∀r,bR r->m r\/I.heap.size<=r/\r<e.heap.size)/\(∀r,m r->bR r)/\f bR e/\h bR q e)/\fb I e/\af (λr=>r<w.heap.size\/m r) I e else f m e/\h m q e/\(G=v2->fb I e)
   |ex=>bif o then False else p m k ex e)/\
  (∀m k I,y k->h m k I->A I)/\(∀m k I,p m k .ret I->C I)/\(∀m k i I,p m k (.exit i) I->oI E i I)
def vW.s{P:V5}{G:Bool}{g:Q6}{cap:List x4}{f:Nat->List x4->x6->Prop}{a:x6->Prop}(h:vW P G g cap n f a):
  pW P G g cap 0 (λk=>k=n) (λk vs j w=>k<n/\j=k+1/\f k vs w) a:=by
 refine⟨h.1,λl ax p w q r x ha y=>?_⟩;have:=h.2 l ax (λk w=>p k w) w q r (λk vs I hk hz A B=>x k (k+1) vs I hz ⟨hk,T,A⟩ B) ha y;cases this with
 |code h1 C=>exact .code h1 (C.Y λ_ _ ⟨v,E,e⟩=>⟨v,E,e.elim (λh=>.inl ⟨n,T,h⟩) (λ⟨k,_,h⟩=>.inr ⟨k,h⟩)⟩)
 |W v I h1 e=>exact .W v I h1 (e.elim (λh=>.inl ⟨n,T,h⟩) (λ⟨k,_,h⟩=>.inr ⟨k,h⟩))
def pW.x{P:V5}{s:Type}{G:Bool}{g:Q6}{cap:List x4}{E:s}{F:s->Prop}{H:s->List x4->s->x6->Prop}{y:x6->Prop}(h:pW P G g cap E F H y):q7 P v6 G g cap E F H λ_=>y:=by
 refine⟨h.1,λl ax K w L M N hy O=>?_⟩;have:=h.2 l (λk I=>w.heap.size<=I.heap.size/\∃D,(∀r,D r->w.heap.size<=r/\r<I.heap.size)/\ax D k I) (λk I=>∃D,K D k I) w
  (λk U V f A ⟨J,D,a,j⟩=>⟨X1 J f.size,D,λr z=>⟨(a r z).1,S3 (a r z).2 f.size⟩,L D k U V (f.aa _) A.o j⟩) (λk U V f A ⟨D,j⟩=>⟨D,M D k U V (f.aa _) A.o j⟩)
  (λk Q vs I hR S ⟨J,D,a,j⟩=>iZ.Y (N D k Q vs I a J hR S j) λv W ac=>ac.imp (λ⟨h1,⟨D',d1,_,p,B⟩,q,e,_⟩=>⟨h1,p,⟨X1 J e,D',λr z=>(d1 r z).elim (λh=>⟨(a r h).1,S3 (a r h).2 e⟩) λh=>⟨X1 J h.1,h.2⟩,B⟩,λT=>q (.inl T)⟩) λ⟨_,h1,p⟩=>⟨h1,D,p⟩) hy ⟨o4 _,_,λ_ h=>h.elim,O⟩
 cases this with
 |code h1 p=>exact .code h1 (p.Y λ_ _ ⟨v,B,q⟩=>⟨v,B,q.imp (λ⟨k,e,_,D,_,C⟩=>⟨D,k,e,C⟩) (λ⟨k,D,h⟩=>⟨D,k,h⟩)⟩)
 |W v I h1 q=>exact .W v I h1 (q.imp (λ⟨k,e,_,D,_,C⟩=>⟨D,k,e,C⟩) (λ⟨k,D,h⟩=>⟨D,k,h⟩))
def lD.old{P:V5}{C:x4}{B:x4->x6->(Exit->x6->Prop)->Prop}{E F:x6->Prop}{H:List (Nat×(x6->Prop))}(h:∃(f:Type)(G:Bool)(g:Q6)(cap:Array x4)(s:f)(y:f->Prop)(r:f->List x4->f->x6->Prop)(e:x6->Prop)(j:f->x6->Prop)(p:f->Exit->x6->Prop),
  C= .func (.func g) #[] cap/\pW P G g cap.toList s y r e/\(∀k vs q w,r k vs q w->vs.length=1)/\
  (∀w I,Ext w I->e w->e I)/\(∀k w I,Ext w I->j k w->j k I)/\(∀k ex w I,Ext w I->p k ex w->p k ex I)/\
  e w/\j s w/\
  (∀a,∀k q I,e I->r k [a] q I->j k I->B a I λex z=>match ex with
   | .normal=>e z/\j q z/\(G=v2->fb I z)
   |ex=>p k ex z)/\
  (∀k I,y k->j k I->E I)/\(∀k I,p k .ret I->F I)/\(∀k i I,p k (.exit i) I->oI H i I)):lD P C w B E F H:=by
 obtain⟨f,G,g,cap,s,y,r,e,j,p,h1,J,K,L,M,N,O,Q,R,S,T,W⟩:=h;exact⟨f,v6,G,g,cap,s,y,r,λ_=>e,λ_=>j,λ_=>p,h1,J.x,K,λ_=>L,λ_ k U V A _=>M k U V (A.W λ_ _ h=>nomatch h.1),λ_ k ex U V A _=>N k ex U V (A.W λ_ _ h=>nomatch h.1),O,Q,
  λa _ k q I _ _ he X Y=>R a k q I he X Y,λ_=>S,λ_=>T,λ_=>W⟩
def pY.old{P:V5}{C:x4}{B:x4->x4->x6->(Exit->x6->Prop)->Prop}{E F:x6->Prop}{H:List (Nat×(x6->Prop))}(h:∃(f:Type)(G:Bool)(g:Q6)(cap:Array x4)(s:f)(y:f->Prop)(r:f->List x4->f->x6->Prop)(e:x6->Prop)(j:f->x6->Prop)(p:f->Exit->x6->Prop),
  C= .func (.func g) #[] cap/\pW P G g cap.toList s y r e/\(∀k vs q w,r k vs q w->vs.length=2)/\
  (∀w I,Ext w I->e w->e I)/\(∀k w I,Ext w I->j k w->j k I)/\(∀k ex w I,Ext w I->p k ex w->p k ex I)/\
  e w/\j s w/\
  (∀a b,∀k q I,e I->r k [a,b] q I->j k I->B a b I λex z=>match ex with
   | .normal=>e z/\j q z/\(G=v2->fb I z)
   |ex=>p k ex z)/\
  (∀k I,y k->j k I->E I)/\(∀k I,p k .ret I->F I)/\(∀k i I,p k (.exit i) I->oI H i I)):pY P C w B E F H:=by
 obtain⟨f,G,g,cap,s,y,r,e,j,p,h1,J,K,L,M,N,O,Q,R,S,T,W⟩:=h;exact⟨f,v6,G,g,cap,s,y,r,λ_=>e,λ_=>j,λ_=>p,h1,J.x,K,λ_=>L,λ_ k U V A _=>M k U V (A.W λ_ _ h=>nomatch h.1),λ_ k ex U V A _=>N k ex U V (A.W λ_ _ h=>nomatch h.1),O,Q,
  λa b _ k q I _ _ he X Y=>R a b k q I he X Y,λ_=>S,λ_=>T,λ_=>W⟩
def eL(N:Nat)(free:fM):Code->List Nat->Env->x6->(Exit->Env->x6->Prop)->Prop
 | .skip,_,e,w,K=>K .normal e w
 | .label _,_,e,w,K=>K .normal e w
 | .ret,_,e,w,K=>K .ret e w
 | .exit i,_,e,w,K=>K (.exit i) e w
 | .region _ ops p,_,e,w,K=>
  bif p then en w λI=>vK P free ops e I (K .normal)
  else pU P free ops ops.toList e w (K .normal)
 | .seq x y,rd,e,w,K=>
  bif Nat.ble 2 (l6 x)then
   cB (lam (q5 N (dJ x) (reads y++rd)).length λvs=>λI=>eL N free y rd (km (q5 N (dJ x) (reads y++rd)) vs (nN (dJ x) e)) I K)
    λax=>eL N free x (reads y++rd) e w λex a I=>match ex with
     | .normal=>match lC a (q5 N (dJ x) (reads y++rd))with
      |some vs=>app (q5 N (dJ x) (reads y++rd)).length ax vs I
      |none=>False
     |ex=>K ex a I
  else eL N free x (reads y++rd) e w λex a I=>match ex with
   | .normal=>eL N free y rd a I K
   |ex=>K ex a I
 | .cond c x y,rd,e,w,K=>
  match eS e c with
  |some (.b v2)=>eL N free x rd e w K
  |some (.b v6)=>eL N free y rd e w K
  |some (.v v)=>Split v (eL N free x rd e w K) (eL N free y rd e w K)
  |some .u=>False
  |none=>False
 | .block id c,rd,e,w,K=>eL N free c rd e w λex a I=>match ex with
  | .exit i=>bif S6 i id then K .normal a I else K (.exit i) a I
  |ex=>K ex a I
 | .loop c,rd,e,w,K=>
  match lC e (q6 N (dJ c) (reads c++rd) e)with
  |some vs=>
   Hq (q6 N (dJ c) (reads c++rd) e).length vs w λus I k=>
    eL N free c (reads c++rd) (km (q6 N (dJ c) (reads c++rd) e) us (nN (dJ c) e)) I λex a h=>match ex with
     | .normal=>match lC a (q6 N (dJ c) (reads c++rd) e)with
      |some q=>k q h
      |none=>False
     |ex=>K ex a h
  |none=>False
 | .scope c,rd,e,w,K=>eL N free c rd e w K
 | .rangeFunc f j r body,_,e,w,K=>
  bif free.1 then False else
  match eS e f with
  |some s=>
   Hu P s.val j.size w
    (λvs I k=>eL N free r (reads body) (km j.toList.reverse vs.reverse e) I λex a h=>match ex with
     | .normal=>Over w.heap.size h λz=>eL N free body [] a z λex _ A=>k ex A
     |_=>False)
    (λI=>K .normal e I) (bif ko body then λI=>K .ret e I else λ_=>False) (vV (λi I=>K (.exit i) e I) (kT body))
  |none=>False
 | .goto _,_,_,_,_=>False
 | .refuse _,_,_,_,_=>False
end
def s8{w0:x6}(h:cM n w0 w){l:Nat}(j:w0.heap.size<=l)(o:Obj):cM n w0 (w.putObj l o):=
 ⟨h.os,h.tape,h.output,by simpa using h.size,λr x a J=>by
  have e:=(Z0.1 a).1;rw[Q7 Ω];exact h.aX r x a J,λr x f a J=>by
  have e:=(Z0.1 a).1;rw[Q7 Ω];exact h.old r x f a J⟩
def Hv{w0:x6}(h:fb w0 w){l:Nat}{a:Obj}(f:w.heap[l]?=σ a)(j:sQ a=v6)(o:Obj):fb w0 (w.putObj l o):=λr x p J=>by
 have h1:=h r x p J;by_cases e:r=l
 .subst e;rw[f]at h1;cases h1;rw[j]at J;cases J
 .rw[Q7 e];exact h1
def q8{l:Nat}{e:Obj}(h:w.heap[l]?=σ e)(j:fK e=v6)(o:Obj):Ext w (w.putObj l o):=
 ⟨Ξ,λr x a J=>by
  by_cases f:r=l
  .subst f;rw[h]at a;cases a;rw[j]at J;cases J
  .rw[Q7 f];exact a⟩
def zv{l:Nat}{o:Obj}(f:fK o=v6):Ext (w.putObj l o) w:=
 ⟨Ξ,λr x a J=>by
  by_cases e:r=l
  .subst e;rcases Nat.lt_or_ge r w.heap.size with h|h
   .rw[x6.putObj_heap_same h]at a;cases a;rw[f]at J;cases J
   .rw[Array.getElem?_eq_none (by simpa using h)]at a;cases a
  .rw[Q7 e]at a;exact a⟩
def pZ(w:x6)(o:Obj):Ext w (w.alloc o):=qY w o
def p0(w:x6)(o:Obj):cQ w (w.alloc o):=qZ w o
def lE(D:Nat):Deferred:={target:=.collected D,args:=#[]}
def m7(w:x6)(e:List Deferred):Prop:=∃a:List Nat,e=a.map lE/\a.Nodup/\∀D∈a,w.heap[D]?=σ (.deferred (σ []))
def m7.cA{a:List Deferred}(h:m7 w a)(e:cM n w I):m7 I a:=by
 obtain⟨f,h1,j,p⟩:=h;exact⟨f,h1,j,λD q=>e.aX D _ (p D q) T⟩
section
variable{P:V5}{N:Nat}
def Hw(w:x6)(e f:List Deferred):Prop:=∃a:List Nat,f=a.map lE++e/\∀D∈a,w.heap.size<=D
def gV(n:Nat)(w:x6)(e:List Deferred)(I:x6)(a:List Deferred):Prop:=cM n w I/\m7 I a/\Hw w e a
def gV.refl{a:List Deferred}(h:m7 w a):gV n w a w a:=⟨cM.refl _ _,h,[],T,λ_ h=>by cases h⟩
def gV.F{U:x6}{a e f:List Deferred}(h:gV n w a U e)(k:gV n U e I f):gV n w a I f:=by
 obtain⟨j,A,p,a3,a4⟩:=h;obtain⟨q,r,s,x,y⟩:=k;refine⟨j.F q,r,s++p,by simp[x,a3],λD z=>?_⟩;rcases j9.1 z with h|h
 .exact X1 j.size (y D h)
 .exact a4 D h
def gV.same{a:List Deferred}(h:m7 w a)(e:cM n w I):gV n w a I a:=⟨e,h.cA e,[],T,λ_ h=>by cases h⟩
def l7:Exit->Bool
 | .panic _=>v6
 | .outgrown=>v6
 | .goto _=>v6
 |_=>v2
def nO(N:Nat)(free:fM)(f:Bool)(K:Exit->Env->x6->Prop)(D:List Nat)(a:Act)(w:x6)(ex:Exit)(a':Act)(I:x6):Prop:=
 l7 ex=v2/\∃e,K ex e I/\R5 N e a'/\(∀t,t∉D->a'.tmps.getD t undef=a.tmps.getD t undef)/\(f=v2->a'.defers=a.defers)/\
  (free.1=v6->gV free.2 w a.defers I a'.defers)
def nO.step{free:fM}{f j:Bool}{K:Exit->Env->x6->Prop}{D':List Nat}{a e a':Act}{U:x6}{ex:Exit}(h:nO N free j K D' e U ex a' I)(q:∀t,t∈D'->t∈D)(hk:∀t,t∉D->e.tmps.getD t undef=a.tmps.getD t undef)(r:f=v2->j=v2)(s:f=v2->e.defers=a.defers)(x:free.1=v6->gV free.2 w a.defers U e.defers):nO N free f K D a w ex a' I:=by
 obtain⟨y,z,h1,A,B,C,E⟩:=h;exact⟨y,z,h1,A,λt p=>(B t λh=>p (q t h)).F (hk t p),λh=>(C (r h)).F (s h),λh=>(x h).F (E h)⟩
theorem s9{D:List Nat}{t:Nat}{x:eJ}:∀{e:Env},look (nN D e) t=σ x->look e t=σ x/\t∉D
 |[],h=>by cases h
 |(s,y)::r,h=>by
  simp only[nN]at h;cases hm:kl s D with
  |true=>
   rw[hm]at h;simp only[cond_true]at h;obtain⟨h1,f⟩:=s9 h;refine⟨?_,f⟩;simp only[look];cases a:S6 s t with
   |true=>exact ro (vR.1 hm) (by rw[Nat.eq_of_beq_eq_true a];exact f)
   |false=>exact h1
  |false=>
   rw[hm]at h;simp only[cond_false,look]at h ⊢;cases a:S6 s t with
   |true=>
    rw[a]at h;refine⟨h,λj=>?_⟩;rw[<-Nat.eq_of_beq_eq_true a]at j;rw[vR.2 j]at hm;cases hm
   |false=>
    rw[a]at h;exact s9 h
theorem vX{a:Act}{e:Env}:∀{S:List Nat}{vs:List x4},R5 N e a->(∀p∈S.zip vs,a.tmps.getD p.1 undef=p.2)->R5 N (km S vs e) a
 |[],_,h,_=>by simpa[km]using h
 |t::r,[],h,_=>by simpa[km]using h
 |t::r,v::vs,h,j=>by
  have q:=vX (S:=r) (vs:=vs) h λp ac=>j p (by simp[ac]);refine⟨q.1,λs x J=>?_⟩;simp only[km,look]at J;cases f:S6 t s with
  |true=>
   rw[f]at J;simp only[cond_true,X7]at J;subst J;rw[<-Nat.eq_of_beq_eq_true f];exact j (t,v) Ξ
  |false=>rw[f]at J;exact q.2 s x J
theorem ta{e:Env}{a:Act}(q:R5 N e a):∀{S:List Nat}{vs:List x4},lC e S=σ vs->vs.length=S.length/\∀p∈S.zip vs,a.tmps.getD p.1 undef=p.2
 |[],vs,h=>by simp[lC]at h;subst h;simp
 |t::r,vs,h=>by
  simp only[lC]at h;cases f:look e t with
  |none=>rw[f]at h;cases h
  |some x=>
   rw[f]at h;simp only at h;cases j:lC e r with
   |none=>rw[j]at h;cases h
   |some us=>
    rw[j]at h;simp only[X7]at h;subst h;obtain⟨h1,s⟩:=ta q j;refine⟨by simp[h1],λp ac=>?_⟩;simp only[List.zip_cons_cons,V4]at ac;rcases ac with rfl|ac
    .exact q.2 t x f
    .exact s p ac
def Hx{a a':Act}{e f:Env}(j:R5 N e a)(p:R5 N f a')(hk:∀t,t∉D->a'.tmps.getD t undef=a.tmps.getD t undef):R5 N (nN D e) a':=
 ⟨p.1,λt x h=>by
  obtain⟨h1,q⟩:=s9 h;rw[hk t q];exact j.2 t x h1⟩
def Hy{o:S0}{t:Nat}(a:o.dst=σ t)(l:List S0)(hm:o∈l):t∈oG l:=by
 induction l with
 |nil=>cases hm
 |cons o' l e=>
  simp only[oG];rcases V4.1 hm with h|h
  .rw[<-h,a];simp
  .have:=e h;cases o'.dst with
   |none=>exact this
   |some d=>exact .tail _ this
def zw{free:fM}{j:Bool}{K:Exit->Env->x6->Prop}{a a':Act}(p:free.1=v6->m7 w a.defers)(h:nJ N free (K .normal) D a w a' I):
  nO N free j K D a w .normal a' I:=by
 obtain⟨q,h1,r,e,s⟩:=h;exact⟨T,q,h1,r,e.2,λ_=>e.1,λf=>by rw[e.1];exact gV.same (p f) (s f)⟩
theorem zx:∀(a:List Nat)(vs:List x4)(p:Nat)(v:x4)(e:Env),a.length=vs.length->km (a++[p]) (vs++[v]) e=km a vs ((p,.v v)::e)
 |[],[],_,_,_,_=>rfl
 |[],_::_,_,_,_,h=>by simp at h
 |_::_,[],_,_,_,h=>by simp at h
 |q::a,u::vs,p,v,e,h=>by
  simp only[List.cons_append,km];rw[zx a vs p v e (by simpa using h)]
theorem zy:∀(a:List Nat)(vs:List x4)(jU:Array x4)(e:Env),a.length=vs.length->(a.all λt=>Nat.blt t N)=v2->R5 N e {tmps:=jU,defers:=[]}->
  R5 N (km a.reverse vs.reverse e) {tmps:=(a.zip vs).foldl (λjU (p:Nat×x4)=>jU.setIfInBounds p.1 p.2) jU,defers:=[]}
 |[],[],_,_,_,_,h=>h
 |[],_::_,_,_,h,_,_=>by simp at h
 |_::_,[],_,_,h,_,_=>by simp at h
 |p::a,v::vs,jU,e,q,f,h=>by
  have j:a.length=vs.length:=by simpa using q
  simp only[List.all_cons,U9]at f;simp only[List.zip_cons_cons,V7,List.reverse_cons];rw[zx _ _ _ _ _ (by simpa using j)];exact zy a vs _ _ j f.2 (h.put (d:=σ p) (x:=.v v) (v:=v) f.1 T)
def kp(free:fM)(c:Code):Bool:=free.1|| !lB c
def zz:∀f a b:Bool,(f|| !(a||b))=v2->(f|| !a)=v2:=Φ
def zA:∀f a b:Bool,(f|| !(a||b))=v2->(f|| !b)=v2:=Φ
def exitCode:Exit->Option Code
 | .ret=>σ .ret
 | .exit id=>σ (.exit id)
 |_=>ν
end
section
variable{P:V5}{N:Nat}
def Sound(P:V5)(N:Nat)(c:Code):Prop:=
 ∀(free:fM)(r:Option Nat)(rd:List Nat)(e:Env)(a:Act)(w:x6)(K:Exit->Env->x6->Prop)(Q:Exit->Act->x6->Prop),
  wf N c=v2->(∀l,r=σ l->free.1=v6/\∃f,w.heap[l]?=σ (.loop f))->(free.1=v6->m7 w a.defers)->
  eL P N free c rd e w K->R5 N e a->(∀ex a' I,nO N free (kp free c) K (dJ c) a w ex a' I->Q ex a' I)->(∀h a w,¬Q (.panic h) a w)->
  c.wpIn (eK r) 0 P Q a w
def Hz{x y:Code}(aa:Sound P N x)(ab:Sound P N y):Sound P N (.seq x y):=by
 intro free r rd e a w K Q E M ad h O R S;simp only[wf,U9]at E;have T:∀t,t∈dJ x->t∈dJ (.seq x y):=λt q=>by simp[dJ,q]
 have ae:∀t,t∈dJ y->t∈dJ (.seq x y):=λt q=>by simp[dJ,q]
 have V:kp free (.seq x y)=v2->kp free x=v2:=λh=>zz _ _ _ h;have af:kp free (.seq x y)=v2->kp free y=v2:=λh=>zA _ _ _ h;refine wpIn_seq ?_;have W:∀(f:Env)(j:Act)(U:x6),eL P N free y rd f U K->R5 N f j->(∀t,t∉dJ x->j.tmps.getD t undef=a.tmps.getD t undef)->
   (kp free (.seq x y)=v2->j.defers=a.defers)->(free.1=v6->gV free.2 w a.defers U j.defers)->y.wpIn (eK r) 0 P Q j U:=by
  intro f j U h1 s hk A p;refine ab free r rd f j U K Q E.2 ?_ (λh=>(p h).2.1) h1 s ?_ S
  .intro l ag;obtain⟨X,ah,C⟩:=M l ag;exact⟨X,ah,(p X).1.aX _ _ C rfl⟩
  .intro ex a' I ac;exact R ex a' I (ac.step ae (λt q=>hk t λh=>q (T t h)) af A p)
 have Y:∀(z:Exit->Env->x6->Prop),eL P N free x (reads y++rd) e w z->
   (∀f j U,nO N free (kp free x) z (dJ x) a w .normal j U->R5 N f j->z .normal f U->(∀t,t∉dJ x->j.tmps.getD t undef=a.tmps.getD t undef)->
    (kp free (.seq x y)=v2->j.defers=a.defers)->(free.1=v6->gV free.2 w a.defers U j.defers)->y.wpIn (eK r) 0 P Q j U)->
   (∀ex f U,ex≠ .normal->z ex f U->K ex f U)->x.wpIn (eK r) 0 P (Exit.then (y.wpIn (eK r) 0 P Q) Q) a w:=by
  intro z B p ai;refine aa free r _ e a w z _ E.1 M ad B O ?_ ?_
  .intro ex j U ac;cases ex with
   |normal=>
    have aj:=ac;obtain⟨C,f,h1,F,G,H,J⟩:=ac;exact p f j U aj F h1 G (λh=>H (V h)) J
   |_=>
    obtain⟨C,f,h1,F,G,H,J⟩:=ac;refine R _ j U ⟨C,f,ai _ f U Ξ h1,F,λt q=>G t λh=>q (T t h),λh=>H (V h),J⟩
  .intro ak a w al;exact S ak a w al
 simp only[eL]at h;cases Z:Nat.ble 2 (l6 x)with
 |false=>
  rw[Z]at h;refine Y _ h (λf j U _ s h1 hk A p=>W f j U h1 s hk A p) ?_;intro ex f U L h1;cases ex<;>first|exact ro rfl L|exact h1
 |true=>
  rw[Z]at h;refine Y _ h (λf j U _ s h1 hk A p=>?_) ?_
  .simp only at h1;cases B:lC f (q5 N (dJ x) (reads y++rd))with
   |none=>rw[B]at h1;exact h1.elim
   |some vs=>
    rw[B]at h1;obtain⟨am,an⟩:=ta s B;simp only at h1;rw[s5 _ _ _ am]at h1;exact W _ j U h1 (vX (Hx O s hk) an) hk A p
  .intro ex f U L h1;cases ex<;>first|exact ro rfl L|exact h1
def HA{c:Code}(ab:Sound P N c):Sound P N (.loop c):=by
 intro free r rd e a w K Q R ad ae h F af ag;simp only[wf]at R;simp only[eL]at h;generalize ax:q6 N (dJ c) (reads c++rd) e=S at h;cases G:lC e S with
 |none=>rw[G]at h;exact h.elim
 |some vs=>
  rw[G]at h;simp only at h;obtain⟨ah,ai,q,aj⟩:=h;obtain⟨ak,al⟩:=ta F G;let Inv:Act->x6->Prop:=λf U=>∃us,us.length=S.length/\app S.length ah us U/\(∀p∈S.zip us,f.tmps.getD p.1 undef=p.2)/\f.tmps.size=N/\
   (∀t,t∉dJ c->f.tmps.getD t undef=a.tmps.getD t undef)/\(kp free c=v2->f.defers=a.defers)/\(free.1=v6->gV free.2 w a.defers U f.defers)
  let s:Act->List x4:=λf=>S.map λt=>f.tmps.getD t undef;have T:∀(f:Act)(us:List x4),us.length=S.length->(∀p∈S.zip us,f.tmps.getD p.1 undef=p.2)->s f=us:=by
   intro f us y z;apply List.ext_getElem
   .simp[s,y]
   .intro i h1 j;have hi:i<S.length:=by simpa[s]using h1
    have am:(S[i],us[i])∈S.zip us:=by
     have:=P6 (l:=S.zip us) (n:=i) (by simp[List.length_zip,y,hi]);simpa using this
    simpa[s]using z _ am
  refine wpIn_loop Inv (λf U=>app S.length ai (s f) U) ⟨vs,ak,q,al,F.1,λ_ _=>rfl,λ_=>rfl,λA=>gV.refl (ae A)⟩ ?_;rintro f U ⟨us,y,an,z,ao,hk,A,B⟩;have C:=s6 S.length _ us aj;rw[s5 _ _ _ y]at C;have C:=C U an;have ap:R5 N (km S us (nN (dJ c) e)) f:=by
   refine vX ⟨ao,λt x E=>?_⟩ z;obtain⟨h1,j⟩:=s9 E;rw[hk t j];exact F.2 t x h1
  refine ab free r _ _ f U _ _ R ?_ (λh=>(B h).2.1) C ap ?_ ?_
  .intro l aq;obtain⟨W,au,q⟩:=ad l aq;exact⟨W,au,(B W).1.aX _ _ q rfl⟩
  .intro ex H V ac;have X:∀t,t∉dJ c->H.tmps.getD t undef=a.tmps.getD t undef:=by
    obtain⟨_,_,_,_,I,_,_⟩:=ac;exact λt E=>(I t E).F (hk t E)
   cases ex with
   |normal=>
    obtain⟨q,J,h1,j,I,L,M⟩:=ac;simp only at h1;cases O:lC J S with
    |none=>rw[O]at h1;exact h1.elim
    |some Y=>
     rw[O]at h1;obtain⟨Z,aa⟩:=ta j O;refine⟨⟨Y,Z,h1.1,aa,j.1,X,λh=>(L h).F (A h),λh=>(B h).F (M h)⟩,?_⟩;rw[T f us y z,T H Y Z aa];exact h1.2
   |_=>
    obtain⟨q,J,h1,j,I,L,M⟩:=ac;exact af _ H V ⟨q,J,h1,j,X,λh=>(L h).F (A h),λh=>(B h).F (M h)⟩
  .intro av a w aw;exact ag av a w aw
def HB{o:Obj}(h:fK o=v6):book o=v2\/sQ o=v2:=by cases o<;>first|exact .inl rfl|exact .inr rfl|cases h
def HC{l:Nat}{f s h:x6}{w y:Obj}(z:f.heap[l]?=σ w)(a:cM n f s)(e:cM n (s.putObj l y) h)(A:l<h.heap.size)(hi:fb f h):cQ f (h.putObj l w):=
 ⟨e.os.F a.os,kP.F e.tape a.tape,e.output.F a.output,by have:=a.size;have B:=e.size;simp at B ⊢;omega,λr x j J=>by
  by_cases q:r=l
  .subst q;rw[z]at j;cases j;exact x6.putObj_heap_same A
  .rw[Q7 q];rcases HB J with p|p
   .exact e.aX r x (by rw[Q7 q];exact a.aX r x j p) p
   .exact hi r x j p⟩
def HD{f:R4}{T:Array Tmp}{X body:Code}(be:Sound P N X)(aj:Sound P N body):Sound P N (.rangeFunc f T X body):=by
 intro free r rd e a w K Q aM S ay h ad bf b1;simp only[wf,U9]at aM;obtain⟨bg,bh,bi⟩:=aM;simp only[eL]at h;obtain⟨fr,b⟩:=free;cases fr with
 |true=>exact h.elim
 |false=>
  simp only[cond_false]at h;cases az:eS e f with
  |none=>rw[az]at h;exact h.elim
  |some b2=>
   rw[az]at h;obtain⟨aN,o,G,g,cap,b3,b4,b5,ak,aO,aA,bj,⟨aP,bk⟩,bl,haQ,al,aB,hbm,bn,bo,bp,bq,br⟩:=h;have bs:∀m k ex I,l7 ex=v2->ex≠ .normal->aA m k ex I->K ex e I:=by
    intro m k ex I ae aC am;cases ex with
    |normal=>exact ro rfl aC
    |ret=>
     have:=bq m k I am;cases S:ko body with
     |true=>rw[S]at this;exact this
     |false=>rw[S]at this;exact this.elim
    |exit i=>exact zu (br m k i I am)
    |_=>cases ae
   have bt:a.eval f= .func (.func g) #[] cap:=by rw[ad.eS az];exact bj
   refine wpIn_rangeFunc ?_;intro fn _;obtain⟨D,mark,l,y,z,bu,C,aR,an,M,aS,ao⟩:∃(D:Nat)(mark:List Deferred)(l:Nat)(y:x6)(z:LoopState->Option Code->Loop),
     (Instr.enterLoop fn a.tmps T X body (eK r).round).run P w= .ok (l,mark) y/\
     z=(λst bw=>{state:=st,pending:=bw,fn,tmps:=a.tmps,params:=T,assign:=X,body,defers:=D})/\
     y.heap[l]?=σ (.loop (z .ready ν))/\(mark=[]\/(mark=[lE D]/\y.heap[D]?=σ (.deferred (σ []))/\w.heap.size<=D/\D≠l))/\Ext w y/\cQ w y/\w.heap.size<=l:=by
    cases r with
    |none=>
     refine⟨w.heap.size,[lE w.heap.size],w.heap.size+1,_,_,run_enterLoop_outer _ _ _ _ _,rfl,?_,.inr ⟨rfl,?_,o4 _,Ω⟩,?_,?_,Ω⟩
     .have:=x6.alloc_heap_new (w.alloc (.deferred (σ []))) (.loop {state:=.ready,pending:=ν,fn,tmps:=a.tmps,params:=T,assign:=X,body,defers:=w.heap.size});rwa [x6.size_alloc]at this
     .exact (Below.heap_alloc _ _ _ Ξ).F (x6.alloc_heap_new w _)
     .exact (pZ w _).F (pZ _ _)
     .exact (p0 w _).F (p0 _ _)
    |some bx=>
     obtain⟨_,bz,O⟩:=S bx rfl;exact⟨bz.defers,[],w.heap.size,_,_,run_enterLoop_inner O _ _ _ _ _,rfl,x6.alloc_heap_new w _,.inl rfl,pZ _ _,p0 _ _,o4 _⟩
   let R:x6->Prop:=λj=>mark=[]\/(mark=[lE D]/\j.heap[D]?=σ (.deferred (σ []))/\w.heap.size<=D/\D≠l);have aD:∀{m:Nat}{A B:x6},cM m A B->R A->R B:=λE h=>h.imp id λ⟨h1,q,s⟩=>⟨h1,E.aX _ _ q rfl,s⟩;have ap:∀{A:x6}(o:Obj),R A->R (A.putObj l o):=λo h=>h.imp id λ⟨h1,q,s,H⟩=>⟨h1,(Q7 H).F q,s,H⟩;have bA:cM b w y:=aS.b;have aT:=(Z0.1 aR).1;have aU:∀{A B:x6},fL y.heap.size A B->R A->R B:=λE h=>h.imp id λ⟨h1,q,s⟩=>⟨h1,E.old _ _ (by
    rcases an with hm|⟨_,ay,_⟩
    .rw[hm]at h1;cases h1
    .exact (Z0.1 ay).1) q rfl,s⟩
   have ag:∀{A:x6}(o:Obj),fL w.heap.size A (A.putObj l o):=λ{A}o=>⟨rfl,.ly,rfl,Ξ,λr x S am _=>by rw[Q7 Ω];exact am⟩;let ax:(Nat->Prop)->aN->x6->Prop:=λm k j=>aO m k j/\j.heap[l]?=σ (.loop (z .ready ν))/\cM b w j/\R j;let aV:(Nat->Prop)->aN->x6->Prop:=λm k j=>∃ex c,l7 ex=v2/\exitCode ex=σ c/\aA m k ex j/\j.heap[l]?=σ (.loop (z .done (σ c)))/\cM b w j/\R j;have own:∀{m:Nat->Prop}{A B:x6},af (λr=>o=v2/\y.heap.size<=r/\¬m r) A B->af (λr=>o=v2/\w.heap.size<=r/\¬m r) A B:=λh=>h.Y λr _ h=>⟨h.1,X1 M.size h.2.1,h.2.2⟩;have aE:=bk l ax aV y (λm k A B he E ⟨h1,q,s,H⟩=>⟨al m k A B (own he) (E.Y M.size) h1,E.old _ _ aT q rfl,s.zh E M.size,aU E H⟩)
    (λm k A B he E ⟨ex,c,O,h1,q,s,H,ah⟩=>⟨ex,c,O,h1,aB m k ex A B (own he) (E.Y M.size) q,E.old _ _ aT s rfl,H.zh E M.size,aU E ah⟩) ?round (haQ _ _ _ M hbm) ⟨al _ _ _ _ (M.aa _) aS.o bn,aR,bA,an⟩
   case round=>
    intro m k aq vs j aW bB hak aY ⟨hi,au,bC,bD⟩;have aF:=bl k vs aq j aY;have aZ:=run_yield (P:=P) (args:=vs.toArray) au (by rw[C];simp[aF]);rw[C]at aZ;refine⟨fn,_,X,body,aZ,roundIn_of_wpIn trivial ?_⟩;have bE:(T.zip vs.toArray).foldl (λtmps x=>match x with|(t,a)=>tmps.setIfInBounds t a) a.tmps=(T.toList.zip vs).foldl (λjU (p:Nat×x4)=>jU.setIfInBounds p.1 p.2) a.tmps:=by
     rw[<-Array.foldl_toList,Array.toList_zip]
    have a1:=zy T.toList vs a.tmps e (by simp[aF]) bg (show R5 N e {tmps:=a.tmps,defers:=[]}from⟨ad.1,ad.2⟩);rw[<-bE]at a1;have bF:=au;refine be (v6,b) (σ l) _ _ _ j _ _ bh (λl' aG=>⟨rfl,by cases aG;exact⟨_,au⟩⟩) (λ_=>⟨[],rfl,List.nodup_nil,λD an=>by cases an⟩) (by have aj:=s6 _ _ vs bo;rw[s5 _ _ _ aF]at aj;exact aj m k aq j (λr S=>⟨X1 M.size (aW r S).1,(aW r S).2⟩) (X1 M.size bB) hak aY hi) a1 ?_ (λ_ _ _ h=>h);intro ex a2 F ac;obtain⟨O,b6,h1,q,s,H,ah⟩:=ac;obtain⟨U,bG,_⟩:=ah rfl;cases ex with
    |normal=>
     have Y:=U.aX _ _ au rfl;have bH:=(Z0.1 Y).1;refine⟨_,run_beginRound Y (by rw[C]),?_⟩;have bI:Ext F (F.putObj l (.loop {z .ready ν with state:=.busy})):=q8 Y rfl _;have a6:(F.putObj l (.loop {z .ready ν with state:=.busy})).heap[l]?=σ (.loop {z .ready ν with state:=.busy}):=x6.putObj_heap_same bH;have bJ:m7 (F.putObj l (.loop {z .ready ν with state:=.busy})) a2.defers:=by
      obtain⟨av,Z,ab,ai⟩:=bG;refine⟨av,Z,ab,λD' V=>?_⟩;have:=ai D' V;have aC:D'≠l:=λhe=>by rw[he,Y]at this;cases this
      rw[Q7 aC];exact this
     have a7:cM b w (F.putObj l (.loop {z .ready ν with state:=.busy})):=s8 (bC.F U) ao _;have a8:=ap (.loop {z .ready ν with state:=.busy}) (aD U bD);have bK:=h1 _ bI ⟨zv rfl,ag _⟩ (Hv (fb.refl _) Y rfl _);refine aj (v6,b) (σ l) _ _ a2 _ _ _ bi (λl' aG=>⟨rfl,by cases aG;exact⟨_,a6⟩⟩) (λ_=>bJ) bK q ?_ (λ_ _ _ h=>h);intro bL b7 J ac;obtain⟨aH,b8,g1,b9,ca,cb,bM⟩:=ac;obtain⟨L,_,_⟩:=bM rfl;have aI:J.heap[l]?=σ (.loop {z .ready ν with state:=.busy}):=L.aX _ _ a6 rfl;have aJ:=(Z0.1 aI).1;have ba:=λbN=>run_endRound (P:=P) bN aI;have aw:∀(o:Obj),Ext J (J.putObj l o):=λo=>q8 aI rfl o;have bb:∀(ex:Exit)(c:Code),l7 ex=v2->exitCode ex=σ c->(bif o then False else aA m k ex J)->
       ∃v I,(Instr.endRound l (σ c)).run P J= .ok v I/\∃aK,Ending.returned v= .returned aK/\((aK= .bool v2/\(∃bR,(∀r,bR r->m r\/j.heap.size<=r/\r<I.heap.size)/\(∀r,m r->bR r)/\ak bR I/\ax bR aq I)/\(G=v2\/o=v2->cQ j I)/\j.heap.size<=I.heap.size/\(o=v2->af (λr=>r<y.heap.size\/m r) j I))\/(o=v6/\aK= .bool v6/\aV m k I)):=by
      intro ex c ae bO bc;cases o with
      |true=>exact bc.elim
      |false=>
       refine⟨_,_,ba (σ c),_,rfl,.inr ⟨rfl,rfl,ex,c,ae,bO,aB m k ex _ _ ((aw _).aa _) (ag _) bc,?_,s8 (a7.F L) ao _,ap _ (aD L a8)⟩⟩;rw[x6.putObj_heap_same aJ,C];rfl
     cases bL with
     |normal=>
      have bP:j.heap.size<=J.heap.size:=by
       have h1:=U.size;have q:=L.size;simp at q;omega
      obtain⟨⟨bR,d1,d2,Z,ab⟩,bQ,bS⟩:(∃bR,(∀r,bR r->m r\/j.heap.size<=r/\r<J.heap.size)/\(∀r,m r->bR r)/\ak bR J/\aO bR aq J)/\(G=v2\/o=v2->fb j J)/\(o=v2->af (λr=>r<y.heap.size\/m r) j J):=by
       cases o with
       |true=>exact⟨g1.1,λ_=>g1.2.1,λ_=>g1.2.2.Y λr _ h=>h.imp (λh=>S3 h M.size) id⟩
       |false=>exact⟨⟨m,λr h=>.inl h,λ_ h=>h,g1.1,g1.2.1⟩,λh=>g1.2.2 (h.elim id λh=>nomatch h),λh=>nomatch h⟩
      refine⟨_,_,ba ν,_,rfl,.inl ⟨rfl,⟨bR,by simpa using d1,d2,haQ _ _ _ (aw _) Z,al _ _ _ _ ((aw _).aa _) (ag _) ab,?_,s8 (a7.F L) ao _,ap _ (aD L a8)⟩,λbT=>?_,?_,λbU=>(bS bU).F ((aw _).aa _)⟩⟩
      .rw[x6.putObj_heap_same aJ,C];rfl
      .have:=HC bF U L aJ (bQ bT);subst C;exact this
      .simpa using bP
     |ret=>exact bb .ret _ rfl rfl g1
     |exit id=>exact bb (.exit id) _ rfl rfl g1
     |goto t=>cases aH
     |panic bV=>cases aH
     |outgrown=>cases aH
    |_=>exact h1.elim
   have aE:=gT.calls P aE aP;refine⟨l,mark,y,{target:=.fn (.func g) cap,args:=#[.func (.yield l) #[] #[]]},y,g,#[.func (.yield l) #[] #[]]++cap,y,bu,?_,λ_ _=>trivial,?_,vD _ _,?_⟩
   .simp only[resolve,bt];simp[go_sem]
   .simp only[invoke];exact aP _ _
   .have bW:(#[.func (.yield l) #[] #[]]++cap:Array x4)=(x4.func (.yield l) #[] #[]::cap.toList).toArray:=by apply Array.toList_inj.1;simp
    rw[bW];refine CallsIn.mono (zi aE) ?_;rintro cc F ⟨v,rfl,bX⟩;have left:∀(W:Loop)(ex:Exit),l7 ex=v2->F.heap[l]?=σ (.loop W)->W.state≠ .busy->cM b w F->R F->K ex e (F.putObj l (.loop {W with state:=.exhausted}))->
      Q ex {a with defers:=mark++a.defers} (F.putObj l (.loop {W with state:=.exhausted})):=by
     intro W ex ae Y cd U bd bY;have L:cM b w (F.putObj l (.loop {W with state:=.exhausted})):=s8 U ao _;refine bf ex _ _ ⟨ae,e,bY,⟨ad.1,ad.2⟩,λ_ _=>rfl,(λh=>by simp[kp,lB]at h),λ_=>⟨L,?_,?_⟩⟩
     case refine_2=>
      rcases bd with hm|⟨hm,_,bZ,_⟩
      .exact⟨[],by simp[hm],λ_ h=>by cases h⟩
      .exact⟨[D],by simp[hm],λD' V=>by simp at V;omega⟩
     obtain⟨av,Z,ab,ai⟩:=ay rfl;have aL:=ap (.loop {W with state:=.exhausted}) bd;rcases aL with hm|⟨hm,aL,bZ,_⟩
     .exact⟨av,by simp[hm,Z],ab,λD' V=>L.aX _ _ (ai D' V) rfl⟩
     .refine⟨D::av,by simp[hm,Z],List.nodup_cons.2 ⟨λb0=>?_,ab⟩,λD' V=>?_⟩
      .have:=(Z0.1 (ai D b0)).1;omega
      .rcases V4.1 V with h|h
       .rw[h];exact aL
       .exact L.aX _ _ (ai D' h) rfl
    rcases bX with⟨m,k,hk,h1,q,s,H⟩|⟨m,k,ex,c,O,h1,q,s,H,ah⟩
    .refine⟨ν,_,by have:=run_endLoop (P:=P) q (by rw[C];simp);rw[C]at this;exact this,?_⟩;have:=left (z .ready ν) .normal rfl q (by rw[C];simp) s H (bp m _ _ hk (al m _ _ _ ((q8 q rfl _).aa _) (ag _) h1));rw[C]at this;exact this
    .refine⟨σ c,_,by have:=run_endLoop (P:=P) s (by rw[C];simp);rw[C]at this;exact this,?_⟩;have:=left (z .done (σ c)) ex O s (by rw[C];simp) H ah (bs m k ex _ O (by intro he;rw[he]at h1;cases h1) (aB m _ _ _ _ ((q8 s rfl _).aa _) (ag _) q));rw[C]at this;cases ex with
     |normal=>cases h1
     |ret=>cases h1;exact wpIn_ret this
     |exit id=>cases h1;exact wpIn_exit this
     |goto t=>cases O
     |panic bV=>cases O
     |outgrown=>cases O
def tb{b:Frame}{a:Act}{k:List Item}{cs:List Frame}{c:Code}:
  step P (lone (b.atR a (.code (.scope c)::k)) cs w)= .next (lone (b.atR a (.code c:: .inScope c::k)) cs w):=
 step_lone_go (by simp[stepG,stepG.exec,Frame.atR])
def HE{b:Frame}{a:Act}{k:List Item}{cs:List Frame}{c:Code}:
  step P (lone (b.atR a (.inScope c::k)) cs w)= .next (lone (b.atR a k) cs w):=
 step_lone_go (by simp[stepG,stepG.exec,Frame.atR])
def HF{F:Fence}{c:Code}{Q:Exit->Act->x6->Prop}{a:Act}(h:c.wpIn F n P (λex a' I=>l7 ex=v2/\Q ex a' I) a w):
  (Code.scope c).wpIn F n P Q a w:=by
 intro b k cs A p q;have f:(lone (b.atR a (.code (.scope c)::k)) cs w).fenced P F:=fenced_calm p q T;obtain⟨e,r,s,⟨x,y⟩,j⟩:=h b (.inScope c::k) cs A p q;have z:∀id,exitTo id (.inScope c::k)=exitTo id k:=λid=>by simp[exitTo]
 cases e with
 |normal=>exact⟨.normal,r,s,y,.head f tb (StepsIn.trans j (.one (fenced_calm p q T) HE))⟩
 |exit id=>
  exact⟨.exit id,r,s,y,λB hk=>.head f tb (j.1 B (by rw[z];exact hk)),
   λC hk=>let⟨E,h1,G⟩:=j.2 C (by rw[z];exact hk);⟨E,h1,.head f tb G⟩⟩
 |ret=>exact⟨_,r,s,y,.of_steps (.one f tb) j⟩
 |goto l=>cases x
 |panic H=>cases x
 |outgrown=>cases x
def sound(hm:P.follows .mixedOrders=v2)(c:Code):Sound P N c:=by
 induction c with
 |skip=>exact λfree r rd e a w K Q _ _ p h j q _=>wpIn_skip (q _ _ _ ⟨rfl,e,h,j,λ_ _=>rfl,λ_=>rfl,λC=>gV.refl (p C)⟩)
 |label l=>exact λfree r rd e a w K Q _ _ p h j q _=>wpIn_label (q _ _ _ ⟨rfl,e,h,j,λ_ _=>rfl,λ_=>rfl,λC=>gV.refl (p C)⟩)
 |ret=>exact λfree r rd e a w K Q _ _ p h j q _=>wpIn_ret (q _ _ _ ⟨rfl,e,h,j,λ_ _=>rfl,λ_=>rfl,λC=>gV.refl (p C)⟩)
 |exit i=>exact λfree r rd e a w K Q _ _ p h j q _=>wpIn_exit (q _ _ _ ⟨rfl,e,h,j,λ_ _=>rfl,λ_=>rfl,λC=>gV.refl (p C)⟩)
 |goto l=>exact λfree r rd e a w K Q _ _ p h j q _=>h.elim
 |refuse s=>exact λfree r rd e a w K Q _ _ p h j q _=>h.elim
 |region id ops aa=>
  intro free r rd e a w K Q A E p h j q F;simp only[wf,U9]at A;have W:∀o∈ops.toList,∀t,o.dst=σ t->t∈oG ops.toList:=λo ab t J=>Hy J _ ab;simp only[eL]at h;cases aa with
  |false=>exact He W A.1 h j λa' I ac=>q _ _ _ (zw p ac)
  |true=>
   simp only[X3,Bool.false_or]at A;exact Hn hm A.2 F W A.1 (λI h1 G H=>h I h1 G H) j λa' I ac=>q _ _ _ (zw p ac)
 |seq x y R S=>exact Hz R S
 |cond c x y R S=>
  intro free r rd e a w K Q A E p h j q F;simp only[wf,U9]at A;have X:∀ex a' I,nO N free (kp free x) K (dJ x) a w ex a' I->Q ex a' I:=λex a' I ac=>q ex a' I (by
   obtain⟨O,L,h1,G,H,M,T⟩:=ac;exact⟨O,L,h1,G,λt J=>H t λh=>J (by simp[dJ,h]),(λh=>M (zz _ _ _ h)),T⟩)
  have Y:∀ex a' I,nO N free (kp free y) K (dJ y) a w ex a' I->Q ex a' I:=λex a' I ac=>q ex a' I (by
   obtain⟨O,L,h1,G,H,M,T⟩:=ac;exact⟨O,L,h1,G,λt J=>H t λh=>J (by simp[dJ,h]),(λh=>M (zA _ _ _ h)),T⟩)
  simp only[eL]at h;cases B:eS e c with
  |none=>rw[B]at h;exact h.elim
  |some v=>
   rw[B]at h;cases v with
   |b t=>
    cases t with
    |true=>exact wpIn_cond (j.eS B) (R free r rd e a w K Q A.1 E p h j X F)
    |false=>exact wpIn_cond (j.eS B) (S free r rd e a w K Q A.2 E p h j Y F)
   |v z=>
    obtain⟨t,ad,J,C⟩:=h;refine wpIn_cond ((j.eS B).F ad) ?_;cases t with
    |true=>exact R free r rd e a w K Q A.1 E p (J rfl) j X F
    |false=>exact S free r rd e a w K Q A.2 E p (C rfl) j Y F
   |u=>exact h.elim
 |block id c B=>
  intro free r rd e a w K Q A E p h j q F;simp only[wf]at A;simp only[eL]at h;refine wpIn_block (B free r rd e a w _ _ A E p h j ?_ λZ a w U=>F Z a w U);intro ex a' I ac;obtain⟨O,L,h1,G,H,M⟩:=ac;cases ex with
  |exit i=>
   simp only[Exit.inBlock];simp only at h1;by_cases hi:i=id
   .rw[ms hi];rw[hi,Nat.beq_refl]at h1;exact q _ _ _ ⟨rfl,L,h1,G,H,M⟩
   .rw[rc hi];have:S6 i id=v6:=by
     cases V:S6 i id with
     |true=>exact ro (Nat.eq_of_beq_eq_true V) hi
     |false=>rfl
    rw[this]at h1;exact q _ _ _ ⟨rfl,L,h1,G,H,M⟩
  |_=>exact q _ _ _ ⟨O,L,h1,G,H,M⟩
 |loop c B=>exact HA B
 |scope c B=>
  intro free r rd e a w K Q A E p h j q F;exact HF (B free r rd e a w K (λex a' I=>l7 ex=v2/\Q ex a' I) A E p h j (λex a' I ac=>⟨ac.1,q ex a' I ac⟩) λZ a w U=>by cases U.1)
 |rangeFunc f af ag body ae V=>exact HD ae V
def l8:Nat->List x4->Env
 |_,[]=>[]
 |i,v::r=>(i,.v v)::l8 (i+1) r
def oJ(P:V5)(e:Env)(w:x6):List ResultVar->(List x4->Prop)->Prop
 |[],K=>K []
 | .tmp t::r,K=>match look e t with
  |some x=>oJ P e w r λvs=>K (x.val::vs)
  |none=>False
 | .cell a t::r,K=>match look e a with
  |some x=>ab P (do loadVar t (<-asAddr x.val)) w λv=>oJ P e w r λvs=>K (v::vs)
  |none=>False
def tc:List x4->x4
 |[v]=>v
 |vs=>.tuple vs.toArray
def m8(P:V5)(a:List ResultVar)(marks:Bool)(n:Nat)(Q:x4->x6->Prop):Exit->Env->x6->Prop
 | .normal,e,w| .ret,e,w=>oJ P e w a λvs=>bif marks then vT n w λI=>Q (tc vs) I else Q (tc vs) w
 |_,_,_=>False
def nP:List ResultVar->List Nat
 |[]=>[]
 | .tmp t::r=>t::nP r
 | .cell a _::r=>a::nP r
theorem zB:∀(vs:List x4)(i t:Nat)(x:eJ),look (l8 i vs) t=σ x->∃j v,t=i+j/\vs[j]?=σ v/\x= .v v
 |[],_,_,_,h=>by cases h
 |v::r,i,t,x,h=>by
  simp only[l8,look]at h;cases a:S6 i t with
  |true=>
   rw[a]at h;simp only[cond_true,X7]at h;exact⟨0,v,by rw[Nat.eq_of_beq_eq_true a];rfl,T,h.symm⟩
  |false=>
   rw[a]at h;obtain⟨j,u,h1,e,f⟩:=zB r (i+1) t x h;exact⟨j+1,u,Ω,by simpa using e,f⟩
def vY(vs:List x4)(h:vs.length<=n):R5 n (l8 0 vs) {tmps:=vs.toArray++Array.replicate (n-vs.toArray.size) undef,defers:=[]}:=by
 refine⟨Θ,λt x e=>?_⟩;obtain⟨j,v,h1,a,rfl⟩:=zB vs 0 t x e;have h1:t=j:=Ω
 subst h1;have f:=(x5.1 a).1;rw[Array.getD_eq_getD_getElem?,Array.getElem?_append_left (by simpa using f)];simp[a,eJ.val]
def td(jU:Array x4):ResultVar->Sem x4
 | .tmp t=>pure (jU.getD t undef)
 | .cell b t=>do loadVar t (<-asAddr (jU.getD b undef))
def HG(fn:Func)(jU:Array x4):results fn jU=(do let vs <-fn.results.mapM (td jU);pure (if h:vs.size=1 then vs[0]else .tuple vs)):=by
 unfold results;congr 2
theorem vZ{e:Env}{a:Act}{w:x6}(j:R5 N e a):∀(p:List ResultVar)(K:List x4->Prop),oJ P e w p K->
  ∃vs,K vs/\vs.length=p.length/\∀I,Ext w I->(p.mapM (td a.tmps)).run P I= .ok vs I
 |[],K,h=>⟨[],h,T,λI _=>by simp[V9]⟩
 | .tmp t::r,K,h=>by
  simp only[oJ]at h;cases f:look e t with
  |none=>rw[f]at h;exact h.elim
  |some x=>
   rw[f]at h;obtain⟨vs,h1,q,s⟩:=vZ j r _ h;refine⟨x.val::vs,h1,by simp[q],λI hw=>?_⟩;rw[List.mapM_cons];simp only[td,W9,V9,V2,s I hw,j.2 t x f]
 | .cell b t::r,K,h=>by
  simp only[oJ]at h;cases f:look e b with
  |none=>rw[f]at h;exact h.elim
  |some x=>
   rw[f]at h;obtain⟨v,y,h⟩:=h;obtain⟨vs,h1,q,s⟩:=vZ j r _ h;refine⟨v::vs,h1,by simp[q],λI hw=>?_⟩;rw[List.mapM_cons];have:=y I hw;rw[<-j.2 b x f]at this;rw[td,W9,this];simp only[V2,W9,s I hw,V9]
def v7{fn:Func}{e:Env}{a:Act}(j:R5 N e a){K:List x4->Prop}(h:oJ P e w fn.results.toList K):
  ∃vs,K vs/\∀I,Ext w I->(results fn a.tmps).run P I= .ok (tc vs) I:=by
 obtain⟨vs,h1,p,f⟩:=vZ j _ _ h;refine⟨vs,h1,λI hw=>?_⟩;have f:=f I hw;rw[HG,W9,Array.mapM_eq_mapM_toList,map_eq_pure_bind,W9,f];simp only[V2,V9];cases vs with
 |nil=>rfl
 |cons v r=>
  cases r with
  |nil=>rfl
  |cons u r=>simp[tc]
theorem zC{fn:Func}{tmps:Array x4}{R:Ending->x6->Prop}:∀(a:List Nat)(w:x6),a.Nodup->(∀D∈a,w.heap[D]?=σ (.deferred (σ [])))->
  (∀I,Ext w I->Ext I w->I.os=w.os->kP w I->I.output=w.output->w.heap.size=I.heap.size->
   (∀r,r∉a->I.heap[r]?=w.heap[r]?)->∃v,(results fn tmps).run P I= .ok v I/\R (.returned v) I)->
  LeavesInM Fence.wide 0 P fn tmps R (a.map lE) .returning w
 |[],w,_,_,h=>by
  obtain⟨v,h1,e⟩:=h w (Ext.refl _) (Ext.refl _) T .ly T rfl λ_ _=>rfl;exact⟨v,h1,e⟩
 |D::a,w,f,j,h=>by
  rw[List.nodup_cons]at f;have p:=j D (.head _);refine⟨Ξ,.inl ⟨D,_,T,run_takeDeferred p,?_⟩⟩;refine zC a _ f.2 (λD' q=>?_) λI h1 e x y z A B=>?_
  .rw[Q7 (λhe=>f.1 (by rw[<-he];exact q))];exact j D' (.tail _ q)
  .refine h I ((q8 p T _).F h1) (e.F (zv T)) x y z (by simpa using A) λr s=>?_;rw[B r λhm=>s (.tail _ hm),Q7 λhe=>s (by rw[he];exact .head _)]
def ak.enter(hm:P.follows .mixedOrders=v2){f:Q6}{fn:Func}{c:Code}(y:P.funcs[f]?=σ fn)(z:fn.body=σ c)(A:(fn.name == "runtime.NumGoroutine")=v6)(O:wf fn.ntmps c=v2){args:List x4}(R:Nat.ble args.length fn.ntmps=v2){w:x6}{Q:x4->x6->Prop}(h:eL P fn.ntmps (v6,w.heap.size) c (nP fn.results.toList) (l8 0 args) w (m8 P fn.results.toList v2 w.heap.size Q)):ak P f args w Q:=by
 refine .code (Enters.of P y z A) (callsIn_wide (n:=0).1 (callsIn_of_wp_marks y z trivial ?_));have S:=vY (n:=fn.ntmps) args (Nat.le_of_ble_eq_true R);refine wpIn_mono (Q:=λex a' I=>l7 ex=v2/\bodyPostM Fence.wide 0 P fn (λe I=>∃v,e= .returned v/\cQ w I/\Q v I) ex a' I) ?_ λ_ _ _ h=>h.2;refine sound hm c (v6,w.heap.size) ν _ _ _ w _ _ O (λl T=>by cases T) (λ_=>⟨[],rfl,List.nodup_nil,λD q=>by cases q⟩) h S ?_ (λ_ _ _ h=>by cases h.1)
 .intro ex a' I ac;obtain⟨U,W,j,X,_,_,J⟩:=ac;obtain⟨a,⟨s,B,Y,q⟩,Z,aa,ab⟩:=J rfl;have C:∀D∈s,w.heap.size<=D:=by
   intro D ad;have h1:lE D∈Z.map lE:=by
    have:lE D∈s.map lE:=j5.2 ⟨D,ad,rfl⟩;rw[<-B,aa]at this;simpa using this
   obtain⟨E,x,ae⟩:=j5.1 h1;have:E=D:=by simpa[lE]using ae
   exact this▸ab E x
  have F:m8 P fn.results.toList v2 w.heap.size Q .ret W I->LeavesInM Fence.wide 0 P fn a'.tmps (λe G=>∃v,e= .returned v/\cQ w G/\Q v G) a'.defers .returning I:=by
   intro j;rw[B];obtain⟨vs,h1,x⟩:=v7 X j;refine zC s I Y q λV g1 af H K L M N=>⟨_,x V g1,_,rfl,?_,h1 V g1 ⟨af,H,K,L,Nat.le_of_eq M,λr o A p _=>by rw[N r λhm=>by have:=C r hm;omega];exact p⟩⟩;have a:=a.cA (o4 _);refine⟨H.F a.os,K.F a.tape,L.F a.output,by rw[<-M];exact a.size,λr o p ag=>?_⟩;have ah:=(Z0.1 p).1;rw[N r λhm=>by have:=C r hm;omega];exact a.aX r o p ag
  cases ex with
  |normal=>exact⟨rfl,F j⟩
  |ret=>exact⟨rfl,F j⟩
  |exit id=>exact j.elim
  |_=>cases U
def ak.HH(hm:P.follows .mixedOrders=v2){f:Q6}{fn:Func}{c:Code}(j:P.funcs[f]?=σ fn)(p:fn.body=σ c)(s:(fn.name == "runtime.NumGoroutine")=v6)(x:wf fn.ntmps c=v2){args:List x4}(y:Nat.ble args.length fn.ntmps=v2)(au:lB c=v6){w:x6}{Q:x4->x6->Prop}(h:eL P fn.ntmps (v6,w.heap.size) c (nP fn.results.toList) (l8 0 args) w (m8 P fn.results.toList v6 0 Q)):ak P f args w Q:=by
 refine .code (Enters.of P j p s) (callsIn_wide (n:=0).1 (callsIn_of_wp j p trivial ?_));have z:=vY (n:=fn.ntmps) args (Nat.le_of_ble_eq_true y);refine wpIn_mono (Q:=λex a' I=>l7 ex=v2/\bodyPost P fn (λe I=>∃v,e= .returned v/\cQ w I/\Q v I) ex a' I) ?_ λ_ _ _ h=>h.2;refine sound hm c (v6,w.heap.size) ν _ _ _ w _ _ x (λl A=>by cases A) (λ_=>⟨[],T,List.nodup_nil,λD B=>by cases B⟩) h z ?_ (λ_ _ _ h=>by cases h.1);intro ex a' I ac;obtain⟨C,E,a,F,_,G,J⟩:=ac;have H:=G (by simp[kp,au]);have q:m8 P fn.results.toList v6 0 Q .ret E I->a'.defers=[]/\∃v,(results fn a'.tmps).run P I= .ok v I/\∃r,Ending.returned v= .returned r/\cQ w I/\Q r I:=by
  intro a;obtain⟨vs,h1,K⟩:=v7 F a;exact⟨H,_,K I (Ext.refl _),_,T,(J T).1.cA (o4 _),h1⟩
 cases ex with
 |normal=>exact⟨T,q a⟩
 |ret=>exact⟨T,q a⟩
 |exit id=>exact a.elim
 |_=>cases C
def gT.enter(hm:P.follows .mixedOrders=v2){f:Q6}{fn:Func}{c:Code}(j:P.funcs[f]?=σ fn)(p:fn.body=σ c)(s:(fn.name == "runtime.NumGoroutine")=v6)(x:wf fn.ntmps c=v2){args:List x4}(y:Nat.ble args.length fn.ntmps=v2){w:x6}{Q:x4->x6->Prop}(h:eL P fn.ntmps (v2,0) c (nP fn.results.toList) (l8 0 args) w (m8 P fn.results.toList v6 0 Q)):gT P f args w Q:=by
 refine .code (Enters.of P j p s) (callsIn_wide (n:=0).1 (callsIn_of_wp j p trivial ?_));have z:=vY (n:=fn.ntmps) args (Nat.le_of_ble_eq_true y);refine wpIn_mono (Q:=λex a' I=>l7 ex=v2/\bodyPost P fn (λe I=>∃v,e= .returned v/\Q v I) ex a' I) ?_ λ_ _ _ h=>h.2;refine sound hm c (v2,0) ν _ _ _ w _ _ x (λl A=>by cases A) (λh=>by cases h) h z ?_ (λ_ _ _ h=>by cases h.1);intro ex a' I ac;obtain⟨B,C,a,E,_,F,J⟩:=ac;have G:=F T;have q:m8 P fn.results.toList v6 0 Q .ret C I->a'.defers=[]/\∃v,(results fn a'.tmps).run P I= .ok v I/\∃r,Ending.returned v= .returned r/\Q r I:=by
  intro a;obtain⟨vs,h1,H⟩:=v7 E a;exact⟨G,_,H I (Ext.refl _),_,T,h1⟩
 cases ex with
 |normal=>exact⟨T,q a⟩
 |ret=>exact⟨T,q a⟩
 |exit id=>exact a.elim
 |_=>cases B
end
def q9(l:List R4)(d:Nat):Nat:=
 match l with
 |[]=>d
 | .tmp t::r=>q9 r (Nat.lor d (Nat.shiftLeft 1 t))
 |_::r=>q9 r d
def p1:List S0->Nat->Option S0
 |[],_=>ν
 |o::_,0=>σ o
 |_::l,n+1=>p1 l n
def zD(a b:Nat):Nat:=Nat.xor a (Nat.land a b)
def ra(m t:Nat):Bool:=S6 (Nat.land (Nat.shiftRight m t) 1) 1
def lF(m t:Nat):Nat:=Nat.lor m (Nat.shiftLeft 1 t)
def HI(ops:List S0)(o:S0):Nat:=
 match o.guard with
 |none=>0
 |some (j,_)=>match p1 ops j with
  |some ⟨σ d,_,_,_,_,_⟩=>Nat.shiftLeft 1 d
  |_=>0
def te:List S0->Nat->Nat
 |[],d=>d
 |⟨σ t,_,_,_,_,_⟩::l,d=>te l (lF d t)
 |_::l,d=>te l d
def zE(ops:List S0):List S0->Nat->Nat->Nat
 |[],_,r=>r
 |o::l,d,r=>zE ops l (match o.dst with|some t=>lF d t|none=>d) (Nat.lor r (zD (q9 (opsOf o.op) (HI ops o)) d))
def tf:List Nat->Nat->Nat
 |[],_=>0
 |x::_,0=>x
 |_::l,n+1=>tf l n
def zF(e:Edge):Bool:=
 match e.ground with
 | .textOnly _=>v6
 | .gcOnly _=>v6
 |_=>v2
def zG(a:List Nat):List Edge->Nat->Nat
 |[],s=>s
 |e::r,s=>zG a r (bif zF e then Nat.lor (lF s e.on) (tf a e.on)else s)
def wa:List S0->List Nat->List Nat
 |[],a=>a
 |o::l,a=>wa l (a++[zG a o.after.toList 0])
def zH:List S0->Bool
 |[]=>v6
 |⟨_,_,_,_,_,σ _⟩::_=>v2
 |_::l=>zH l
def wb(a:List Nat)(j k:Nat):Bool:=!(S6 k j)&&(!(ra (tf a j) k)&& !(ra (tf a k) j))
def zI(a:List Nat)(j:Nat):Nat->List S0->Bool
 |_,[]=>v6
 |i,o::l=>bif Nat.ble j i then v6 else(!(kk o)&&wb a j i)||zI a j (Nat.succ i) l
def zJ(ops:List S0)(a:List Nat):Nat->List S0->Bool
 |_,[]=>v6
 |j,o::l=>(!(kk o)&&zI a j 0 ops)||zJ ops a (Nat.succ j) l
def m9:Code->Nat
 | .region _ ops e=>bif (e&&zJ ops.toList (wa ops.toList []) 0 ops.toList)||zH ops.toList then 2 else 1
 | .seq a b=>bif S6 (m9 a) 0 then 0 else m9 b
 | .cond _ a b=>Nat.add (m9 a) (m9 b)
 | .block id c=>Nat.add (m9 c) (kR id c)
 | .loop _=>0
 | .scope c=>m9 c
 | .exit _=>0
 | .goto _=>0
 | .ret=>0
 | .refuse _=>0
 |_=>1
def jw:Code->Nat
 | .region _ ops _=>te ops.toList 0
 | .seq a b=>Nat.lor (jw a) (jw b)
 | .cond _ a b=>Nat.lor (jw a) (jw b)
 | .block _ c=>jw c
 | .loop c=>jw c
 | .scope c=>jw c
 |_=>0
def na:Code->Nat
 | .region _ ops _=>te ops.toList 0
 | .seq a b=>Nat.lor (na a) (na b)
 | .cond _ a b=>bif S6 (m9 a) 0 then na b else bif S6 (m9 b) 0 then na a else Nat.land (na a) (na b)
 | .block id c=>bif S6 (kR id c) 0 then na c else 0
 | .scope c=>na c
 |_=>0
def gH:Code->Nat
 | .region _ ops _=>zE ops.toList ops.toList 0 0
 | .seq a b=>Nat.lor (gH a) (zD (gH b) (na a))
 | .cond c a b=>q9 [c] (Nat.lor (gH a) (gH b))
 | .block _ c=>gH c
 | .loop c=>gH c
 | .scope c=>gH c
 | .rangeFunc f _ a b=>q9 [f] (Nat.lor (gH a) (gH b))
 |_=>0
def nQ:Nat->Nat->Nat->List Nat
 |0,_,_=>[]
 |n+1,k,m=>bif S6 m 0 then[]else bif S6 (Nat.land m 1) 1 then k::nQ n (Nat.succ k) (Nat.shiftRight m 1)else nQ n (Nat.succ k) (Nat.shiftRight m 1)
def rb(e:Env):List Nat->List Nat
 |[]=>[]
 |t::r=>match look e t with
  |some _=>t::rb e r
  |none=>rb e r
structure nR(B S aZ:Type) where
 ma:{x:x4}->x4
 tup:List x4->x4
 no:B
 mb:B
 and:B->B->B
 or:B->B->B
 W:x6->x6->B
 stays:S->x4->x6->B
 split:x4->B->B->B
 wc:S->x6->(x4->B)->B
 zK:S->x6->(x4->x6->B)->B
 zL:aZ->x6->(x6->B)->B
 runN:{fr:Bool}->{n:Nat}->S->x6->(x4->x6->B)->B
 zM:{f:Q6}->List x4->x6->(x4->x6->B)->B
 zN:{f:Q6}->List x4->x6->(x4->x6->B)->B
 zO:{fr:Bool}->x4->List x4->x6->(x4->x6->B)->B
 drew:x6->(x6->B)->B
 again:{n:Nat}->x6->(x6->B)->B
 over:{n:Nat}->x6->(x6->B)->B
 c8:(x6->B)->((x6->B)->B)->B
 aY:(x4->x6->B)->((x4->x6->B)->B)->B
 i9:(x4->x4->x6->B)->((x4->x4->x6->B)->B)->B
 zP:(x4->x4->x4->x6->B)->((x4->x4->x4->x6->B)->B)->B
 zQ:(x4->x4->x4->x4->x6->B)->((x4->x4->x4->x4->x6->B)->B)->B
 zR:(x4->x4->x4->x4->x4->x6->B)->((x4->x4->x4->x4->x4->x6->B)->B)->B
 zS:x6->(x6->(x6->B)->B)->B
 zT:x4->x6->(x4->x6->(x4->x6->B)->B)->B
 zU:x4->x4->x6->(x4->x4->x6->(x4->x4->x6->B)->B)->B
 zV:x4->x4->x4->x6->(x4->x4->x4->x6->(x4->x4->x4->x6->B)->B)->B
 zW:x4->x4->x4->x4->x6->(x4->x4->x4->x4->x6->(x4->x4->x4->x4->x6->B)->B)->B
 zX:x4->x4->x4->x4->x4->x6->(x4->x4->x4->x4->x4->x6->(x4->x4->x4->x4->x4->x6->B)->B)->B
 zY:x4->x4->x4->x4->x4->x4->x6->(x4->x4->x4->x4->x4->x4->x6->(x4->x4->x4->x4->x4->x4->x6->B)->B)->B
 zZ:x4->x6->(x4->x6->(Exit->x6->B)->B)->(x6->B)->(x6->B)->List (Nat×(x6->B))->B
 z1:x4->x6->(x4->x4->x6->(Exit->x6->B)->B)->(x6->B)->(x6->B)->List (Nat×(x6->B))->B
 loadVar:{t:o5}->x4->S
 alloc:{t:o5}->S
 box:{t:o5}->x4->S
 build:{t:o5}->List (Nat×x4)->S
 buildSlice:{t:o5}->{n:Nat}->List (Nat×x4)->S
 load:{t:o5}->x4->S
 nil:x4->S
 bin:{op:BinOp}->{t:o5}->Bool->Bool->x4->x4->S
 un:{op:UnOp}->x4->S
 conv:{s d:o5}->x4->S
 z6:{t:o5}->x4->S
 z7:{f:Fn}->List x4->List x4->S
 z8:{t:o5}->Option x4->S
 Aa:{t:o5}->x4->x4->S
 slice:{t:o5}->x4->Option x4->Option x4->Option x4->S
 Ab:{t:o5}->x4->{f:Nat}->S
 field:{t:o5}->x4->{f:Nat}->S
 Ac:{t:o5}->x4->x4->S
 index:{t:o5}->x4->x4->S
 lookup:{t:o5}->x4->x4->{ok:Bool}->S
 Ad:{t:o5}->x4->x4->S
 range:{t:o5}->x4->S
 entry:x4->S
 assert:{t a:o5}->x4->{ok:Bool}->S
 extract:x4->{i:Nat}->S
 next:x4->{b:Bool}->S
 append:{ats:Array o5}->{t:o5}->List x4->S
 cap:{ats:Array o5}->{t:o5}->List x4->S
 clear:{ats:Array o5}->{t:o5}->List x4->S
 copy:{ats:Array o5}->{t:o5}->List x4->S
 delete:{ats:Array o5}->{t:o5}->List x4->S
 len:{ats:Array o5}->{t:o5}->List x4->S
 max:{ats:Array o5}->{t:o5}->List x4->S
 min:{ats:Array o5}->{t:o5}->List x4->S
 store:{t:o5}->x4->x4->aZ
 we:{t:o5}->x4->x4->x4->aZ
 Ae:{t:o5}->x4->x4->x4->aZ
section
variable{B S aZ:Type}(A:nR B S aZ)
def eJ.g:eJ->x4
 | .v x=>x
 | .b c=>.bool c
 | .u=>A.ma (x:=undef)
def oK(e:Env):R4->eJ
 | .tmp t=>match look e t with
  |some x=>x
  |none=>.u
 | .const (.bool c)=>.b c
 | .const x=>.v (A.ma (x:=x))
 | .global g=>.v (A.ma (x:=Γ g))
 | .func f=>.v (A.ma (x:=.func (.func f) #[] #[]))
def da(e:Env)(x:R4):x4:=(oK A e x).g A
def oL(e:Env):List R4->List x4
 |[]=>[]
 |x::r=>da A e x::oL e r
def tg(e:Env):Option R4->Option x4
 |none=>ν
 |some x=>σ (da A e x)
def wg(e:Env):List (Nat×R4)->List (Nat×x4)
 |[]=>[]
 |(i,x)::r=>(i,da A e x)::wg e r
def HJ(b:Y4)(ats:Array o5)(t:o5)(l:List x4)(K:S->B):B:=
 match b with
 | .append=>K (A.append (ats:=ats) (t:=t) l)
 | .cap=>K (A.cap (ats:=ats) (t:=t) l)
 | .clear=>K (A.clear (ats:=ats) (t:=t) l)
 | .copy=>K (A.copy (ats:=ats) (t:=t) l)
 | .delete=>K (A.delete (ats:=ats) (t:=t) l)
 | .len=>K (A.len (ats:=ats) (t:=t) l)
 | .max=>K (A.max (ats:=ats) (t:=t) l)
 | .min=>K (A.min (ats:=ats) (t:=t) l)
 |_=>A.no
def Af(e:Env)(t:o5)(K:S->B)(j:aZ->B):Op->B
 | .alloc t=>K (A.alloc (t:=t))
 | .box t x=>K (A.box (t:=t) (da A e x))
 | .build t p=>K (A.build (t:=t) (wg A e p.toList))
 | .buildSlice t n p=>K (A.buildSlice (t:=t) (n:=n) (wg A e p.toList))
 | .load t x=>K (A.load (t:=t) (da A e x))
 | .nilCheck x=>K (A.nil (da A e x))
 | .binOp op t x y _=>K (A.bin (op:=op) (t:=t) (pR x) (pR y) (da A e x) (da A e y))
 | .unOp op _ x=>K (A.un (op:=op) (da A e x))
 | .convert s d x=>K (A.conv (s:=s) (d:=d) (da A e x))
 | .makeInterface t x=>K (A.z6 (t:=t) (da A e x))
 | .makeFunc f a b=>K (A.z7 (f:=f) (oL A e a.toList) (oL A e b.toList))
 | .makeMap t r=>K (A.z8 (t:=t) (tg A e r))
 | .makeSlice t l c=>K (A.Aa (t:=t) (da A e l) (da A e c))
 | .slice t x l h m=>K (A.slice (t:=t) (da A e x) (tg A e l) (tg A e h) (tg A e m))
 | .fieldAddr t x f=>K (A.Ab (t:=t) (da A e x) (f:=f))
 | .field t x f=>K (A.field (t:=t) (da A e x) (f:=f))
 | .indexAddr t x i=>K (A.Ac (t:=t) (da A e x) (da A e i))
 | .index t x i=>K (A.index (t:=t) (da A e x) (da A e i))
 | .lookup t x i ok=>K (A.lookup (t:=t) (da A e x) (da A e i) (ok:=ok))
 | .mapEntry t m k=>K (A.Ad (t:=t) (da A e m) (da A e k))
 | .range t x=>K (A.range (t:=t) (da A e x))
 | .entry x=>K (A.entry (da A e x))
 | .typeAssert x t a ok=>K (A.assert (t:=t) (a:=a) (da A e x) (ok:=ok))
 | .extract x i=>K (A.extract (da A e x) (i:=i))
 | .call ⟨.builtin b,args,ats⟩=>HJ A b ats t (oL A e args.toList) K
 | .store t a x=>j (A.store (t:=t) (da A e a) (da A e x))
 | .mapUpdate t m k x=>j (A.we (t:=t) (da A e m) (da A e k) (da A e x))
 | .insert t m k x=>j (A.we (t:=t) (da A e m) (da A e k) (da A e x))
 | .entryStore t m k x=>j (A.Ae (t:=t) (da A e m) (da A e k) (da A e x))
 |_=>A.no
def iE(e:Env)(d:Option Tmp)(x:eJ):Env:=
 match d with
 |some t=>(t,x)::e
 |none=>e
def Ag(o:S0)(e:Env)(w:x6)(K:Env->(x6->B)->B):B:=
 match o with
 |⟨d,.move x,_,_,_,_⟩=>K (iE e d (oK A e x)) (λ_=>A.mb)
 |⟨d,.assign x,_,_,_,_⟩=>K (iE e d (oK A e x)) (λ_=>A.mb)
 |⟨d,.pick c a b,_,_,_,_⟩=>
  match oK A e c with
  | .b v2=>K (iE e d (oK A e a)) (λ_=>A.mb)
  | .b v6=>K (iE e d (oK A e b)) (λ_=>A.mb)
  | .v x=>A.split x (K (iE e d (.v (da A e a))) (λ_=>A.mb)) (K (iE e d (.v (da A e b))) (λ_=>A.mb))
  | .u=>A.no
 |⟨d,op,t,_,_,_⟩=>Af A e t (λs=>A.wc s w λv=>K (iE e d (.v v)) (A.stays s v)) (λ_=>A.no) op
def HK(fr:Bool)(n:Nat)(o:S0)(e:Env)(w:x6)(K:Env->x6->B):B:=
 match o with
 |⟨d,.call ⟨.value (.func f),args,_⟩,_,_,_,_⟩=>
  bif fr then A.zN (f:=f) (oL A e args.toList) w λv I=>K (iE e d (.v v)) I
  else A.zM (f:=f) (oL A e args.toList) w λv I=>K (iE e d (.v v)) I
 |⟨d,.call ⟨.value x,args,_⟩,_,_,_,_⟩=>A.zO (fr:=fr) (da A e x) (oL A e args.toList) w λv I=>K (iE e d (.v v)) I
 |⟨d,.next x b,_,_,_,_⟩=>A.runN (fr:=fr) (n:=n) (A.next (da A e x) (b:=b)) w λv I=>K (iE e d (.v v)) I
 |⟨d,op,t,_,_,_⟩=>Af A e t (λs=>A.zK s w λv I=>K (iE e d (.v v)) I) (λu=>A.zL u w λI=>K (iE e d (.v (A.ma (x:=undef)))) I) op
def Ah(fr:Bool)(n:Nat)(o:S0)(e:Env)(w:x6)(K:Env->x6->B):B:=
 bif kk o then Ag A o e w (λa _=>K a w)else HK A fr n o e w K
def wh(ops:List S0)(o:S0)(e:Env)(D N:Env->B):B:=
 match o.guard with
 |none=>D e
 |some (j,b)=>
  match p1 ops j with
  |some ⟨σ s,_,_,_,_,_⟩=>
   match look e s with
   |some (.b c)=>bif xor c b then N e else D e
   |some (.v x)=>A.split x (bif b then D ((s,.b v2)::e)else N ((s,.b v2)::e)) (bif b then N ((s,.b v6)::e)else D ((s,.b v6)::e))
   |some .u=>N e
   |none=>A.no
  |_=>A.no
def wi(fr:Bool)(n:Nat)(ops:List S0):List S0->Env->x6->(Env->x6->B)->B
 |[],e,w,K=>K e w
 |o::l,e,w,K=>wh A ops o e (λe=>Ah A fr n o e w λa I=>wi fr n ops l a I K) (λe=>wi fr n ops l (iE e o.dst .u) w K)
def Ai:List Edge->Nat->Bool
 |[],_=>v2
 |e::r,a=>(bif zF e then ra a e.on else v2)&&Ai r a
def th(a:Nat):Nat->List S0->List Nat
 |_,[]=>[]
 |i,o::l=>bif ra a i then th a (Nat.succ i) l else bif Ai o.after.toList a then i::th a (Nat.succ i) l else th a (Nat.succ i) l
def Aj(ops:List S0):List Nat->Option Nat
 |[]=>ν
 |i::r=>match p1 ops i with
  |some o=>bif kk o then σ i else Aj ops r
  |none=>ν
def Ak(p:Nat->B):List Nat->B
 |[]=>A.mb
 |[i]=>p i
 |i::r=>A.and (p i) (Ak p r)
def Al(same:Bool)(q:Nat)(w:x6)(st:x6->B)(a:List (x6×List (Nat×(x6->B)))):List (x6×List (Nat×(x6->B))):=
 match same,a with
 |true,g::r=>(g.1,(q,st)::g.2)::r
 |_,a=>(w,[(q,st)])::a
def Am(a:List Nat)(j:Nat):List (Nat×(x6->B))->Bool
 |[]=>v6
 |(i,_)::r=>wb a j i||Am a j r
def wj(a:List Nat)(j:Nat)(I:x6):List (Nat×(x6->B))->B
 |[]=>A.mb
 |(i,p)::r=>bif wb a j i then A.and (p I) (wj a j I r)else wj a j I r
def ti(a:List Nat)(j:Nat)(I:x6)(C:B):List (x6×List (Nat×(x6->B)))->B
 |[]=>C
 |(w,l)::r=>bif Am a j l then A.and (A.or (A.W w I) (wj A a j I l)) (ti a j I C r)else ti a j I C r
def oM(fr:Bool)(n:Nat)(ops:List S0)(a:List Nat):Nat->Nat->Bool->List (x6×List (Nat×(x6->B)))->Env->x6->(Env->x6->B)->B
 |0,_,_,_,e,w,K=>K e w
 |fuel+1,h,same,f,e,w,K=>
  match th h 0 ops with
  |[]=>K e w
  |i::r=>
   match Aj ops (i::r)with
   |some q=>
    match p1 ops q with
    |some o=>wh A ops o e
      (λe=>Ag A o e w λp st=>
       bif mY o then oM fr n ops a fuel (lF h q) same f p w K
       else oM fr n ops a fuel (lF h q) v2 (Al same q w st f) p w K)
      (λe=>bif mY o then oM fr n ops a fuel (lF h q) same f (iE e o.dst .u) w K
       else oM fr n ops a fuel (lF h q) v2 (Al same q w (λ_=>A.mb) f) (iE e o.dst .u) w K)
    |none=>A.no
   |none=>
    Ak A (λj=>match p1 ops j with
     |some o=>wh A ops o e (λe=>Ah A fr n o e w λp I=>ti A a j I (oM fr n ops a fuel (lF h j) v6 f p I K) f)
       (λe=>ti A a j w (oM fr n ops a fuel (lF h j) v6 f (iE e o.dst .u) w K) f)
     |none=>A.no) (i::r)
def tj(e:Env):List Nat->List x4
 |[]=>[]
 |t::r=>(match look e t with|some x=>x.g A|none=>A.ma (x:=undef))::tj e r
def wk(l:List Nat)(vs:List x4)(e:Env):Env:=
 match l,vs with
 |t::r,v::vs=>(t,.v v)::wk r vs e
 |_,_=>e
def tk(d:Nat):Env->Env
 |[]=>[]
 |(t,x)::r=>bif ra d t then tk d r else(t,x)::tk d r
def HL(l:List Nat)(ax:List x4->x6->B)(X:(List x4->x6->B)->B):B:=
 match l with
 |[]=>A.c8 (λw=>ax [] w) λk=>X λ_ w=>k w
 |[_]=>A.aY (λa w=>ax [a] w) λk=>X λvs w=>match vs with
  |[a]=>k a w
  |_=>A.no
 |[_,_]=>A.i9 (λa b w=>ax [a,b] w) λk=>X λvs w=>match vs with
  |[a,b]=>k a b w
  |_=>A.no
 |[_,_,_]=>A.zP (λa b c w=>ax [a,b,c] w) λk=>X λvs w=>match vs with
  |[a,b,c]=>k a b c w
  |_=>A.no
 |[_,_,_,_]=>A.zQ (λa b c d w=>ax [a,b,c,d] w) λk=>X λvs w=>match vs with
  |[a,b,c,d]=>k a b c d w
  |_=>A.no
 |[_,_,_,_,_]=>A.zR (λa b c d f w=>ax [a,b,c,d,f] w) λk=>X λvs w=>match vs with
  |[a,b,c,d,f]=>k a b c d f w
  |_=>A.no
 |_=>A.no
def HM(us:List x4)(w:x6)(X:List x4->x6->(List x4->x6->B)->B):B:=
 match us with
 |[]=>A.zS w λw k=>X [] w λ_ w=>k w
 |[a]=>A.zT a w λa w k=>X [a] w λvs w=>match vs with
  |[a]=>k a w
  |_=>A.no
 |[a,b]=>A.zU a b w λa b w k=>X [a,b] w λvs w=>match vs with
  |[a,b]=>k a b w
  |_=>A.no
 |[a,b,c]=>A.zV a b c w λa b c w k=>X [a,b,c] w λvs w=>match vs with
  |[a,b,c]=>k a b c w
  |_=>A.no
 |[a,b,c,d]=>A.zW a b c d w λa b c d w k=>X [a,b,c,d] w λvs w=>match vs with
  |[a,b,c,d]=>k a b c d w
  |_=>A.no
 |[a,b,c,d,f]=>A.zX a b c d f w λa b c d f w k=>X [a,b,c,d,f] w λvs w=>match vs with
  |[a,b,c,d,f]=>k a b c d f w
  |_=>A.no
 |[a,b,c,d,f,g]=>A.zY a b c d f g w λa b c d f g w k=>X [a,b,c,d,f,g] w λvs w=>match vs with
  |[a,b,c,d,f,g]=>k a b c d f g w
  |_=>A.no
 |_=>A.no
def wm(K:Nat->x6->B):List Nat->List (Nat×(x6->B))
 |[]=>[]
 |i::r=>(i,λw=>K i w)::wm K r
def ja(fr:Bool)(n:Nat):Code->Nat->Env->x6->(Exit->Env->x6->B)->B
 | .skip,_,e,w,K=>K .normal e w
 | .label _,_,e,w,K=>K .normal e w
 | .ret,_,e,w,K=>K .ret e w
 | .exit i,_,e,w,K=>K (.exit i) e w
 | .region _ ops C,_,e,w,K=>
  bif C then A.drew w λI=>oM A fr n ops.toList (wa ops.toList []) (ops.toList.length) 0 v6 [] e I (K .normal)
  else wi A fr n ops.toList ops.toList e w (K .normal)
 | .seq x y,rd,e,w,K=>
  bif Nat.ble 2 (m9 x)then
   HL A (nQ 1000 0 (Nat.land (jw x) (Nat.lor (gH y) rd))) (λvs I=>ja fr n y rd (wk (nQ 1000 0 (Nat.land (jw x) (Nat.lor (gH y) rd))) vs (tk (jw x) e)) I K)
    λax=>ja fr n x (Nat.lor (gH y) rd) e w λex h I=>match ex with
     | .normal=>ax (tj A h (nQ 1000 0 (Nat.land (jw x) (Nat.lor (gH y) rd)))) I
     |ex=>K ex h I
  else ja fr n x (Nat.lor (gH y) rd) e w λex h I=>match ex with
   | .normal=>ja fr n y rd h I K
   |ex=>K ex h I
 | .cond c x y,rd,e,w,K=>
  match oK A e c with
  | .b v2=>ja fr n x rd e w K
  | .b v6=>ja fr n y rd e w K
  | .v v=>A.split v (ja fr n x rd e w K) (ja fr n y rd e w K)
  | .u=>A.no
 | .block id c,rd,e,w,K=>ja fr n c rd e w λex h I=>match ex with
  | .exit i=>bif S6 i id then K .normal h I else K (.exit i) h I
  |ex=>K ex h I
 | .loop c,rd,e,w,K=>
  HM A (tj A e (rb e (nQ 1000 0 (Nat.land (jw c) (Nat.lor (gH c) rd))))) w λus I k=>
   ja fr n c (Nat.lor (gH c) rd) (wk (rb e (nQ 1000 0 (Nat.land (jw c) (Nat.lor (gH c) rd)))) us (tk (jw c) e)) I λex h j=>match ex with
    | .normal=>k (tj A h (rb e (nQ 1000 0 (Nat.land (jw c) (Nat.lor (gH c) rd))))) j
    |ex=>K ex h j
 | .scope c,rd,e,w,K=>ja fr n c rd e w K
 | .rangeFunc f E z body,_,e,w,K=>
  match E.toList with
  |[p]=>A.zZ (da A e f) w
    (λa I k=>ja fr n z (gH body) ((p,.v a)::e) I λex h j=>match ex with
     | .normal=>A.over (n:=w.heap.size) j λr=>ja fr n body 0 h r λex _ s=>k ex s
     |_=>A.no)
    (λI=>K .normal e I) (bif ko body then λI=>K .ret e I else λ_=>A.no) (wm (λi I=>K (.exit i) e I) (kT body))
  |[p,q]=>A.z1 (da A e f) w
    (λa b I k=>ja fr n z (gH body) ((q,.v b)::(p,.v a)::e) I λex h j=>match ex with
     | .normal=>A.over (n:=w.heap.size) j λr=>ja fr n body 0 h r λex _ s=>k ex s
     |_=>A.no)
    (λI=>K .normal e I) (bif ko body then λI=>K .ret e I else λ_=>A.no) (wm (λi I=>K (.exit i) e I) (kT body))
  |_=>A.no
 | .goto _,_,_,_,_=>A.no
 | .refuse _,_,_,_,_=>A.no
def An:Nat->List x4->Env
 |_,[]=>[]
 |i,v::r=>(i,.v (A.ma (x:=v)))::An (i+1) r
def tm(e:Env)(w:x6):List ResultVar->(List x4->B)->B
 |[],K=>K []
 | .tmp t::r,K=>tm e w r λvs=>K ((match look e t with|some x=>x.g A|none=>A.ma (x:=undef))::vs)
 | .cell a t::r,K=>A.wc (A.loadVar (t:=t) (match look e a with|some x=>x.g A|none=>A.ma (x:=undef))) w λv=>tm e w r λvs=>K (v::vs)
def tn(vs:List x4)(K:x4->B):B:=
 match vs with
 |[v]=>K v
 |vs=>K (A.tup vs)
def wn:List ResultVar->Nat->Nat
 |[],s=>s
 | .tmp t::r,s=>wn r (lF s t)
 | .cell a _::r,s=>wn r (lF s a)
def HN(a:List ResultVar)(marks:Bool)(n:Nat)(Q:x4->x6->B):Exit->Env->x6->B
 | .normal,e,w=>tm A e w a λvs=>bif marks then A.again (n:=n) w λI=>tn A vs λv=>Q v I else tn A vs λv=>Q v w
 | .ret,e,w=>tm A e w a λvs=>bif marks then A.again (n:=n) w λI=>tn A vs λv=>Q v I else tn A vs λv=>Q v w
 |_,_,_=>A.no
def wo(fr marks:Bool)(fn:Func)(c:Code)(args:List x4)(w:x6)(Q:x4->x6->B):B:=
 ja A fr n c (wn fn.results.toList 0) (An A 0 args) w (HN A fn.results.toList marks n Q)
end
def p2(P:V5):nR Prop (Sem x4) (Sem Unit) where
 ma {x}:=x
 tup l:=.tuple l.toArray
 no:=False
 mb:=True
 and:=And
 or:=Or
 W:=Ext
 stays:=b6 P
 split:=Split
 wc:=ab P
 zK:=aG P
 zL u w K:=aG P u w λ_ I=>K I
 runN {fr n}:=sS P (fr,n)
 zM {f}:=ak P f
 zN {f}:=gT P f
 zO {fr}:=sV P fr
 drew:=en
 again {n}:=vT n
 over {n}:=Over n
 c8:=cB
 aY:=cB
 i9:=cB
 zP:=cB
 zQ:=cB
 zR:=cB
 zS:=Hr
 zT:=bY
 zU:=b7
 zV:=kS
 zW:=q3
 zX:=q4
 zY:=Hs
 zZ:=lD P
 z1:=pY P
 loadVar {t} x:=do loadVar t (<-asAddr x)
 alloc {t}:=Q8 t v2 (.tuple #[])
 box {t} x:=Instr.box t x
 build {t} l:=Instr.build t l.toArray
 buildSlice {t n} l:=X2 t n l.toArray
 load {t} x:=u6 t x
 nil x:=bU x
 bin {op t} a b x y:=aP op t a b x y
 un {op} x:=Op.unary op x
 conv {s d} x:=convert s d x
 z6 {t} x:=Instr.makeInterface t x
 z7 {f} a b:=Instr.makeFunc f a.toArray b.toArray
 z8 {t} x:=Instr.makeMap t x
 Aa {t} l c:=Instr.makeSlice t l c
 slice {t} x l h m:=U4 t x l h m
 Ab {t} x {f}:=u7 t x f
 field {t} x {f}:=Instr.field t x f
 Ac {t} x i:=b8 t x i
 index {t} x i:=Instr.index t x i
 lookup {t} x i {ok}:=Instr.lookup t x i ok
 Ad {t} m k:=Instr.mapEntry t m k
 range {t} x:=Instr.range t x
 entry x:=Instr.entry x
 assert {t a} x {ok}:=Instr.typeAssert x t a ok
 extract x {i}:=Y8 x i
 next x {b}:=Instr.next x b 0
 append {ats t} l:=Z9 ats t l.toArray
 cap {ats t} l:=Y4.cap_ ats t l.toArray
 clear {ats t} l:=Y4.clear_ ats t l.toArray
 copy {ats t} l:=Y4.copy_ ats t l.toArray
 delete {ats t} l:=Y4.delete_ ats t l.toArray
 len {ats t} l:=V1 ats t l.toArray
 max {ats t} l:=Y4.max_ ats t l.toArray
 min {ats t} l:=Y4.min_ ats t l.toArray
 store {t} a x:=j0 t a x
 we {t} m k x:=Instr.mapUpdate t m k x
 Ae {t} m k x:=Instr.entryStore t m k x
end Go.Vc
namespace Go.Proofs.YtnhkbjhpbbobaaaGreatDoor
open Go Go.Vc Go.RowKit Go.Proofs Go.Proofs.Tryz
set_option maxRecDepth 100000
def mixed:v8.follows .mixedOrders=v2:=Ψ
def Ao:Nat:=4
def HO:Nat:=6
def HP:Nat:=7
def HQ:Nat:=8
def HR:Nat:=9
def Ap:Nat:=10
def HS:Nat:=11
def HT:Nat:=12
def HU:Nat:=13
def HV:Nat:=14
def HW:Nat:=15
def HX:Nat:=16
def HY:Nat:=17
def HZ:Nat:=18
def Aq:Nat:=21
def H0:Nat:=22
def H2:Nat:=24
def Ar:Nat:=25
def As:Nat:=26
def wp:Nat:=27
def H3:Nat:=28
def wq:Nat:=29
def H4:Nat:=30
def H5:Nat:=31
def H6:Nat:=32
def H7:Nat:=33
def Au:Nat:=34
def Av:Nat:=35
def wr:Nat:=36
def Aw:Nat:=37
def Ax:Nat:=38
def H8:Nat:=39
def H9:Nat:=40
def Ay:Nat:=41
def Ia:Nat:=42
def Ib:Nat:=43
def UN:Nat:=44
def UO:Nat:=45
def Ic:Nat:=46
def Ie:Nat:=48
def If:Nat:=49
def Ig:Nat:=50
def Ih:Nat:=53
def Ii:Nat:=54
def Ij:Nat:=55
def Ik:Nat:=56
def Il:Nat:=58
def Im:Nat:=59
def In:Nat:=60
def Io:Nat:=61
def Az:Nat:=62
def Ip:Nat:=63
def Iq:Nat:=64
def Ir:Nat:=65
def Is:Nat:=66
def It:Nat:=67
def Iu:Nat:=68
def Iv:Nat:=69
def Iw:Nat:=70
def Ix:Nat:=71
def Iy:Nat:=72
def UP:Nat:=73
def ws:Nat:=74
def Iz:Nat:=75
def IA:Nat:=76
def IB:Nat:=77
def IC:Nat:=78
def ID:Nat:=79
def IE:Nat:=80
def IF:Nat:=81
def kq:Nat:=82
def IG:Nat:=83
def IH:Nat:=84
def II:Nat:=85
def IJ:Nat:=86
def IK:Nat:=87
def AA:Nat:=88
def UQ:Nat:=89
def IL:Nat:=90
def IM:Nat:=93
def IN:Nat:=94
def nb:Nat:=95
def IP:Nat:=96
def IQ:Nat:=97
def IR:Nat:=98
def IS:Nat:=99
def AB:Nat:=100
def IT:Nat:=101
def IU:Nat:=102
def tp:Nat:=103
def IV:Nat:=104
def IW:Nat:=105
def IX:Nat:=106
def AC:Nat:=109
def AD:Nat:=110
def re:Nat:=111
def oN:Nat:=112
def mc:Nat:=113
def AE:Nat:=114
def wu:Nat:=115
def oO:Nat:=116
def AF:Nat:=117
def wv:Nat:=118
def IY:Nat:=119
def IZ:Nat:=120
def tq:Nat:=121
def nc:Nat:=122
def AG:Nat:=123
def oP:Nat:=124
def I0:Nat:=125
def I1:Nat:=126
def I2:Nat:=127
def I3:Nat:=128
def AH:Nat:=129
def I4:Nat:=130
def I5:Nat:=131
def AI:Nat:=132
def AJ:Nat:=133
def I6:Nat:=134
def I7:Nat:=135
def I8:Nat:=136
def I9:Nat:=137
def Ja:Nat:=138
def wx:Nat:=139
def Jb:Nat:=140
def Jc:Nat:=141
def Jd:Nat:=142
def Je:Nat:=143
def Jf:Nat:=144
def Jg:Nat:=145
def Jh:Nat:=146
def Ji:Nat:=147
def Jj:Nat:=148
def oQ:Nat:=149
def oR:Nat:=150
def Jk:Nat:=151
def Jl:Nat:=152
def Jm:Nat:=153
def Jn:Nat:=154
def Jo:Nat:=155
def Jp:Nat:=156
def Jq:Nat:=157
def Jr:Nat:=158
def Js:Nat:=160
def Jt:Nat:=161
def Ju:Nat:=162
def Jv:Nat:=163
def Jw:Nat:=164
def Jx:Nat:=165
def Jy:Nat:=166
def AK:Nat:=167
def Jz:Nat:=170
def JA:Nat:=171
def AL:Nat:=172
def JB:Nat:=173
def JC:Nat:=174
def JD:Nat:=175
def JE:Nat:=176
def JF:Nat:=177
def p3:Nat:=178
def JG:Nat:=179
def JH:Nat:=180
def tr:Nat:=181
def JI:Nat:=182
def JJ:Nat:=183
def AM:Nat:=184
def AN:Nat:=185
def AO:Nat:=186
def JK:Nat:=187
def rf:Nat:=188
def JL:Nat:=189
def wy:Nat:=190
def JM:Nat:=191
def JN:Nat:=192
def AP:Nat:=193
def JO:Nat:=194
def JP:Nat:=195
def JQ:Nat:=196
def JR:Nat:=197
def JS:Nat:=198
def JT:Nat:=199
def JU:Nat:=200
def AQ:Nat:=201
def JV:Nat:=202
def JW:Nat:=203
def JX:Nat:=204
def JY:Nat:=205
def JZ:Nat:=206
def AR:Nat:=207
def J0:Nat:=208
def J1:Nat:=209
def J2:Nat:=210
def J3:Nat:=211
def J4:Nat:=212
def AS:Nat:=213
def J5:Nat:=214
def AT:Nat:=215
def J6:Nat:=216
def J7:Nat:=217
def J8:Nat:=218
def J9:Nat:=219
def AU:Nat:=220
def Ka:Nat:=221
def Kb:Nat:=222
def wz:Nat:=223
def ts:Nat:=224
def wA:Nat:=225
def Kc:Nat:=226
def wB:Nat:=227
def Kd:Nat:=228
def Ke:Nat:=229
def Kf:Nat:=230
def wC:Nat:=231
def Kg:Nat:=232
def Kh:Nat:=233
def AV:Nat:=234
def AW:Nat:=235
def AX:Nat:=236
def Ki:Nat:=237
def Kj:Nat:=238
def Kk:Nat:=239
def Kl:Nat:=240
def Km:Nat:=241
def Kn:Nat:=242
def Ko:Nat:=243
def UR:Nat:=244
def Kp:Nat:=246
def cmp_isNaN_int:Nat:=247
def AY:Nat:=248
def wD:Nat:=249
def tt:Nat:=250
def Kq:Nat:=251
def Kr:Nat:=252
def AZ:Nat:=253
def Ks:Nat:=254
def Kt:Nat:=255
def Ku:Nat:=256
def Kv:Nat:=257
def Kw:Nat:=258
def Kx:Nat:=259
def Ky:Nat:=260
def nd:Nat:=261
def oS:Nat:=262
def A0:Nat:=263
def Kz:Nat:=264
def US:Nat:=265
def KA:Nat:=266
def UT:Nat:=267
def KB:Nat:=268
def KC:Nat:=269
def p4:Nat:=270
def KD:Nat:=271
def KE:Nat:=272
def KF:Nat:=273
def KG:Nat:=283
def KH:Nat:=284
def tu:Nat:=285
def KI:Nat:=286
def KJ:Nat:=287
def KK:Nat:=288
def KL:Nat:=289
def ne:Nat:=290
def KM:Nat:=291
def KN:Nat:=292
def KO:Nat:=293
def UU:Nat:=294
def UV:Nat:=301
def KP:Nat:=302
def KQ:Nat:=303
def KR:Nat:=305
def KS:Nat:=306
def KT:Nat:=307
def UW:Nat:=308
def KU:Nat:=309
def UX:Nat:=310
def UY:Nat:=311
def UZ:Nat:=312
def U0:Nat:=313
def Va:Nat:=314
def cmp_Less_int:Nat:=315
def Vb:Nat:=316
def Vd:Nat:=317
def Ve:Nat:=327
def Vf:Nat:=328
abbrev KV:Nat:=0
abbrev av:Nat:=2
abbrev ai:Nat:=3
abbrev dK:Nat:=4
abbrev cO:Nat:=5
abbrev db:Nat:=9
abbrev cT:Nat:=22
abbrev oT:Nat:=23
abbrev eF:Nat:=25
abbrev an:Nat:=26
abbrev ca:Nat:=27
abbrev jb:Nat:=28
abbrev cW:Nat:=29
abbrev dh:Nat:=30
abbrev oU:Nat:=31
abbrev aE:Nat:=33
abbrev kU:Nat:=38
abbrev oV:Nat:=47
abbrev aw:Nat:=51
abbrev fN:Nat:=58
abbrev cc:Nat:=60
abbrev dc:Nat:=63
abbrev a6:Nat:=70
abbrev cC:Nat:=72
abbrev nS:Nat:=82
abbrev rg:Nat:=83
abbrev gi:Nat:=84
abbrev cU:Nat:=86
abbrev Vg:Nat:=87
abbrev e2:Nat:=89
abbrev A1:Nat:=92
abbrev p5:Nat:=94
abbrev bH:Nat:=96
abbrev gj:Nat:=98
abbrev rh:Nat:=103
abbrev wE:Nat:=109
abbrev wF:Nat:=112
abbrev c0:Nat:=119
abbrev dY:Nat:=121
abbrev e3:Nat:=137
abbrev jx:Nat:=138
abbrev oW:Nat:=139
abbrev tv:Nat:=140
abbrev gI:Nat:=142
abbrev gW:Nat:=153
abbrev nf:Nat:=164
abbrev tw:Nat:=166
abbrev fc:Nat:=169
abbrev iF:Nat:=170
abbrev cF:Nat:=172
abbrev kr:Nat:=177
abbrev jV:Nat:=178
abbrev cn:Nat:=180
abbrev dS:Nat:=186
abbrev cI:Nat:=188
abbrev e4:Nat:=189
abbrev cN:Nat:=191
abbrev fA:Nat:=193
abbrev dI:Nat:=197
abbrev bI:Nat:=199
abbrev eo:Nat:=201
abbrev cD:Nat:=203
abbrev ep:Nat:=207
abbrev be:Nat:=209
abbrev md:Nat:=214
abbrev gk:Nat:=216
abbrev fd:Nat:=217
abbrev iG:Nat:=221
abbrev p6:Nat:=228
abbrev Vh:Nat:=239
abbrev ri:Nat:=241
abbrev eG:Nat:=249
abbrev dd:Nat:=251
abbrev cw:Nat:=253
abbrev jc:Nat:=258
abbrev kV:Nat:=264
abbrev ey:Nat:=269
abbrev cp:Nat:=273
abbrev gJ:Nat:=275
abbrev c3:Nat:=280
abbrev jW:Nat:=293
abbrev fO:Nat:=295
abbrev p7:Nat:=296
abbrev gK:Nat:=299
abbrev c4:Nat:=302
abbrev wG:Nat:=318
abbrev io:Nat:=321
abbrev gl:Nat:=324
abbrev cJ:Nat:=326
abbrev me:Nat:=349
abbrev kW:Nat:=351
abbrev Vi:Nat:=364
abbrev p8:Nat:=371
abbrev ng:Nat:=372
abbrev nT:Nat:=394
abbrev wH:Nat:=413
abbrev rj:Nat:=436
def az{f:Q6}{fn:Func}{c:Code}{Q:x4->x6->Prop}{Z:{B S aZ:Type}->nR B S aZ->(x4->x6->B)->B}{X:Prop}(a:v8.funcs[f]?=σ fn)(h:X)(j:fn.body=σ c:=by rfl)(_:∀{B S aZ:Type}(A:nR B S aZ)(Q:x4->x6->B),wo A v6 v6 (n:=w.heap.size) fn c args w Q=Z A Q:=by intros;conv=>lhs;reduce)(_:Z (p2 v8) Q=X:=by dsimp only[p2])(e:X=eL v8 fn.ntmps (v6,w.heap.size) c (nP fn.results.toList) (l8 0 args) w (m8 v8 fn.results.toList v6 0 Q):=by kernel_rfl)(hk:(!(fn.name == "runtime.NumGoroutine")&&wf fn.ntmps c&&Nat.ble args.length fn.ntmps&& !lB c)=v2:=by kernel_rfl):ak v8 f args w Q:=by
 simp only[U9,Bool.not_eq_true']at hk;exact ak.HH mixed a j hk.1.1.1 hk.1.1.2 hk.1.2 hk.2 (e▸h)
def jy{f:Q6}{fn:Func}{c:Code}{Q:x4->x6->Prop}{Z:{B S aZ:Type}->nR B S aZ->(x4->x6->B)->B}{X:Prop}(a:v8.funcs[f]?=σ fn)(h:X)(j:fn.body=σ c:=by rfl)(_:∀{B S aZ:Type}(A:nR B S aZ)(Q:x4->x6->B),wo A v6 v2 (n:=w.heap.size) fn c args w Q=Z A Q:=by intros;conv=>lhs;reduce)(_:Z (p2 v8) Q=X:=by dsimp only[p2])(e:X=eL v8 fn.ntmps (v6,w.heap.size) c (nP fn.results.toList) (l8 0 args) w (m8 v8 fn.results.toList v2 w.heap.size Q):=by kernel_rfl)(hk:(!(fn.name == "runtime.NumGoroutine")&&wf fn.ntmps c&&Nat.ble args.length fn.ntmps)=v2:=by kernel_rfl):ak v8 f args w Q:=by
 simp only[U9,Bool.not_eq_true']at hk;exact ak.enter mixed a j hk.1.1 hk.1.2 hk.2 (e▸h)
def rk{f:Q6}{fn:Func}{c:Code}{Q:x4->x6->Prop}{Z:{B S aZ:Type}->nR B S aZ->(x4->x6->B)->B}{X:Prop}(a:v8.funcs[f]?=σ fn)(h:X)(j:fn.body=σ c:=by rfl)(_:∀{B S aZ:Type}(A:nR B S aZ)(Q:x4->x6->B),wo A v2 v6 (n:=0) fn c args w Q=Z A Q:=by intros;conv=>lhs;reduce)(_:Z (p2 v8) Q=X:=by dsimp only[p2])(e:X=eL v8 fn.ntmps (v2,0) c (nP fn.results.toList) (l8 0 args) w (m8 v8 fn.results.toList v6 0 Q):=by kernel_rfl)(hk:(!(fn.name == "runtime.NumGoroutine")&&wf fn.ntmps c&&Nat.ble args.length fn.ntmps)=v2:=by kernel_rfl):gT v8 f args w Q:=by
 simp only[U9,Bool.not_eq_true']at hk;exact gT.enter mixed a j hk.1.1 hk.1.2 hk.2 (e▸h)
def kq.enters:Enters v8 kq:=Enters.of v8 (show v8.funcs[kq]?=σ Tryz.f82 from Tryz.func82) T Ψ
def nb.enters:Enters v8 nb:=Enters.of v8 (show v8.funcs[nb]?=σ Tryz.f95 from Tryz.func95) T Ψ
def nd.enters:Enters v8 nd:=Enters.of v8 (show v8.funcs[nd]?=σ Tryz.f261 from Tryz.func261) T Ψ
def p4.enters:Enters v8 p4:=Enters.of v8 (show v8.funcs[p4]?=σ Tryz.f270 from Tryz.func270) T Ψ
def ne.enters:Enters v8 ne:=Enters.of v8 (show v8.funcs[ne]?=σ Tryz.f290 from Tryz.func290) T Ψ
end Go.Proofs.YtnhkbjhpbbobaaaGreatDoor
namespace Go.Vc
open Go Go.RowKit
def wI{b o:Nat}(h:w.cell? ⟨b,o,ν⟩=σ v):∃c e f,w.heap[b]?=σ (.cells c e f)/\c[o]?=σ v:=by
 simp only[x6.cell?]at h;split at h
 .rename_i c e f a;exact⟨c,e,f,a,by simpa using h⟩
 .cases h
def A2(a:af S w I){b o:Nat}(j:¬S b)(h:w.cell? ⟨b,o,ν⟩=σ v):I.cell? ⟨b,o,ν⟩=σ v:=by
 obtain⟨c,e,f,p,q⟩:=wI h;simp[x6.cell?,a.aX b _ p T j,q]
def jX(a:Ext w I){b o:Nat}(h:w.cell? ⟨b,o,ν⟩=σ v):I.cell? ⟨b,o,ν⟩=σ v:=
 A2 (a.aa λ_=>False) (λh=>h) h
def oX(a:Ext w I){b o:Nat}(h:w.rangeAt b o cs):I.rangeAt b o cs:=λj v e=>jX a (h j v e)
def iH(a:af S w I){b o:Nat}(e:¬S b)(h:w.rangeAt b o cs):I.rangeAt b o cs:=λj v f=>A2 a e (h j v f)
def ag(w:x6)(g:Nat)(e:o5)(cs:List x4):Prop:=w.heap[g]?=σ (.cells cs.toArray e (0,0))
def ag.W{g:Nat}(h:ag w g e cs)(a:Ext w I):ag I g e cs:=a.aX g _ h T
def ag.aa{g:Nat}(h:ag w g e cs)(a:af S w I)(f:¬S g):ag I g e cs:=a.aX g _ h T f
def ag.lt{g:Nat}(h:ag w g e cs):g<w.heap.size:=(Z0.1 h).1
def ag.cell{g:Nat}(h:ag w g e cs){o:Nat}(a:cs[o]?=σ v):w.cell? ⟨g,o,ν⟩=σ v:=by
 unfold ag at h;simp[x6.cell?,h,a]
def ag.Qz{w:World}{g:Nat}{e:TypeId}{cs:List Value}{v:Value}(h:ag w g e cs)(I:cs[0]?=σ v):w.cell? ⟨g,0,ν⟩=σ v:=h.cell I
def ag.range{g:Nat}(h:ag w g e cs):w.rangeAt g 0 cs:=λj v a=>by rw[X6];exact h.cell a
def ag.frozen{g:Nat}(h:ag w g e cs)(o:Nat)(a:Option Nat):w.frozen? ⟨g,o,a⟩=v6:=by
 unfold ag at h;simp[x6.frozen?,h]
def cg(w:x6)(k:Nat)(v:x4)(n:Nat)(cs:List x4):Prop:=
 cs.length=n*k/\∃b o base cap,v= .slice base n cap/\n<=cap/\cap<=maxLen/\(0<n->base=σ ⟨b,o,ν⟩)/\w.rangeAt b o cs
def cg.W{k:Nat}(h:cg w k v n cs)(a:Ext w I):cg I k v n cs:=by
 obtain⟨h1,b,o,base,cap,e,f,j,p,q⟩:=h;exact⟨h1,b,o,base,cap,e,f,j,p,oX a q⟩
def cg.le{k:Nat}(h:cg w k v n cs):n<=maxLen:=by
 obtain⟨_,_,_,_,_,_,a,e,_⟩:=h;exact X1 a e
def cg.nil(w:x6)(k:Nat):cg w k (.slice ν 0 0) 0 []:=⟨Ξ,0,0,ν,0,T,o4 _,W0 _,λh=>ro h (Nat.lt_irrefl _),λj v h=>by simp at h⟩
def aR(P:V5)(t:o5)(k b:Nat)(z:x4):Prop:=∃i,P.info? t=σ i/\i.size=k/\i.bytes=b/\i.zero=σ z
def aR.of{P:V5}{k b:Nat}(h:(P.info? t).map (λi=>(i.size,i.bytes,i.zero))=σ (k,b,σ z)):aR P t k b z:=by
 cases hi:P.info? t with
 |none=>simp[hi]at h
 |some i=>simp[hi]at h;exact⟨i,hi,h⟩
def aR.size{P:V5}{k b:Nat}(h:aR P t k b z):(P.info? t).map (·.size)=σ k:=by
 obtain⟨i,hi,J,_⟩:=h;simp[hi,J]
def bJ(P:V5)(t:o5)(pl:List (Nat×Nat)):Prop:=∃a,P.underlying t=σ (.struct a)/\a.toList.map (λf=>(f.offset,((P.info? f.type).map (·.size)).getD 0))=pl
def A3(P:V5)(t:o5):Option (List (Nat×Nat)):=match P.underlying t with
 |some (.struct a)=>σ (a.toList.map λf=>(f.offset,((P.info? f.type).map (·.size)).getD 0))
 |_=>ν
def bJ.of{P:V5}{pl:List (Nat×Nat)}(h:A3 P t=σ pl):bJ P t pl:=by
 unfold A3 at h;split at h
 .rename_i a hu;exact⟨a,hu,by simpa using h⟩
 .cases h
section
variable{P:V5}{w:x6}
def ab.of{s:Sem x4}(h:∀I,Ext w I->s.run P I= .ok v I):ab P s w K=K v:=by
 refine propext ⟨λ⟨a,aW,k⟩=>?_,λk=>⟨v,h,k⟩⟩;have:=aW w (Ext.refl w);rw[h w (Ext.refl w)]at this;cases this;exact k
def aG.of{α:Type}{s:Sem α}{v:α}{K:α->x6->Prop}(h:s.run P w= .ok v I)(a:cQ w I)(k:K v I):aG P s w K:=⟨v,I,h,a,k⟩
def cb{c:Bool}{A B:Prop}:Split (.bool c) A B=((c=v2->A)/\(c=v6->B)):=by
 refine propext ⟨λ⟨e,h,h1,a⟩=>?_,λ⟨h1,a⟩=>⟨c,T,h1,a⟩⟩;cases h;exact⟨h1,a⟩
def _root_.al{p:Prop}[Decidable p]{A B:Prop}:Split (.bool (decide p)) A B=((p->A)/\(¬p->B)):=by rw[cb];simp
def bO{A B:Prop}:Split (.bool v2) A B=A:=by rw[cb];simp
def a7{A B:Prop}:Split (.bool v6) A B=B:=by rw[cb];simp
def aO{b:Int}:ab P (aP .add t cx cy (.int k a) (.int k b)) w K=K (.int k (k.wrap (a+b))):=
 ab.of λI _=>by simp[aP,eqGuard,binOp,Op.intArith]
def dA{b:Int}:ab P (aP .sub t cx cy (.int k a) (.int k b)) w K=K (.int k (k.wrap (a-b))):=
 ab.of λI _=>by simp[aP,eqGuard,binOp,Op.intArith]
def fB{b:Int}:ab P (aP .mul t cx cy (.int k a) (.int k b)) w K=K (.int k (k.wrap (a*b))):=
 ab.of λI _=>by simp[aP,eqGuard,binOp,Op.intArith]
def nU{b:Int}(e:b≠0):ab P (aP .quo t cx cy (.int k a) (.int k b)) w K=K (.int k (k.wrap (a.tdiv b))):=
 ab.of λI _=>by simp[aP,eqGuard,binOp,Op.intDiv,e]
def rl{b:Int}(e:b≠0):ab P (aP .rem t cx cy (.int k a) (.int k b)) w K=K (.int k (a.tmod b)):=
 ab.of λI _=>by simp[aP,eqGuard,binOp,Op.intDiv,e]
def aT{b:Int}:ab P (aP .lss t cx cy (.int k a) (.int k b)) w K=K (.bool (decide (a<b))):=
 ab.of λI _=>by simp[aP,eqGuard,binOp,Op.intCmp]
def Υ{k:IntKind}{P:Program}{t:TypeId}{cx cy:Bool}{a b:Int}{w:World}{A B:Prop}(hA:a<b->A)(h:a<b:=by omega):ab P (aP .lss t cx cy (.int k a) (.int k b)) w λv=>Split v A B:=by
 rw[aT,al];exact⟨hA,λe=>ro h e⟩
def mf{b:Int}:ab P (aP .leq t cx cy (.int k a) (.int k b)) w K=K (.bool (decide (a<=b))):=
 ab.of λI _=>by simp[aP,eqGuard,binOp,Op.intCmp]
def bP{b:Int}:ab P (aP .gtr t cx cy (.int k a) (.int k b)) w K=K (.bool (decide (b<a))):=
 ab.of λI _=>by simp[aP,eqGuard,binOp,Op.intCmp]
def cP{b:Int}:ab P (aP .geq t cx cy (.int k a) (.int k b)) w K=K (.bool (decide (b<=a))):=
 ab.of λI _=>by simp[aP,eqGuard,binOp,Op.intCmp]
def bl{b:Int}:ab P (aP .eql t cx cy (.int k a) (.int k b)) w K=K (.bool (decide (a=b))):=
 ab.of λI _=>by
  have:(a == b)=decide (a=b):=by by_cases h:a=b<;>simp[h]
  simp[aP,eqGuard,binOp,Op.intCmp,this]
def bK{b:Int}:ab P (aP .neq t cx cy (.int k a) (.int k b)) w K=K (.bool (decide (a≠b))):=
 ab.of λI _=>by
  have:(a != b)=decide (a≠b):=by by_cases h:a=b<;>simp[h,bne]
  simp[aP,eqGuard,binOp,Op.intCmp,this]
def A4{e:j4}{b:Int}(f:0<=b):ab P (aP .shl t cx cy (.int k a) (.int e b)) w K=K (.int k (k.wrap (a*2 ^ min b.toNat k.bits))):=
 ab.of λI _=>by simp[aP,eqGuard,binOp,Op.shift,show¬b<0 by omega]
def bL{c:Bool}:ab P (Op.unary .not (.bool c)) w K=K (.bool !c):=ab.of λI _=>by simp[Op.unary]
def nh:ab P (Op.unary .neg (.int k a)) w K=K (.int k (k.wrap (0-a))):=ab.of λI _=>by simp[Op.unary,Op.intArith]
def fC{s d:o5}{e:j4}(J:P.underlying s=σ (.int e))(f:P.underlying d=σ (.int k)):
  ab P (convert s d (.int e a)) w K=K (.int k (k.wrap a)):=ab.of λI _=>by simp[convert,run_underlying J,run_underlying f,Conv.intToInt]
def A5{x y:x4}{r:Bool}(a:∀I,(eqGuard .eql t (a8 cx) (a8 cy) x y).run P I= .ok () I)(e:binOp .eql t x y=(do pure (.bool (<-Op.equal t x y))))(h:∀I,Ext w I->(Op.equal t x y).run P I= .ok r I):ab P (aP .eql t cx cy x y) w K=K (.bool r):=ab.of λI f=>by
 unfold aP;rw[e,W9,a I,Result.andThen_ok,W9,h I f];rfl
def KW{x y:x4}{r:Bool}(a:∀I,(eqGuard .neq t (a8 cx) (a8 cy) x y).run P I= .ok () I)(e:binOp .neq t x y=(do pure (.bool (!(<-Op.equal t x y)))))(h:∀I,Ext w I->(Op.equal t x y).run P I= .ok r I):ab P (aP .neq t cx cy x y) w K=K (.bool !r):=ab.of λI f=>by
 unfold aP;rw[e,W9,a I,Result.andThen_ok,W9,h I f];rfl
def A6(w:x6)(d:Nat){p:Option Addr}(h:P.underlying t=σ (.pointer e)):(Op.equalIn (d+1) t (.pointer p) (.pointer ν)).run P w= .ok p.isNone w:=by
 cases p<;>simp[Op.equalIn,run_underlying h]
def p9{base:Option Addr}(a:P.underlying t=σ (.slice e)):
  ab P (aP .eql t cx cy (.slice base n c) (.slice ν 0 0)) w K=K (.bool base.isNone):=A5 (λ_=>rfl) T λI _=>run_equal_slice_nil I t e base n c a
def di{p:Option Addr}(a:P.underlying t=σ (.pointer e)):
  ab P (aP .eql t cx cy (.pointer p) (.pointer ν)) w K=K (.bool p.isNone):=A5 (λ_=>rfl) T λI _=>A6 I 9999 a
def wJ{p:Option Addr}(a:P.underlying t=σ (.pointer e)):
  ab P (aP .neq t cx cy (.pointer p) (.pointer ν)) w K=K (.bool !p.isNone):=KW (λ_=>rfl) T λI _=>A6 I 9999 a
def jd{a:o5}{base:Option Addr}(f:P.underlying t=σ (.slice e)):
  ab P (V1 #[t] a #[.slice base n c]) w K=K (Δ n):=ab.of λI _=>by simp[V1,run_underlying f,goInt]
def ni{e:Array o5}{f:o5}{b:Int}:
  ab P (Y4.min_ e f #[.int k a,.int k b]) w K=K (.int k (min a b)):=ab.of λI _=>by
 simp only[Y4.min_,List.foldlM,Y4.min2];simp only[W9,V9,Result.andThen_ok,Int.min_def];congr 2;split<;>split<;>omega
def tx{e:Array o5}{f:o5}{b:Int}:
  ab P (Y4.max_ e f #[.int k a,.int k b]) w K=K (.int k (max a b)):=ab.of λI _=>by
 simp only[Y4.max_,List.foldlM,Y4.max2];simp only[W9,V9,Result.andThen_ok,Int.max_def];congr 2;split<;>split<;>omega
def jY{vs:Array x4}{i:Nat}(h:vs[i]?=σ v):ab P (Y8 (.tuple vs) i) w K=K v:=ab.of λI _=>by simp[Y8,h]
def mg{f:Fn}{a b:Array x4}:ab P (Instr.makeFunc f a b) w K=K (.func f a b):=ab.of λ_ _=>rfl
def kX(P:V5)(t:o5):Bool:=match P.underlying t with
 |some (.struct _)|some (.array _ _)|none=>v6
 |_=>v2
def aF{b o:Nat}(a:kX P t=v2)(h:w.cell? ⟨b,o,ν⟩=σ v):
  ab P (u6 t (.pointer (σ ⟨b,o,ν⟩))) w K=K v:=ab.of λI e=>by
 have aW:=jX e h;unfold kX at a;cases hu:P.underlying t with
 |none=>rw[hu]at a;cases a
 |some d=>
  rw[hu]at a;cases d<;>first|(cases a;done)|simp[u6,Instr.sureAddr,loadVar,isAgg,run_underlying hu,aW]
def A7{d:TypeDesc}{b o k a:Nat}(hu:P.underlying t=σ d)(e:d.isRow=v2)(hi:aR P t k a z)(f:cs.length=k)(h:w.rangeAt b o cs):ab P (u6 t (.pointer (σ ⟨b,o,ν⟩))) w K=K (.agg cs.toArray):=ab.of λI j=>
 run_loadAt_mid I b o t cs d (oX j h) hu e (by rw[hi.size,f])
def bz{pl:List (Nat×Nat)}{b o k a:Nat}(hu:bJ P t pl)(hi:aR P t k a z)(e:cs.length=k)(h:w.rangeAt b o cs):ab P (u6 t (.pointer (σ ⟨b,o,ν⟩))) w K=K (.agg cs.toArray):=by
 obtain⟨f,hu,_⟩:=hu;exact A7 hu T hi e h
def aU{pl:List (Nat×Nat)}{i b o p z:Nat}(ac:bJ P t pl)(a:pl[i]?=σ (p,z+1)):
  ab P (u7 t (.pointer (σ ⟨b,o,ν⟩)) i) w K=K (.pointer (σ ⟨b,o+p,ν⟩)):=ab.of λI _=>by
 obtain⟨r,hu,rfl⟩:=ac;rw[u4]at a;cases e:r[i]? with
 |none=>rw[Q0,e]at a;cases a
 |some f=>
  rw[Q0,e]at a;simp only[Y3,X7,S7]at a;obtain⟨rfl,q⟩:=a;cases h:P.info? f.type with
  |none=>simp[h]at q
  |some j=>
   have J:j.size=z+1:=by simpa[h]using q
   simp[u7,run_underlying hu,e,Instr.sureAddr,fieldPlace,sizeOf,typeInfo,h,J,T9]
def A8{i:Int}{b o z f:Nat}{h:x4}{base:Option Addr}(hu:P.underlying t=σ (.slice e))(p:aR P e z f h)(q:0<=i)(hi:i<n)(a:0<n->base=σ ⟨b,o,ν⟩):
  ab P (b8 t (.slice base n c) (.int k i)) w K=K (.pointer (σ ⟨b,o+i.toNat*z,ν⟩)):=ab.of λI _=>by
 have a:=a Ω;subst a;obtain⟨j,r,J,_⟩:=p;simp[b8,asIntOf,run_underlying hu,q,hi,sizeOf,typeInfo,r,J,T9]
def eT{i:Nat}{b o z a:Nat}{f:x4}{base:Option Addr}(hu:P.underlying t=σ (.slice e))(h:aR P e z a f)(hi:i<n)(j:0<n->base=σ ⟨b,o,ν⟩):
  ab P (b8 t (.slice base n c) (.int k (i:Int))) w K=K (.pointer (σ ⟨b,o+i*z,ν⟩)):=by
 rw[A8 hu h Ω Ω j];rfl
def KX{i:Int}{b o z a:Nat}{f:x4}(hu:P.underlying t=σ (.array n e))(h:aR P e z a f)(p:0<=i)(hi:i<n):
  ab P (b8 t (.pointer (σ ⟨b,o,ν⟩)) (.int k i)) w K=K (.pointer (σ ⟨b,o+i.toNat*z,ν⟩)):=ab.of λI _=>by
 obtain⟨j,q,J,_⟩:=h;simp[b8,asIntOf,run_underlying hu,Instr.sureAddr,p,hi,sizeOf,typeInfo,q,J,T9]
def wK{i:Nat}{b o z a:Nat}{f:x4}(hu:P.underlying t=σ (.array n e))(h:aR P e z a f)(hi:i<n):
  ab P (b8 t (.pointer (σ ⟨b,o,ν⟩)) (.int k (i:Int))) w K=K (.pointer (σ ⟨b,o+i*z,ν⟩)):=by
 rw[KX hu h Ω Ω];rfl
def nj:Option x4->Nat->Prop
 |none,l=>l=0
 |some v,l=>∃k,v= .int k l
def nk:Option x4->Nat->Nat->Prop
 |none,n,h=>h=n
 |some v,_,h=>∃k,v= .int k h
def maxOf:Option x4->Option x4->Nat->Nat->Prop
 |none,_,c,m=>m=c
 |some v,σ _,_,m=>∃k,v= .int k m
 |some _,ν,_,_=>False
def rm{l:Nat}:nj (σ (.int k (l:Int))) l:=⟨_,T⟩
def oY(l:Nat)(x:Int)(h:x=(l:Int)):nj (σ (.int k x)) l:=⟨k,by rw[h]⟩
def oZ(l:Nat)(x:Int)(h:x=(l:Int)):nk (σ (.int k x)) n l:=⟨k,by rw[h]⟩
def jZ:nj ν 0:=rfl
def o0:nk (σ (.int k (h:Int))) n h:=⟨_,T⟩
def kY:nk ν n n:=rfl
def fo{h:Option x4}:maxOf ν h c c:=by cases h<;>rfl
def tz(w:x6){sl:Bool}{l m:Nat}{low high mx:Option x4}(h1:nj low l)(e:nk high n h)(a:maxOf mx high c m)(f:l<=h)(au:h<=m)(hm:m<=c):
  (Instr.sliceBounds sl n c low high mx).run P w= .ok (l,h,m) w:=by
 cases low<;>cases high<;>cases mx<;>simp only[nj,nk,maxOf]at h1 e a<;>(try exact a.elim)<;>(try obtain⟨j,rfl⟩:=h1)<;>(try obtain⟨p,rfl⟩:=e)<;>(try obtain⟨q,rfl⟩:=a)<;>(try subst h1)<;>(try subst e)<;>(try subst a) <;>
  simp[Instr.sliceBounds,Instr.sliceBound,asIntOf,f,au,hm]
def ip{z a l m:Nat}{f:x4}{base:Option Addr}{low high mx:Option x4}(hu:P.underlying t=σ (.slice e))(p:aR P e z a f)(h1:nj low l)(q:nk high n h)(r:maxOf mx high c m)(s:l<=h)(au:h<=m)(hm:m<=c):
  ab P (U4 t (.slice base n c) low high mx) w K=K (.slice (if m=l then base else base.map (·.add (l*z))) (h-l) (m-l)):=ab.of λI _=>by
 obtain⟨j,x,J,_⟩:=p;simp[U4,Instr.slice,run_underlying hu,tz I h1 q r s au hm,sizeOf,typeInfo,x,J]
def tA{z a l m b o:Nat}{f:x4}{low high mx:Option x4}(hu:P.underlying t=σ (.array n e))(p:aR P e z a f)(h1:nj low l)(q:nk high n h)(r:maxOf mx high n m)(s:l<=h)(au:h<=m)(hm:m<=n):
  ab P (U4 t (.pointer (σ ⟨b,o,ν⟩)) low high mx) w K=K (.slice (σ (if m=l then⟨b,o,ν⟩else⟨b,o+l*z,ν⟩)) (h-l) (m-l)):=ab.of λI _=>by
 obtain⟨j,x,J,_⟩:=p;simp[U4,Instr.sureAddr,run_underlying hu,tz I h1 q r s au hm,sizeOf,typeInfo,x,J,T9]
def dk{parts:Array (Nat×x4)}{cs:Array x4}(h:P.built t parts.toList=σ cs):ab P (Instr.build t parts) w K=K (.agg cs):=ab.of λI _=>
 run_build I t parts cs h
end
def cg.part{k l m:Nat}{base:Option Addr}(J:cg w k (.slice base n c) n cs)(q:l<=h)(au:h<=n)(hm:h<=m)(r:m<=c):
  cg w k (.slice (if m=l then base else base.map (·.add (l*k))) (h-l) (m-l)) (h-l) ((cs.drop (l*k)).take ((h-l)*k)):=by
 obtain⟨h1,b,o,s,cap,he,x,y,e,f⟩:=J;cases he;have z:h*k<=n*k:=X4 _ au;have A:l*k+(h-l)*k=h*k:=by rw[<-U7];congr 1;omega
 refine⟨by simp[h1];omega,b,o+l*k,_,m-l,T,Ω,Ω,λB=>?_,λj v a=>?_⟩
 .rw[e Ω,rc Ω];simp[T9]
 .have p:=(x5.1 a).1;simp at p;rw[Y6 Ω,R3]at a;rw[Q3];exact f _ _ a
section
variable{P:V5}{w:x6}
structure ks(g:Nat)(w I:x6):Prop where
 os:I.os=w.os
 tape:kP w I
 output:I.output=w.output
 size:I.heap.size=w.heap.size
 aX:∀r,r≠g->I.heap[r]?=w.heap[r]?
def ks.refl(g:Nat)(w:x6):ks g w w:=⟨T,.ly,T,T,λ_ _=>rfl⟩
def ks.F{g:Nat}{a b c:x6}(h:ks g a b)(k:ks g b c):ks g a c:=
 ⟨k.os.F h.os,k.tape.F h.tape,k.output.F h.output,k.size.F h.size,λr e=>(k.aX r e).F (h.aX r e)⟩
def ks.aa{g:Nat}{w:x6}(h:ks g w I):af (λr=>r=g) w I:=⟨Nat.le_of_eq h.size.symm,λr o a _ e=>by rw[h.aX r e];exact a⟩
def ks.cA{g:Nat}{w:x6}(h:ks g w I)(f:ag w g e cs):cQ w I:=
 ⟨h.os,h.tape,h.output,Nat.le_of_eq h.size.symm,λr o a J=>by
  by_cases j:r=g
  .subst j;unfold ag at f;rw[f]at a;cases a;simp[fK]at J
  .rw[h.aX r j];exact a⟩
def Ba{g:Nat}(h:ag w g e cs)(o:Nat)(v:x4):ag (w.setCell ⟨g,o,ν⟩ v) g e (cs.set o v)/\ks g w (w.setCell ⟨g,o,ν⟩ v):=by
 unfold ag at h;refine⟨?_,T,.ly,T,by simp[x6.setCell],λr a=>?_⟩
 .simp[ag,x6.setCell,Array.getElem?_modify,h]
 .simp[x6.setCell,Array.getElem?_modify,R7 a]
def over(cs:List x4):Nat->List x4->List x4
 |_,[]=>cs
 |o,v::r=>over (cs.set o v) (o+1) r
theorem nl:∀(vs cs:List x4)(o:Nat),(over cs o vs).length=cs.length
 |[],_,_=>rfl
 |v::r,cs,o=>by simp[over,nl r]
theorem o1:∀(vs cs:List x4)(o:Nat),o+vs.length<=cs.length->∀j,(over cs o vs)[j]?=if o<=j/\j<o+vs.length then vs[j-o]? else cs[j]?
 |[],cs,o,_,j=>by simp[over];intro h1 a;omega
 |v::r,cs,o,h,j=>by
  simp only[Y1]at h;rw[over,o1 r (cs.set o v) (o+1) Θ j];simp only[Y1];by_cases h1:o+1<=j/\j<o+1+r.length
  .rw[ms h1,ms Ω];rw[show j-o=(j-(o+1))+1 by omega,List.getElem?_cons_succ]
  .rw[rc h1];by_cases a:j=o
   .subst a;rw[ms Ω,l9 Ω];simp
   .rw[rc Ω,Z6 (R7 a)]
def nV{o:Nat}(h:o+vs.length<=cs.length):over cs o vs=cs.take o++vs++cs.drop (o+vs.length):=by
 apply X0;intro j;rw[o1 vs cs o h];by_cases h1:j<o
 .rw[rc Ω,Y2 Θ,Y2 Θ,Y6 h1]
 .by_cases a:j<o+vs.length
  .rw[ms Ω,Y2 Θ,Z7 Θ];congr 1;simp;omega
  .rw[rc Ω,Z7 Θ,R3];congr 1;simp;omega
theorem o2{g:Nat}{e:o5}:∀(vs:List x4)(cs:List x4)(o:Nat)(w:x6),ag w g e cs->ag (w.setCells g o vs) g e (over cs o vs)/\ks g w (w.setCells g o vs)
 |[],cs,o,w,h=>⟨h,ks.refl _ _⟩
 |v::r,cs,o,w,h=>by
  obtain⟨h1,a⟩:=Ba h o v;obtain⟨f,j⟩:=o2 r (cs.set o v) (o+1) _ h1;exact⟨f,a.F j⟩
def tB(w:x6)(c:List x4)(e:o5):ag (w.alloc (.cells c.toArray e)) w.heap.size e c/\Ext w (w.alloc (.cells c.toArray e))/\cQ w (w.alloc (.cells c.toArray e)):=
 ⟨heap_alloc_new w _,qY w _,qZ w _⟩
def bE{k a:Nat}{K:x4->x6->Prop}(hi:aR P t k a z)(h:∀g I,g=w.heap.size->Ext w I->ag I g t z.cells.toList->K (Γ g) I):aG P (Q8 t v2 (.tuple #[])) w K:=by
 obtain⟨i,hi,_,_,e⟩:=hi;obtain⟨h1,f,j⟩:=tB w z.cells.toList t;refine .of ?_ j (h _ _ T f h1);simp[Q8,zeroValue,typeInfo,hi,e,newVar,newRow]
def bn{K:x4->x6->Prop}(h:∀g I,g=w.heap.size->Ext w I->ag I g t v.cells.toList->K (Γ g) I):aG P (Instr.box t v) w K:=by
 obtain⟨h1,a,e⟩:=tB w v.cells.toList t;refine .of ?_ e (h _ _ T a h1);simp[Instr.box,newVar,newRow]
def dZ(z:Array x4)(n:Nat):List x4:=((Array.range n).map (z[·% z.size]!)).toList
def qa(z:Array x4)(n:Nat):(dZ z n).length=n:=by simp[dZ]
def kZ{k q:Nat}{parts:Array (Nat×x4)}{cs:Array x4}{K:x4->x6->Prop}(p:P.underlying t=σ (.slice e))(hi:aR P e k q z)(A:n*k<=2 ^ 24)(a:Instr.fill (λj=>σ (j*k,k)) ((Array.range (n*k)).map ((if n*k=0 then#[]else z.cells)[·% (if n*k=0 then#[]else z.cells).size]!)) parts.toList=σ cs)(h:∀g I,g=w.heap.size->Ext w I->ag I g e cs.toList->K (.slice (σ ⟨g,0,ν⟩) n n) I):aG P (X2 t n parts) w K:=by
 obtain⟨i,hi,rfl,_,r⟩:=hi;obtain⟨h1,s,x⟩:=tB w cs.toList e;refine .of ?_ x (h _ _ T s h1);have y:¬(16777216<n*i.size):=Ω
 by_cases f:n*i.size=0
 .simp only[f,if_true]at a;simp[X2,run_underlying p,sizeOf,typeInfo,hi,f,newRow];simp at a;simp[a]
 .simp only[f,if_false]at a;simp[X2,run_underlying p,sizeOf,typeInfo,hi,y,f,newRow,zeroValue,r,a]
def bu{g o:Nat}{K:Unit->x6->Prop}(hi:aR P t 1 j z)(h1:v.cells= #[v])(p:v.oneCell'=v2)(a:ag w g e cs)(q:o<cs.length)(h:∀I,af (λr=>r=g) w I->I.heap.size=w.heap.size->ag I g e (cs.set o v)->K () I):aG P (j0 t (.pointer (σ ⟨g,o,ν⟩)) v) w K:=by
 obtain⟨i,hi,J,_⟩:=hi;obtain⟨s,f⟩:=Ba a o v;refine .of ?_ (f.cA a) (h _ f.aa f.size s);have x:=a.cell (x8 q);have y:(⟨g,o,ν⟩:Addr).add 0=⟨g,o,ν⟩:=rfl;simp[j0,Instr.sureAddr,storeVar,sizeOf,typeInfo,hi,J,h1,storeCells,y,run_store P w _ v _ p,x,a.frozen]
def Bb{k p g o:Nat}{K:Unit->x6->Prop}(hi:aR P t k p z)(q:vs.length=k)(s:∀v∈vs,v.oneCell'=v2)(a:ag w g e cs)(A:o+vs.length<=cs.length)(h:∀I,af (λr=>r=g) w I->I.heap.size=w.heap.size->ag I g e (over cs o vs)->K () I):aG P (j0 t (.pointer (σ ⟨g,o,ν⟩)) (.agg vs.toArray)) w K:=by
 obtain⟨x,f⟩:=o2 vs cs o w a;refine .of ?_ (f.cA a) (h _ f.aa f.size x);exact run_storeAt_mid w g o t vs.toArray (λj y=>⟨by rw[a.cell (x8 (show o+j<cs.length by simp at y;omega))];rfl,a.frozen _ _⟩) (by rw[hi.size];simp[q]) (by simpa using s)
def b2(w:x6)(g:Nat)(e:o5)(k:Nat)(v:x4)(n:Nat)(xs:List x4):Prop:=
 xs.length=n*k/\((v= .slice ν 0 0/\n=0)\/∃cap cs,v= .slice (σ ⟨g,0,ν⟩) n cap/\ag w g e cs/\n<=cap/\cap<=maxLen/\cs.length=cap*k/\cs.take (n*k)=xs)
def b2.nil(w:x6)(g:Nat)(e:o5)(k:Nat):b2 w g e k (.slice ν 0 0) 0 []:=⟨Ξ,.inl ⟨T,T⟩⟩
def b2.full{g:Nat}{k:Nat}(h:ag w g e cs)(a:cs.length=n*k)(f:n<=maxLen):b2 w g e k (.slice (σ ⟨g,0,ν⟩) n n) n cs:=
 ⟨a,.inr ⟨n,cs,T,h,o4 _,f,a,by rw[<-a,o9]⟩⟩
def b2.aa{g:Nat}{k:Nat}(h:b2 w g e k v n xs)(f:af S w I)(j:g<w.heap.size->¬S g):b2 I g e k v n xs:=
 ⟨h.1,h.2.imp id λ⟨cap,cs,h1,a,p⟩=>⟨cap,cs,h1,a.aa f (j a.lt),p⟩⟩
def b2.W{g:Nat}{k:Nat}(h:b2 w g e k v n xs)(a:Ext w I):b2 I g e k v n xs:=h.aa (a.aa λ_=>False) (λ_ h=>h)
def b2.sl{g:Nat}{k:Nat}(h:b2 w g e k v n xs):cg w k v n xs:=by
 obtain⟨h1,⟨rfl,rfl⟩|⟨cap,cs,rfl,f,p,q,s,r⟩⟩:=h
 .have:xs=[]:=Z2 (by simpa using h1);subst this;exact cg.nil w k
 .refine⟨h1,g,0,_,cap,T,p,q,λ_=>rfl,λj v a=>?_⟩;rw[X6];have x:=(x5.1 a).1;rw[<-r,Y6 Ω]at a;exact f.cell a
def cg.src{k:Nat}{x:x4}{m:Nat}{a:List x4}{f h:o5}(J:cg w k x m a)(hk:P.underlying f=σ (.slice h))(h1:∀u∈a,u.oneCell'=v2)(p:0<m):Src P k f x m a w:=by
 obtain⟨q,b,o,base,cap,rfl,_,_,e,r⟩:=J;have e:=e p;subst e;exact Src.ofSlice w hk ⟨b,o,ν⟩ m cap a q (λj u hu=>by rw[T9];exact r j u hu) h1
def cg.KY{k:Nat}{x:x4}{f:List x4}{h:o5}(J:cg w k x 0 f)(hk:P.underlying e=σ (.slice h)):Src P k e x 0 [] w:=by
 obtain⟨j,b,o,base,cap,rfl,_,_,p,q⟩:=J;cases base with
 |none=>exact Src.ofNil w hk cap
 |some a=>exact Src.ofSlice w hk a 0 cap [] Ξ Ξ Ξ
def Bc{p s N X:o5}{k O g m:Nat}{x:x4}{f:List x4}{K:x4->x6->Prop}(B:P.underlying t=σ (.slice e))(C:P.underlying p=σ (.slice X))(hi:aR P e k O z)(Y:z.cells.size=k)(Q:b2 w g N k v n xs)(J:cg w k x m f)(h1:∀u∈f,u.oneCell'=v2)(Z:(n+m)*O<=140737488355328)(R:n+m<=maxLen)(h:∀E F I G,(F=g/\G=N/\(v=E\/g<w.heap.size/\v≠ .slice ν 0 0)\/F=w.heap.size/\G=e)->b2 I F G k E (n+m) (xs++f)->af (λr=>r=g/\v≠ .slice ν 0 0) w I->K E I):
  aG P (Z9 #[t,p] s #[v,x]) w K:=by
 obtain⟨i,hi,rfl,rfl,ab⟩:=hi;have ac:=Q.sl;obtain⟨a,H⟩:=Q;have q:=J.1;have grow:∀(base:Option Addr)(cap:Nat),v= .slice base n cap->cap<n+m->0<m->(Y4.firstCells i.size n (.slice base n cap)).run P w.drew= .ok xs.toArray w.drew->aG P (Z9 #[t,p] s #[v,x]) w K:=by
  rintro base cap rfl S hm ad;have y:=run_append_grow_src w t p s e i z B hi ab base n cap xs ad x m f (J.src C h1 hm) S (by simp only[maxLen]at R;omega) (growslice_fits S Z);have ae:n+m<=grownCap w (n+m) cap e:=grownCap_ge w _ _ _;have L:=grownCap_le_maxLen w (n+m) cap e R;have ag:Ext w (w.drew.alloc (.cells ((xs++f).toArray++Y4.zeroCells z.cells (grownCap w (n+m) cap e-(n+m))) e)):=(sR w _).F (qY _ _);refine .of y ((qX w _ (Nat.le_succ _)).F (qZ _ _)) (h _ w.heap.size _ _ (.inr ⟨rfl,rfl⟩) ⟨by simp[a,q,U7],.inr ⟨_,((xs++f).toArray++Y4.zeroCells z.cells (grownCap w (n+m) cap e-(n+m))).toList,rfl,?_,ae,L,?_,?_⟩⟩ (ag.aa _))
  .show _=_;rw[Array.toArray_toList];exact heap_alloc_new w.drew _
  .simp[a,q,size_zeroCells,Y,<-U7];congr 1;omega
  .rw[Array.toList_append,List.toList_toArray,U7,<-a,<-q,<-n9];exact List.take_left
 rcases Q9 m with rfl|hm
 .have ah:=Z2 (by simpa using q);subst ah;have ai:=J.KY C;have T:∀base cap,v= .slice base n cap->n<=cap->aG P (Z9 #[t,p] s #[v,x]) w K:=by
   rintro base cap rfl L;refine .of (run_append_nothing w t p s e i B hi base n cap L x ai) (cQ.refl _) (h _ g _ _ (.inl ⟨rfl,rfl,.inl rfl⟩) ?_ (af.refl _ _));rw[Nat.add_zero,U2];exact⟨a,H⟩
  obtain⟨rfl,rfl⟩|⟨cap,cs,rfl,_,U,_⟩:=H
  .exact T _ _ rfl (o4 _)
  .exact T _ _ rfl U
 .obtain⟨rfl,rfl⟩|⟨cap,cs,rfl,A,U,aj,V,ak⟩:=H
  .have al:=Z2 (by simpa using a);subst al;exact grow ν 0 rfl Ω hm (run_firstCells_none w.drew i.size 0 0 0)
  .by_cases M:n+m<=cap
   .have am:n*i.size+f.length<=cs.length:=by rw[q,V,<-U7];exact X4 _ M
    have y:=run_append_room_src w t p s e i B hi g 0 n cap x m f (J.src C h1 hm) M
     (λj au=>by rw[A.cell (x8 (show 0+n*i.size+j<cs.length by omega))];rfl) (λj _=>A.frozen _ _)
    obtain⟨an,W⟩:=o2 f cs (n*i.size) w A;rw[X6]at y;refine .of y (W.cA A) (h _ g _ _ (.inl ⟨rfl,rfl,.inr ⟨A.lt,Ξ⟩⟩) ⟨by simp[a,q,U7],.inr ⟨cap,_,rfl,an,M,aj,by rw[nl,V],?_⟩⟩ (W.aa.Y λr _ h=>⟨h,Ξ⟩));rw[nV am,ak,U7,<-a,<-q,<-n9];exact List.take_left
   .refine grow _ cap rfl Ω hm (run_firstCells_some w.drew i.size n _ n cap xs a λj u hu=>?_);rw[T9];obtain⟨_,b,o,base,av,he,_,_,ao,y⟩:=ac;cases he;have ap:0<n:=by
     rcases Q9 n with rfl|aq
     .simp at a;subst a;simp at hu
     .exact aq
    have:=ao ap;cases this;simpa using y j u hu
def o3{p y A:o5}{k q g m:Nat}{x:x4}{j:List x4}{K:x4->x6->Prop}(B:P.underlying t=σ (.slice e))(C:P.underlying p=σ (.slice A))(hi:aR P e k q z)(E:z.cells.size=k)(F:b2 w g e k v n xs)(J:cg w k x m j)(h1:∀u∈j,u.oneCell'=v2)(G:(n+m)*q<=140737488355328)(H:n+m<=maxLen)(h:∀f a I,(a=g\/w.heap.size<=a)->b2 I a e k f (n+m) (xs++j)->af (λr=>r=g) w I->K f I):
  aG P (Z9 #[t,p] y #[v,x]) w K:=
 Bc B C hi E F J h1 G H λf a I M s hm L=>by
  refine h f a I (s.imp And.left λh=>Nat.le_of_eq h.1.symm) ?_ (L.Y λr _ h=>h.1);obtain⟨_,rfl,_⟩|⟨_,rfl⟩:=s<;>exact hm
def Bd{f q s:o5}{L g o je y:Nat}{x:x4}{base:Option Addr}{C:o5}{K:x4->x6->Prop}(E:P.underlying f=σ (.slice e))(hi:aR P e 1 L z)(a:ag w g C cs)(M:0<je->base=σ ⟨g,o,ν⟩)(W:o+je<=cs.length)(J:cg w 1 x n xs)(h1:∀u∈xs,u.oneCell'=v2)(h:∀I,af (λr=>r=g) w I->I.heap.size=w.heap.size->ag I g C (over cs o (xs.take je))->K (Δ (min n je:Nat)) I):
  aG P (Y4.copy_ #[f,q] s #[.slice base je y,x]) w K:=by
 obtain⟨A,b,o',N,cap,rfl,_,_,O,Q⟩:=J;simp only[T0]at A;have F:(P.info? e).map (·.size)=σ 1:=hi.size;by_cases p:Nat.min n je=0
 .have he:=Z2 (by rw[o8,A];rw[Nat.min_comm];exact p);rw[he]at h;refine .of (run_copy_none w f q s e base N je y n cap E F p) (cQ.refl _) ?_;have G:min n je=0:=p;rw[G]at h;exact h w (af.refl _ _) rfl a
 .have G:min n je≠0:=p;have R:=O Ω;have S:=M Ω;subst R;subst S;have H:(xs.take je).length=min n je:=by rw[o8,A,Nat.min_comm]
  obtain⟨T,B⟩:=o2 (xs.take je) cs o w a;have U:=run_copy_cells w f q s e g o je y ⟨b,o',ν⟩ n cap (xs.take je) E F H
   (λj u hu=>by
    rw[T9];have V:=(x5.1 hu).1;rw[Y6 Ω]at hu;exact Q j u hu)
   (λj V=>by rw[a.cell (x8 (show o+j<cs.length by omega))];rfl) (λj _=>a.frozen _ _) (λu hu=>h1 u (T1 hu))
  refine .of U (B.cA a) ?_;rw[H];exact h _ B.aa B.size T
def ak.Y{f:Q6}{K e:x4->x6->Prop}(h:ak P f args w K)(j:∀v I,cQ w I->K v I->e v I):ak P f args w e:=by
 cases h with
 |code h1 a=>exact .code h1 (a.Y λ_ I ⟨v,h1,p,a⟩=>⟨v,h1,p,j v I p a⟩)
 |W v I h1 a q=>exact .W v I h1 a (j v I a q)
def gT.Y{f:Q6}{K e:x4->x6->Prop}(h:gT P f args w K)(j:∀v I,K v I->e v I):gT P f args w e:=by
 cases h with
 |code h1 a=>exact .code h1 (a.Y λ_ I ⟨v,h1,a⟩=>⟨v,h1,j v I a⟩)
 |W v I h1 p=>exact .W v I h1 (j v I p)
end
end Go.Vc
namespace Go.Proofs.YtnhkbjhpbbobaaaGreatDoor
open Go Go.Vc Go.RowKit Go.Proofs Go.Proofs.Tryz
set_option maxRecDepth 100000
def av.u:v8.underlying av=σ (.int .i64):=Ψ
def av.i:aR v8 av 1 8 (Δ 0):=aR.of Ψ
def ai.u:v8.underlying ai=σ (.int .i64):=Ψ
def ai.i:aR v8 ai 1 8 (Δ 0):=aR.of Ψ
def dK.i:aR v8 dK 1 1 (.bool v6):=aR.of Ψ
def cO.u:v8.underlying cO=σ (.int .u8):=Ψ
def cO.i:aR v8 cO 1 1 (.int .u8 0):=aR.of Ψ
def db.u:v8.underlying db=σ .string:=Ψ
def db.i:aR v8 db 1 16 (.string ⟨#[]⟩):=aR.of Ψ
def cT.u:v8.underlying cT=σ (.slice cO):=Ψ
def oT.u:v8.underlying oT=σ (.slice dc):=Ψ
def eF.u:v8.underlying eF=σ (.pointer cU):=Ψ
def an.u:v8.underlying an=σ (.slice ai):=Ψ
def an.i:aR v8 an 1 24 (.slice ν 0 0):=aR.of Ψ
def ca.u:v8.underlying ca=σ (.slice an):=Ψ
def ca.i:aR v8 ca 1 24 (.slice ν 0 0):=aR.of Ψ
def jb.u:v8.underlying jb=σ (.slice dK):=Ψ
def jb.i:aR v8 jb 1 24 (.slice ν 0 0):=aR.of Ψ
def cW.u:v8.underlying cW=σ (.slice aw):=Ψ
def cW.i:aR v8 cW 1 24 (.slice ν 0 0):=aR.of Ψ
def dh.u:v8.underlying dh=σ (.slice cC):=Ψ
def dh.i:aR v8 dh 1 24 (.slice ν 0 0):=aR.of Ψ
def oU.u:v8.underlying oU=σ (.slice rj):=Ψ
def oU.i:aR v8 oU 1 24 (.slice ν 0 0):=aR.of Ψ
def aE.p:bJ v8 aE [(0,1),(1,1),(2,1),(3,1),(4,1),(5,1),(6,1),(7,1)]:=bJ.of Ψ
def aE.i:aR v8 aE 8 160 (.agg #[(Δ 0),(.slice ν 0 0),(Δ 0),(.slice ν 0 0),(.slice ν 0 0),(.slice ν 0 0),(.slice ν 0 0),(.slice ν 0 0)]):=aR.of Ψ
def kU.i:aR v8 kU 1 8 (Δ 0):=aR.of Ψ
def oV.u:v8.underlying oV=σ (.slice e2):=Ψ
def aw.u:v8.underlying aw=σ (.slice av):=Ψ
def aw.i:aR v8 aw 1 24 (.slice ν 0 0):=aR.of Ψ
def fN.u:v8.underlying fN=σ (.int .u64):=Ψ
def fN.i:aR v8 fN 1 8 (.int .u64 0):=aR.of Ψ
def cc.p:bJ v8 cc [(0,1),(1,1)]:=bJ.of Ψ
def cc.i:aR v8 cc 2 16 (.agg #[(.int .u64 0),(Δ 0)]):=aR.of Ψ
def dc.p:bJ v8 dc [(0,1),(1,1),(2,1),(3,1),(4,1)]:=bJ.of Ψ
def dc.i:aR v8 dc 5 40 (.agg #[(.int .u8 0),(Δ 0),(Δ 0),(Δ 0),(Δ 0)]):=aR.of Ψ
def a6.p:bJ v8 a6 [(0,1),(1,1),(2,1)]:=bJ.of Ψ
def a6.i:aR v8 a6 3 72 (.agg #[(.slice ν 0 0),(.slice ν 0 0),(.slice ν 0 0)]):=aR.of Ψ
def cC.p:bJ v8 cC [(0,3),(3,1)]:=bJ.of Ψ
def cC.i:aR v8 cC 4 80 (.agg #[(.slice ν 0 0),(.slice ν 0 0),(.slice ν 0 0),(.bool v6)]):=aR.of Ψ
def nS.u:v8.underlying nS=σ (.pointer gk):=Ψ
def rg.u:v8.underlying rg=σ (.pointer gI):=Ψ
def gi.u:v8.underlying gi=σ (.slice gj):=Ψ
def gi.i:aR v8 gi 1 24 (.slice ν 0 0):=aR.of Ψ
def cU.p:bJ v8 cU [(0,1),(1,1),(2,1),(3,1),(4,1)]:=bJ.of Ψ
def e2.p:bJ v8 e2 [(0,1),(1,1),(2,1)]:=bJ.of Ψ
def e2.i:aR v8 e2 3 56 (.agg #[(Δ 0),(.slice ν 0 0),(.slice ν 0 0)]):=aR.of Ψ
def p5.i:aR v8 p5 1 8 .nilFunc:=aR.of Ψ
def bH.p:bJ v8 bH [(0,1)]:=bJ.of Ψ
def bH.i:aR v8 bH 1 24 (.agg #[(.slice ν 0 0)]):=aR.of Ψ
def gj.p:bJ v8 gj [(0,1),(1,1),(2,1)]:=bJ.of Ψ
def gj.i:aR v8 gj 3 56 (.agg #[(.slice ν 0 0),(.slice ν 0 0),(Δ 0)]):=aR.of Ψ
def rh.u:v8.underlying rh=σ (.pointer dd):=Ψ
def wE.u:v8.underlying wE=σ (.pointer cI):=Ψ
def wF.u:v8.underlying wF=σ (.pointer eo):=Ψ
def c0.u:v8.underlying c0=σ (.slice a6):=Ψ
def c0.i:aR v8 c0 1 24 (.slice ν 0 0):=aR.of Ψ
def dY.p:bJ v8 dY [(0,1),(1,1),(2,1),(3,1),(4,1)]:=bJ.of Ψ
def dY.i:aR v8 dY 5 88 (.agg #[(Δ 0),(.slice ν 0 0),(Δ 0),(.slice ν 0 0),(.slice ν 0 0)]):=aR.of Ψ
def e3.p:bJ v8 e3 [(0,1),(1,1)]:=bJ.of Ψ
def e3.i:aR v8 e3 2 16 (.agg #[(Δ 0),(.int .u64 0)]):=aR.of Ψ
def jx.u:v8.underlying jx=σ (.slice e3):=Ψ
def jx.i:aR v8 jx 1 24 (.slice ν 0 0):=aR.of Ψ
def oW.u:v8.underlying oW=σ (.slice nf):=Ψ
def oW.i:aR v8 oW 1 24 (.slice ν 0 0):=aR.of Ψ
def tv.u:v8.underlying tv=σ (.slice gW):=Ψ
def gI.p:bJ v8 gI [(0,1),(1,1),(2,1),(3,1)]:=bJ.of Ψ
def gW.p:bJ v8 gW [(0,1),(1,1),(2,1)]:=bJ.of Ψ
def gW.i:aR v8 gW 3 24 (.agg #[(Δ 0),(Δ 0),(.int .u64 0)]):=aR.of Ψ
def nf.i:aR v8 nf 3 24 (.agg #[(Δ 0),(Δ 0),(.int .u64 0)]):=aR.of Ψ
def tw.u:v8.underlying tw=σ (.pointer jc):=Ψ
def fc.p:bJ v8 fc [(0,1),(1,1),(2,1),(3,1)]:=bJ.of Ψ
def iF.u:v8.underlying iF=σ (.slice kV):=Ψ
def iF.i:aR v8 iF 1 24 (.slice ν 0 0):=aR.of Ψ
def cF.p:bJ v8 cF [(0,1),(1,4),(5,1),(6,1)]:=bJ.of Ψ
def kr.u:v8.underlying kr=σ (.slice cn):=Ψ
def jV.u:v8.underlying jV=σ (.slice ey):=Ψ
def jV.i:aR v8 jV 1 24 (.slice ν 0 0):=aR.of Ψ
def cn.p:bJ v8 cn [(0,1),(1,1),(2,1),(3,1)]:=bJ.of Ψ
def cn.i:aR v8 cn 4 80 (.agg #[(.slice ν 0 0),(.slice ν 0 0),(Δ 0),(.slice ν 0 0)]):=aR.of Ψ
def dS.u:v8.underlying dS=σ (.slice cN):=Ψ
def dS.i:aR v8 dS 1 24 (.slice ν 0 0):=aR.of Ψ
def cI.p:bJ v8 cI [(0,1),(1,1),(2,1),(3,1)]:=bJ.of Ψ
def e4.u:v8.underlying e4=σ (.pointer fO):=Ψ
def e4.i:aR v8 e4 1 8 (.pointer ν):=aR.of Ψ
def cN.p:bJ v8 cN [(0,1),(1,1)]:=bJ.of Ψ
def cN.i:aR v8 cN 2 32 (.agg #[(.slice ν 0 0),(.pointer ν)]):=aR.of Ψ
def fA.u:v8.underlying fA=σ (.slice cD):=Ψ
def fA.i:aR v8 fA 1 24 (.slice ν 0 0):=aR.of Ψ
def dI.u:v8.underlying dI=σ (.slice be):=Ψ
def dI.i:aR v8 dI 1 24 (.slice ν 0 0):=aR.of Ψ
def bI.p:bJ v8 bI [(0,1),(1,1),(2,1),(3,1),(4,1),(5,1),(6,1),(7,1),(8,1)]:=bJ.of Ψ
def eo.p:bJ v8 eo [(0,1),(1,1),(2,1),(3,1)]:=bJ.of Ψ
def cD.p:bJ v8 cD [(0,1),(1,1)]:=bJ.of Ψ
def cD.i:aR v8 cD 2 24 (.agg #[(.string ⟨#[]⟩),(Δ 0)]):=aR.of Ψ
def ep.u:v8.underlying ep=σ (.slice cp):=Ψ
def ep.i:aR v8 ep 1 24 (.slice ν 0 0):=aR.of Ψ
def be.p:bJ v8 be [(0,1),(1,1),(2,1),(3,1)]:=bJ.of Ψ
def be.i:aR v8 be 4 80 (.agg #[(.slice ν 0 0),(.slice ν 0 0),(Δ 0),(.slice ν 0 0)]):=aR.of Ψ
def md.u:v8.underlying md=σ (.slice iG):=Ψ
def md.i:aR v8 md 1 24 (.slice ν 0 0):=aR.of Ψ
def gk.p:bJ v8 gk [(0,1),(1,1),(2,1),(3,1)]:=bJ.of Ψ
def fd.u:v8.underlying fd=σ (.pointer c4):=Ψ
def fd.i:aR v8 fd 1 8 (.pointer ν):=aR.of Ψ
def iG.p:bJ v8 iG [(0,1),(1,1)]:=bJ.of Ψ
def iG.i:aR v8 iG 2 32 (.agg #[(.slice ν 0 0),(.pointer ν)]):=aR.of Ψ
def p6.u:v8.underlying p6=σ (.int .u64):=Ψ
def ri.p:bJ v8 ri [(0,1),(1,1)]:=bJ.of Ψ
def eG.u:v8.underlying eG=σ (.slice cw):=Ψ
def eG.i:aR v8 eG 1 24 (.slice ν 0 0):=aR.of Ψ
def dd.p:bJ v8 dd [(0,1),(1,1)]:=bJ.of Ψ
def cw.p:bJ v8 cw [(0,1),(1,1)]:=bJ.of Ψ
def cw.i:aR v8 cw 2 16 (.agg #[(Δ 0),(Δ 0)]):=aR.of Ψ
def jc.p:bJ v8 jc [(0,1),(1,1),(2,1)]:=bJ.of Ψ
def kV.p:bJ v8 kV [(0,1),(1,1)]:=bJ.of Ψ
def kV.i:aR v8 kV 2 48 (.agg #[(.slice ν 0 0),(.slice ν 0 0)]):=aR.of Ψ
def ey.p:bJ v8 ey [(0,1),(1,1)]:=bJ.of Ψ
def ey.i:aR v8 ey 2 32 (.agg #[(.slice ν 0 0),(Δ 0)]):=aR.of Ψ
def cp.p:bJ v8 cp [(0,1),(1,1)]:=bJ.of Ψ
def cp.i:aR v8 cp 2 32 (.agg #[(.slice ν 0 0),(Δ 0)]):=aR.of Ψ
def gJ.u:v8.underlying gJ=σ (.slice c3):=Ψ
def c3.p:bJ v8 c3 [(0,1),(1,1)]:=bJ.of Ψ
def c3.i:aR v8 c3 2 32 (.agg #[(.slice ν 0 0),(.pointer ν)]):=aR.of Ψ
def jW.u:v8.underlying jW=σ (.map cJ av):=Ψ
def fO.p:bJ v8 fO [(0,1),(1,1),(2,1),(3,1)]:=bJ.of Ψ
def p7.u:v8.underlying p7=σ (.slice gK):=Ψ
def gK.p:bJ v8 gK [(0,1),(1,1)]:=bJ.of Ψ
def gK.i:aR v8 gK 2 32 (.agg #[(.slice ν 0 0),(Δ 0)]):=aR.of Ψ
def c4.p:bJ v8 c4 [(0,1),(1,1),(2,1)]:=bJ.of Ψ
def wG.u:v8.underlying wG=σ (.array 64 cO):=Ψ
def io.u:v8.underlying io=σ (.map db ai):=Ψ
def gl.u:v8.underlying gl=σ (.int .i8):=Ψ
def gl.i:aR v8 gl 1 1 (.int .i8 0):=aR.of Ψ
def cJ.u:v8.underlying cJ=σ (.array 6 gl):=Ψ
def cJ.i:aR v8 cJ 6 6 (.agg #[(.int .i8 0),(.int .i8 0),(.int .i8 0),(.int .i8 0),(.int .i8 0),(.int .i8 0)]):=aR.of Ψ
def me.u:v8.underlying me=σ (.slice gl):=Ψ
def kW.u:v8.underlying kW=σ (.slice cJ):=Ψ
def kW.i:aR v8 kW 1 24 (.slice ν 0 0):=aR.of Ψ
def p8.u:v8.underlying p8=σ (.int .u32):=Ψ
def ng.u:v8.underlying ng=σ (.map av ai):=Ψ
def nT.u:v8.underlying nT=σ (.array 24 cO):=Ψ
def nT.i:aR v8 nT 24 24 (.agg #[(.int .u8 0),(.int .u8 0),(.int .u8 0),(.int .u8 0),(.int .u8 0),(.int .u8 0),(.int .u8 0),(.int .u8 0),(.int .u8 0),(.int .u8 0),(.int .u8 0),(.int .u8 0),(.int .u8 0),(.int .u8 0),(.int .u8 0),(.int .u8 0),(.int .u8 0),(.int .u8 0),(.int .u8 0),(.int .u8 0),(.int .u8 0),(.int .u8 0),(.int .u8 0),(.int .u8 0)]):=aR.of Ψ
def wH.u:v8.underlying wH=σ (.array 20 fN):=Ψ
def rj.i:aR v8 rj 3 56 (.agg #[(Δ 0),(.slice ν 0 0),(.slice ν 0 0)]):=aR.of Ψ
end Go.Proofs.YtnhkbjhpbbobaaaGreatDoor
namespace Go.Vc
open Go Go.RowKit
def bZ:x4->Int
 | .int _ i=>i
 |_=>0
def m1{x:Int}(h1: -9223372036854775808<=x)(a:x<9223372036854775808):W5.wrap x=x:=by
 simp only[j4.wrap,j4.bits,j4.signed];simp;omega
def wrap_u8{x:Int}(h1:0<=x)(a:x<256):j4.u8.wrap x=x:=by
 simp only[j4.wrap,j4.bits,j4.signed];simp;omega
def KZ{x:Int}(h1: -128<=x)(a:x<128):j4.i8.wrap x=x:=by
 simp only[j4.wrap,j4.bits,j4.signed];simp;omega
def m2{x:Int}(h1:0<=x)(a:x<18446744073709551616):T7.wrap x=x:=by
 simp only[j4.wrap,j4.bits,j4.signed];simp;omega
abbrev ints(k:j4)(l:Λ):List x4:=l.map (U3 k)
def rn(k:j4)(l:Λ):∀u∈ints k l,u.oneCell'=v2:=by
 intro u hu;obtain⟨x,_,rfl⟩:=j5.1 hu;rfl
def mh{i:Nat}{x:Int}(h:l[i]?=σ x):(ints k l)[i]?=σ (.int k x):=by simp[ints,h]
def wL{α:Type}{a b:List α}{i:Nat}{x y:α}(h:a.take i=b.take i)(e:a[i]?=σ x)(f:b[i]?=σ y)(j:x=y):a.take (i+1)=b.take (i+1):=by
 rw[r9,r9,h,e,f,j]
def c8{ax:x6->Prop}{B:(x6->Prop)->Prop}(G:x6->Prop)(h1:∀w,G w->ax w)(e:∀a:x6->Prop,(∀w,G w->a w)->B a):cB ax B:=e ax h1
def aY{ax:x4->x6->Prop}{B:(x4->x6->Prop)->Prop}(G:x4->x6->Prop)(h1:∀v w,G v w->ax v w)(e:∀a:x4->x6->Prop,(∀v w,G v w->a v w)->B a):cB ax B:=e ax h1
def i9{ax:x4->x4->x6->Prop}{B:(x4->x4->x6->Prop)->Prop}(G:x4->x4->x6->Prop)(h1:∀u v w,G u v w->ax u v w)(e:∀a:x4->x4->x6->Prop,(∀u v w,G u v w->a u v w)->B a):cB ax B:=e ax h1
def ak.calls{P:V5}{f:Q6}{K:x4->x6->Prop}(h:ak P f args w K)(a:Enters P f):Calls P f args.toArray w λe I=>∃v,e= .returned v/\cQ w I/\K v I:=by
 cases h with
 |code _ h=>exact h
 |W v I h1=>rw[a]at h1;cases h1
def K0(f:Ext w I)(a:cQ w I):Below w.heap.size w I:=
 ⟨a.os,a.tape.1,a.output,f.size,λk hk=>by
  have e:=Array.getElem?_eq_getElem hk;rw[e];cases J:fK w.heap[k]with
  |true=>exact f.aX k _ e J
  |false=>exact a.aX k _ e J⟩
def wM{x:Addr}(h:w.cell? x=σ v):x=⟨x.block,x.off,ν⟩:=by
 obtain⟨b,o,s⟩:=x;cases s with
 |none=>rfl
 |some s=>
  unfold x6.cell? at h;split at h<;>simp at h
def K1{a:Option Addr}{len cap:Nat}{e:Λ}(h:(a=ν/\len=0/\cap=0/\e=[])\/
   ∃x,a=σ x/\len<=cap/\cap<=maxLen/\e.length=cap/\(∀i,i<e.length->w.cell? (x.add i)=σ (.int k (e.getD i 0)))/\∀n∈e,(Lit.int k n).wf=v2):
  cg w 1 (.slice a len cap) len (ints k (e.take len))/\∀n∈e.take len,k.min<=n/\n<=k.max:=by
 rcases h with⟨rfl,rfl,rfl,rfl⟩|⟨x,rfl,h1,r,s,f,y⟩
 .exact⟨cg.nil _ _,Ξ⟩
 .refine⟨⟨by simp[s,h1],x.block,x.off,σ x,cap,T,h1,r,λC=>?_,λj v p=>?_⟩,λn z=>?_⟩
  .have:=f 0 Ω;exact congrArg σ (wM this)
  .have A:=(x5.1 p).1;rw[r8,o8]at A;have B:x=⟨x.block,x.off,ν⟩:=wM (v:=.int k (e.getD 0 0)) (f 0 Ω);have q:=f j Ω;rw[B,T9]at q;rw[q,<-p,ints,u4,Y6 Ω,u5,x8 Ω];rfl
  .have:=y n (T1 z);simpa[Lit.wf]using this
def aM(k:j4)(w:x6)(v:x4)(l:Λ):Prop:=cg w 1 v l.length (ints k l)
def aB(k:j4)(e:o5)(w:x6)(g:Nat)(v:x4)(l:Λ):Prop:=b2 w g e 1 v l.length (ints k l)
def aM.W(h:aM k w v l)(a:Ext w I):aM k I v l:=cg.W h a
def aB.W{g:Nat}(h:aB k e w g v l)(a:Ext w I):aB k e I g v l:=b2.W h a
def aB.aa{g:Nat}(h:aB k e w g v l)(a:af S w I)(f:g<w.heap.size->¬S g):aB k e I g v l:=b2.aa h a f
def aB.ls{g:Nat}(h:aB k e w g v l):aM k w v l:=b2.sl h
def aM.of(h:cg w 1 v n (ints k l)):aM k w v l:=by
 have:l.length=n:=by simpa using h.1
 unfold aM;rw[this];exact h
def aB.of{g:Nat}(h:b2 w g e 1 v n (ints k l)):aB k e w g v l:=by
 have:l.length=n:=by simpa using h.1
 unfold aB;rw[this];exact h
def aM.le(h:aM k w v l):l.length<=9223372036854775807:=by
 have:=cg.le h;simpa[maxLen]using this
def aM.cells(h:aM k w v l):v.cells= #[v]/\v.oneCell'=v2:=by
 obtain⟨_,_,_,_,_,rfl,_⟩:=h;exact⟨T,T⟩
def aB.nil(k:j4)(e:o5)(w:x6)(g:Nat):aB k e w g (.slice ν 0 0) []:=b2.nil w g e 1
section
variable{P:V5}{w:x6}
def a1{a:o5}(f:P.underlying t=σ (.slice e))(h:aM k w v l):
  ab P (V1 #[t] a #[v]) w K=K (Δ l.length):=by
 obtain⟨_,_,_,_,_,rfl,_⟩:=h;exact jd f
def bh{b:Nat}{i:Nat}{x:Int}(j:P.underlying t=σ (.slice e))(hi:aR P e 1 b z)(h1:kX P e=v2)(h:aM k w v l)(a:l[i]?=σ x):ab P (b8 t v (.int f (i:Int))) w (λp=>ab P (u6 e p) w K)=K (.int k x):=by
 have q:=(x5.1 a).1;obtain⟨_,_,_,_,_,rfl,_,_,r,s⟩:=h;rw[eT j hi q r,T0,aF h1 (s i _ (mh a))]
def fP{a:j4}{b:Nat}{i:Nat}{x:Int}(f:y=(i:Int))(j:P.underlying t=σ (.slice e))(hi:aR P e 1 b z)(h1:kX P e=v2)(h:aM k w v l)(q:l[i]?=σ x):ab P (b8 t v (.int a y)) w (λp=>ab P (u6 e p) w K)=K (.int k x):=by
 subst f;exact bh j hi h1 h q
def kt{p:o5}{b g:Nat}{x:x4}{m:Λ}{K:x4->x6->Prop}(j:P.underlying t=σ (.slice e))(hi:aR P e 1 b z)(q:z.cells.size=1)(h:aB k e w g v l)(s:aM k w x m)(y:(l.length+m.length)*b<=140737488355328)(A:l.length+m.length<=9223372036854775807)(B:∀f a I,(a=g\/w.heap.size<=a)->aB k e I a f (l++m)->af (λr=>r=g) w I->K f I):aG P (Z9 #[t,t] p #[v,x]) w K:=
 o3 j j hi q h s (rn _ _) y (by simpa[maxLen]using A) λf a I h1 C E=>B f a I h1 (aB.of (by rw[ints,Z4];exact C)) E
def eU{b:Nat}{x:Int}{K:x4->x6->Prop}(j:P.underlying t=σ (.slice e))(hi:aR P e 1 b z)(s:z.cells.size=1)(h:∀v g I,g=w.heap.size->Ext w I->aB k e I g v [x]->K v I):aG P (X2 t 1 #[(0,.int k x)]) w K:=
 kZ j hi Ω (cs:=#[.int k x]) (by
   have J:∀(a:Array x4),a.size=1->a.setIfInBounds 0 (.int k x)= #[.int k x]:=λa f=>by
    apply Array.ext
    .simp[f]
    .intro i h1 y;have:i=0:=by simp[f]at h1;exact h1
     subst this;simp
   simp only[Instr.fill,x4.cells,List.zipIdx];simp;exact J _ Ξ) λg I p q r=>h _ g I p q (aB.of (b2.full r T (by simp[maxLen])))
def ak.free{f:Q6}{K:x4->x6->Prop}(h:ak P f args w K):gT P f args w λv I=>cQ w I/\K v I:=by
 cases h with
 |code h1 a=>exact .code h1 (a.Y λ_ I ⟨v,h1,e,a⟩=>⟨v,h1,e,a⟩)
 |W v I h1 a j=>exact .W v I h1 ⟨a,j⟩
def b0{a:Addr}:ab P (bU (.pointer (σ a))) w K=K (.pointer (σ a)):=ab.of λ_ _=>by
 simp[bU,sT,execOp]
def aJ{u:o5}{pl:List (Nat×Nat)}{b a z:Nat}{K:x4->x4->Prop}(ac:bJ P t pl)(i:Nat)(j:ag w b e cs)(f:cs[(pl[i]?.getD (0,0)).1]?=σ v)(h:pl[i]?=σ (a,z+1):=by rfl)(p:kX P u=v2:=by kernel_rfl):
  ab P (u7 t (Γ b) i) w (λx=>ab P (u6 u x) w (K x))=K (.pointer (σ ⟨b,0+a,ν⟩)) v:=by
 rw[h]at f;rw[aU ac h,aF p (j.cell (by rw[X6];exact f))]
def aL{u:o5}{pl:List (Nat×Nat)}{b a z:Nat}{K:x4->x4->x4->Prop}(ac:bJ P t pl)(i:Nat)(f:ag w b e cs)(h:cs[(pl[i]?.getD (0,0)).1]?=σ v)(j:pl[i]?=σ (a,z+1):=by rfl)(p:kX P u=v2:=by kernel_rfl):
  ab P (bU (Γ b)) w (λy=>ab P (u7 t y i) w (λx=>ab P (u6 u x) w (K y x)))=K (Γ b) (.pointer (σ ⟨b,0+a,ν⟩)) v:=by
 rw[b0,aJ ac i f h j p]
def Be{a:j4}{k:Nat}{K:x4->x6->Prop}(q:P.underlying t=σ (.slice e))(hi:aR P e k j z)(A:n*j<=281474976710656)(B:n<=9223372036854775807)(h:∀g I,g=w.heap.size->Ext w I->ag I g e (dZ z.cells (n*k))->K (.slice (σ ⟨g,0,ν⟩) n n) I):aG P (Instr.makeSlice t (.int a (n:Int)) (.int f (n:Int))) w K:=by
 obtain⟨i,hi,rfl,rfl,r⟩:=hi;have s:(i.bytes:Int)*(n:Int)<=281474976710656:=by
  rw[Int.mul_comm];have h:((n*i.bytes:Nat):Int)<=281474976710656:=Ω
  rwa [Int.natCast_mul]at h
 have p:=run_make w t e i z q hi r a f n n Ω (S9 _) s Ω;have hm:madeCells z.cells ((n:Int).toNat*i.size)=(dZ z.cells (n*i.size)).toArray:=by rw[dZ,Array.toArray_toList];rfl
 rw[hm]at p;obtain⟨h1,x,y⟩:=tB w (dZ z.cells (n*i.size)) e;exact .of p y (h _ _ T x h1)
def K2(v:x4)(n:Nat):dZ #[v] n=o6 n v:=by
 apply List.ext_getElem
 .simp[dZ]
 .intro i h1 a;simp[dZ,Nat.mod_one]
def ku{j:j4}{a:Nat}{K:x4->x6->Prop}(p:P.underlying t=σ (.slice e))(hi:aR P e 1 a (.int k 0))(q:n*a<=281474976710656)(r:n<=9223372036854775807)(h:∀g I,g=w.heap.size->Ext w I->ag I g e (ints k (o6 n 0))->K (.slice (σ ⟨g,0,ν⟩) n n) I):aG P (Instr.makeSlice t (.int f (n:Int)) (.int j (n:Int))) w K:=
 Be p hi q r λg I s x y=>h g I s x (by
  have e:dZ (U3 k 0).cells (n*1)=ints k (o6 n 0):=by rw[T0];show dZ #[_] n=_;rw[K2];simp[ints]
  rw[<-e];exact y)
def fe{pl:List (Nat×Nat)}{b o k a:Nat}(hu:bJ P t pl)(hi:aR P t k a z)(e:cs.length=k)(h:w.rangeAt b o cs):ab P (do loadVar t (<-asAddr (.pointer (σ ⟨b,o,ν⟩)))) w K=K (.agg cs.toArray):=ab.of λI f=>by
 obtain⟨j,hu,_⟩:=hu;have:=run_loadVar_mid I b o t cs (.struct j) (oX f h) hu T (by rw[hi.size,e]);simp only[asAddr,W9,V9,Result.andThen_ok,this]
def K3(h:vs.length=cs.length):over cs 0 vs=vs:=by
 rw[nV Ω];simp[h]
def b1{k f g:Nat}{K:Unit->x6->Prop}(hi:aR P t k f z)(j:vs.length=k)(x:cs.length=k)(p:∀v∈vs,v.oneCell'=v2)(q:ag w g e cs)(h:∀I,af (λr=>r=g) w I->I.heap.size=w.heap.size->ag I g e vs->K () I):aG P (j0 t (Γ g) (.agg vs.toArray)) w K:=
 Bb hi j p q Ω λI h1 s a=>h I h1 s (by rw[K3 Ω]at a;exact a)
end
section
variable{P:V5}{w I V:x6}{t:o5}{cx cy:Bool}{k:j4}{a b:Int}{A B:Prop}{x y z:x4}{K:x4->Prop}
def bA:ab P (Y8 (.tuple #[x,y]) 0) w K=K x:=jY T
def bB:ab P (Y8 (.tuple #[x,y]) 1) w K=K y:=jY T
def fQ:ab P (Y8 (.tuple #[x,y,z]) 0) w K=K x:=jY T
def fR:ab P (Y8 (.tuple #[x,y,z]) 1) w K=K y:=jY T
def fS:ab P (Y8 (.tuple #[x,y,z]) 2) w K=K z:=jY T
def bC(h:a<b)(e:A):ab P (aP .lss t cx cy (.int k a) (.int k b)) w λv=>Split v A B:=by
 rw[aT,al];exact⟨λ_=>e,λf=>ro h f⟩
def b3(h:¬a<b)(e:B):ab P (aP .lss t cx cy (.int k a) (.int k b)) w λv=>Split v A B:=by
 rw[aT,al];exact⟨λf=>ro f h,λ_=>e⟩
def Ext.put{g:Nat}(a:Ext w I)(e:af (λr=>r=g) I V)(h:w.heap.size<=g):Ext w V:=a.then e λr f he=>by
 have he:r=g:=he;omega
def aD{α:Type}{l:List α}{i:Nat}(h:i<l.length):∃x,l[i]?=σ x:=⟨_,x8 h⟩
end
abbrev ah:=Nat->Prop
def lG(S:ah)(w:x6)(k:Nat)(v:x4)(n:Nat)(cs:List x4):Prop:=
 cs.length=n*k/\∃b o base cap,v= .slice base n cap/\n<=cap/\cap<=maxLen/\(0<n->base=σ ⟨b,o,ν⟩)/\(0<cs.length->S b)/\w.rangeAt b o cs
def lG.sl{S:ah}{k:Nat}(h:lG S w k v n cs):cg w k v n cs:=by
 obtain⟨h1,b,o,base,cap,a,e,f,j,_,p⟩:=h;exact⟨h1,b,o,base,cap,a,e,f,j,p⟩
def Bf{b o:Nat}(h:w.rangeAt b o cs)(a:0<cs.length):b<w.heap.size:=by
 have:=h 0 cs[0] (x8 a);obtain⟨c,e,f,j,_⟩:=wI this;exact(Z0.1 j).1
def lG.aa{S T:ah}{k:Nat}(h:lG S w k v n cs)(p:af T w I)(q:∀r,r<w.heap.size->S r->¬T r):lG S I k v n cs:=by
 obtain⟨h1,b,o,base,cap,s,x,y,z,e,f⟩:=h;refine⟨h1,b,o,base,cap,s,x,y,z,e,?_⟩;rcases Q9 cs.length with a|a
 .intro j v A;have:=(x5.1 A).1;omega
 .exact iH p (q b (Bf f a) (e a)) f
def lG.Y{S T:ah}{k:Nat}(h:lG S w k v n cs)(f:∀r,r<w.heap.size->S r->T r):lG T w k v n cs:=by
 obtain⟨h1,b,o,base,cap,j,p,q,s,x,a⟩:=h;exact⟨h1,b,o,base,cap,j,p,q,s,λe=>f b (Bf a e) (x e),a⟩
class ao(α:Type) where
 n:Nat
 rep:Bool->ah->ah->x6->List x4->α->Prop
 len:∀{m S R w cs a},rep m S R w cs a->cs.length=n
 one:∀{m S R w cs a},rep m S R w cs a->∀u∈cs,u.oneCell'=v2
 aa:∀{m S R T w I cs a},rep m S R w cs a->af T w I->(∀r,r<w.heap.size->S r\/R r->¬T r)->rep m S R I cs a
 Y:∀{m S S' R R' w cs a},rep m S R w cs a->(∀r,r<w.heap.size->S r->S' r)->(∀r,r<w.heap.size->R r->R' r)->rep m S' R' w cs a
 i7:∀{m S R w cs a},rep m S R w cs a->rep v6 (λ_=>False) (λr=>S r\/R r) w cs a
section
variable{α β:Type}[ao α][ao β]{m:Bool}{S R T:ah}{w I:x6}
abbrev bs(S R:ah)(w:x6)(cs:List x4)(a:α):Prop:=ao.rep v2 S R w cs a
abbrev Seen(R:ah)(w:x6)(cs:List x4)(a:α):Prop:=ao.rep v6 (λ_=>False) R w cs a
abbrev eM:ah:=λ_=>True
def bp{a:α}(h:ao.rep m S R w cs a)(e:Ext w I):ao.rep m S R I cs a:=ao.aa h (e.aa λ_=>False) λ_ _ _ h=>h
def nn{a:α}(h:ao.rep m S R w cs a):ao.rep m (λr=>S r/\r<w.heap.size) R w cs a:=ao.Y h (λ_ h1 e=>⟨e,h1⟩) λ_ _ h=>h
def jz{a:α}(h:ao.rep m S R w cs a):Seen eM w cs a:=ao.Y (ao.i7 h) (λ_ _ h=>h.elim) λ_ _ _=>trivial
def pa{a:α}{Q:ah}(h:ao.rep m S R w cs a)(e:∀r,r<w.heap.size->S r\/R r->Q r):Seen Q w cs a:=ao.Y (ao.i7 h) (λ_ _ h=>h.elim) e
instance:ao Int where
 n:=1
 rep _ _ _ _ cs a:=cs=[Δ a]
 len h:=by subst h;rfl
 one h:=by subst h;intro u hu;simp at hu;subst hu;rfl
 aa h _ _:=h
 Y h _ _:=h
 i7 h:=h
instance:ao Bool where
 n:=1
 rep _ _ _ _ cs a:=cs=[.bool a]
 len h:=by subst h;rfl
 one h:=by subst h;intro u hu;simp at hu;subst hu;rfl
 aa h _ _:=h
 Y h _ _:=h
 i7 h:=h
instance:ao ByteArray where
 n:=1
 rep _ _ _ _ cs a:=cs=[.string a]
 len h:=by subst h;rfl
 one h:=by subst h;intro u hu;simp at hu;subst hu;rfl
 aa h _ _:=h
 Y h _ _:=h
 i7 h:=h
def np(_:j4):Type:=Int
instance (k:j4):ao (np k) where
 n:=1
 rep _ _ _ _ cs a:=cs=[.int k a]
 len h:=by subst h;rfl
 one h:=by subst h;intro u hu;simp at hu;subst hu;rfl
 aa h _ _:=h
 Y h _ _:=h
 i7 h:=h
def Rd(α:Type):Type:=α
instance Vj:ao (Rd α) where
 n:=ao.n α
 rep _ _ R w cs a:=ao.rep (α:=α) v6 (λ_=>False) R w cs a
 len h:=ao.len (α:=α) h
 one h:=ao.one (α:=α) h
 aa h e f:=ao.aa (α:=α) h e λr j h=>f r j (.inr (h.elim False.elim id))
 Y h _ p:=ao.Y (α:=α) h (λ_ _ h=>h) p
 i7 h:=ao.Y (α:=α) h (λ_ _ h=>h) λ_ _ h=>.inr h
instance Vk:ao (α×β) where
 n:=ao.n α+ao.n β
 rep m S R w cs a:=∃c d A B,cs=c++d/\(∀r,A r->S r)/\(∀r,B r->S r)/\(m=v2->∀r,A r->¬B r)/\ao.rep m A R w c a.1/\ao.rep m B R w d a.2
 len:=by
  rintro m S R w cs a ⟨c,d,A,B,rfl,_,_,_,h1,e⟩;simp[ao.len h1,ao.len e]
 one:=by
  rintro m S R w cs a ⟨c,d,A,B,rfl,_,_,_,h1,e⟩ u hu;rcases j9.1 hu with hu|hu
  .exact ao.one h1 u hu
  .exact ao.one e u hu
 aa:=by
  rintro m S R T w I cs a ⟨c,d,A,B,rfl,j,p,s,h1,e⟩ x q;exact⟨c,d,A,B,rfl,j,p,s,ao.aa h1 x λr f h=>q r f (h.imp (j r) id),ao.aa e x λr f h=>q r f (h.imp (p r) id)⟩
 Y:=by
  rintro m S S' R R' w cs a ⟨c,d,A,B,rfl,j,p,s,h1,e⟩ q y;exact⟨c,d,λr=>A r/\r<w.heap.size,λr=>B r/\r<w.heap.size,rfl,λr h=>q r h.2 (j r h.1),λr h=>q r h.2 (p r h.1),λhm r h k=>s hm r h.1 k.1,
   ao.Y h1 (λr f h=>⟨h,f⟩) y,ao.Y e (λr f h=>⟨h,f⟩) y⟩
 i7:=by
  rintro m S R w cs a ⟨c,d,A,B,rfl,j,p,s,h1,e⟩;exact⟨c,d,λ_=>False,λ_=>False,rfl,λ_ h=>h.elim,λ_ h=>h.elim,(λh=>by cases h),ao.Y (ao.i7 h1) (λ_ _ h=>h) λr _ h=>h.imp (j r) id,
   ao.Y (ao.i7 e) (λ_ _ h=>h) λr _ h=>h.imp (p r) id⟩
def nW(m:Bool)(R:ah)(F:Nat->ah)(w:x6)(vs:List (List x4))(l:List α):Prop:=
 vs.length=l.length/\∀(i:Nat)(c:List x4)(a:α),vs[i]?=σ c->l[i]?=σ a->ao.rep m (F i) R w c a
structure Bg(m:Bool)(S:ah)(g:Nat)(F:Nat->ah):Prop where
 sub:∀i r,F i r->S r
 top:m=v2->∀i,¬F i g
 gX:m=v2->∀i j r,i≠j->F i r->¬F j r
def nW.len{F:Nat->ah}{vs:List (List x4)}{l:List α}(h:nW m R F w vs l):∀c∈vs,c.length=ao.n α:=by
 intro c a;obtain⟨i,hi,rfl⟩:=List.mem_iff_getElem.1 a;exact ao.len (h.2 i _ _ (x8 hi) (x8 (h.1▸hi)))
def nW.one{F:Nat->ah}{vs:List (List x4)}{l:List α}(h:nW m R F w vs l):∀u∈vs.flatten,u.oneCell'=v2:=by
 intro u hu;obtain⟨c,a,hu⟩:=List.mem_flatten.1 hu;obtain⟨i,hi,rfl⟩:=List.mem_iff_getElem.1 a;exact ao.one (h.2 i _ _ (x8 hi) (x8 (h.1▸hi))) u hu
theorem rp{k:Nat}:∀{vs:List (List x4)},(∀c∈vs,c.length=k)->vs.flatten.length=vs.length*k
 |[],_=>Ξ
 |c::r,h=>by
  have:=rp λx a=>h x (.tail _ a);simp only[List.flatten_cons,n9,this,h c (.head _),Y1,U7];omega
theorem pb{k:Nat}:∀{vs:List (List x4)},(∀c∈vs,c.length=k)->∀{i j:Nat}{c:List x4},vs[i]?=σ c->j<k->vs.flatten[i*k+j]?=c[j]?
 |fp::r,h,0,j,c,a,e=>by
  simp only[List.getElem?_cons_zero,X7]at a;subst a;rw[List.flatten_cons,Y2 (by rw[h _ (.head _)];omega)];simp
 |fp::r,h,i+1,j,c,a,e=>by
  simp only[List.getElem?_cons_succ]at a;have f:=h fp (.head _);rw[List.flatten_cons,Z7 (by rw[f,U7];omega),f,U7,show i*k+1*k+j-k=i*k+j by omega];exact pb (λx p=>h x (.tail _ p)) a e
 |[],_,i,_,c,a,_=>by simp at a
instance instList:ao (List α) where
 n:=1
 rep m S R w cs l:=∃v,cs=[v]/\∃(vs:List (List x4))(g:Nat)(F:Nat->ah),Bg m S g F/\nW m R F w vs l/\lG (λr=>S r\/R r) w (ao.n α) v l.length vs.flatten/\
  (m=v2->(v= .slice ν 0 0\/S g)/\∃e,b2 w g e (ao.n α) v l.length vs.flatten)
 len:=by rintro m S R w cs a ⟨v,rfl,_⟩;rfl
 one:=by
  rintro m S R w cs a ⟨v,rfl,vs,g,F,_,_,⟨_,_,_,_,_,rfl,_⟩,_⟩ u hu;simp at hu;subst hu;rfl
 aa:=by
  rintro m S R T w I cs a ⟨v,rfl,vs,g,F,ac,he,J,hm⟩ z q;refine⟨v,rfl,vs,g,F,ac,⟨he.1,λi c a x y=>ao.aa (he.2 i c a x y) z λr p h=>q r p (h.imp (ac.sub i r) id)⟩,J.aa z q,λh=>?_⟩;obtain⟨h1,e,f⟩:=hm h;refine⟨h1,e,?_⟩;rcases h1 with rfl|h1
  .obtain⟨B,⟨_,s⟩|⟨_,_,s,_⟩⟩:=f
   .exact⟨B,.inl ⟨rfl,s⟩⟩
   .cases s
  .exact f.aa z λp=>q g p (.inl h1)
 Y:=by
  rintro m S S' R R' w cs a ⟨v,rfl,vs,g,F,ac,he,J,hm⟩ q A;refine⟨v,rfl,vs,g,λi r=>F i r/\r<w.heap.size,⟨λi r h=>q r h.2 (ac.sub i r h.1),λh i f=>ac.top h i f.1,λh i j r C h1 f=>ac.gX h i j r C h1.1 f.1⟩,
   ⟨he.1,λi c a x y=>ao.Y (he.2 i c a x y) (λr p h=>⟨h,p⟩) A⟩,J.Y λr p h=>h.imp (q r p) (A r p),λh=>?_⟩
  obtain⟨h1,e,f⟩:=hm h;refine⟨?_,e,f⟩;obtain⟨_,⟨s,_⟩|⟨_,_,s,E,_⟩⟩:=f
  .exact .inl s
  .rcases h1 with h1|h1
   .exact .inl h1
   .exact .inr (q g E.lt h1)
 i7:=by
  rintro m S R w cs a ⟨v,rfl,vs,g,F,ac,he,J,hm⟩;exact⟨v,rfl,vs,g,λ_ _=>False,⟨λ_ _ h=>h,(λh=>by cases h),λh=>by cases h⟩,
   ⟨he.1,λi c a x y=>ao.Y (ao.i7 (he.2 i c a x y)) (λ_ _ h=>h) λr _ h=>h.imp (ac.sub i r) id⟩,J.Y λr _ h=>.inr h,λh=>by cases h⟩
end
section
variable{P:V5}{w:x6}{α β:Type}[ao α][ao β]{m:Bool}{S R:ah}
def jA{l:List α}(h:ao.rep m S R w [v] l):∃(vs:List (List x4))(g:Nat)(F:Nat->ah),Bg m S g F/\nW m R F w vs l/\lG (λr=>S r\/R r) w (ao.n α) v l.length vs.flatten/\
  (m=v2->(v= .slice ν 0 0\/S g)/\∃e,b2 w g e (ao.n α) v l.length vs.flatten):=by
 obtain⟨_,a,h⟩:=h;cases a;exact h
def fT{a:α}(h:ao.rep m S R w [v] a):v.oneCell'=v2:=ao.one h v (.head _)
def lH{l:List α}(h:ao.rep m S R w [v] l):v.cells= #[v]:=by
 obtain⟨_,_,_,_,_,⟨_,_,_,_,_,rfl,_⟩,_⟩:=jA h;rfl
def nX{l:List α}(h:ao.rep m S R w [v] l):l.length<=9223372036854775807:=by
 obtain⟨_,_,_,_,_,h,_⟩:=jA h;have:=h.sl.le;simpa[maxLen]using this
def gm:ao.rep m S R w [.slice ν 0 0] ([]:List α):=
 ⟨_,T,[],0,λ_ _=>False,⟨λ_ _ h=>h.elim,λ_ _ h=>h,λ_ _ _ _ _ h=>h.elim⟩,⟨T,λi c a e=>by simp at e⟩,
  ⟨Ξ,0,0,ν,0,T,o4 _,W0 _,λh=>ro h (Nat.lt_irrefl _),λh=>by simp at h,λj v h=>by simp at h⟩,
  λ_=>⟨.inl T,0,b2.nil w 0 0 _⟩⟩
def Bh{F:Nat->ah}{vs:List (List x4)}(h:nW m R F w vs l):vs.flatten=ints .i64 l:=by
 have:vs=l.map λx=>[U3 .i64 x]:=by
  apply List.ext_getElem
  .simp[h.1]
  .intro i h1 a;have e:i<l.length:=by simpa using a
   have:=h.2 i _ _ (x8 h1) (x8 e);rw[List.getElem_map];exact this
 subst this;clear h;induction l with
 |nil=>rfl
 |cons x l f=>simp only[T3,List.flatten_cons,f];rfl
def dl(h:ao.rep m S R w [v] l):aM .i64 w v l:=by
 obtain⟨vs,g,F,_,he,J,_⟩:=jA h;have:=J.sl;rw[Bh he]at this;exact this
def fU{a:o5}{l:List α}(f:P.underlying t=σ (.slice e))(h:ao.rep m S R w [v] l):
  ab P (V1 #[t] a #[v]) w K=K (Δ l.length):=by
 obtain⟨_,_,_,_,_,⟨_,_,_,_,_,rfl,_⟩,_⟩:=jA h;exact jd f
def kv{x:j4}{i b:Nat}{l:List α}{a:α}(A:y=(i:Int))(B:P.underlying t=σ (.slice e))(hi:aR P e (ao.n α) b z)(h:ao.rep m S R w [v] l)(f:l[i]?=σ a)(C:∀b o cs,w.rangeAt b o cs->ao.rep m S R w cs a->K (.pointer (σ ⟨b,o,ν⟩))):ab P (b8 t v (.int x y)) w K:=by
 subst A;obtain⟨vs,g,F,ac,he,⟨_,b,o,base,cap,rfl,_,_,E,_,G⟩,_⟩:=jA h;have p:=(x5.1 f).1;rw[eT B hi p E];obtain⟨c,q⟩:∃c,vs[i]?=σ c:=⟨_,x8 (by rw[he.1];exact p)⟩;have s:=he.2 i c a q f;have:=ao.len s;refine C _ _ c (λj u hu=>?_) (ao.Y s (λr _ h=>ac.sub i r h) λ_ _ h=>h);have:=(x5.1 hu).1;rw[Q3];refine G (i*ao.n α+j) u ?_;rw[pb he.len q Ω];exact hu
def gn{q:j4}{i b:Nat}{l:List α}{a:α}(r:ao.n α=1)(s:y=(i:Int))(x:P.underlying t=σ (.slice e))(hi:aR P e (ao.n α) b z)(h1:kX P e=v2)(h:ao.rep m S R w [v] l)(A:l[i]?=σ a)(B:∀u,ao.rep m S R w [u] a->K u):
  ab P (b8 t v (.int q y)) w λp=>ab P (u6 e p) w K:=by
 refine kv s x hi h A λb o cs C f=>?_;have j:=ao.len f;rw[r]at j;obtain⟨u,rfl⟩:=V6.1 j;rw[aF h1 (by have:=C 0 u T;simpa using this)];exact B u f
def mi{pl:List (Nat×Nat)}{j:j4}{i b:Nat}{l:List α}{a:α}(hu:bJ P e pl)(q:y=(i:Int))(r:P.underlying t=σ (.slice e))(hi:aR P e (ao.n α) b z)(h:ao.rep m S R w [v] l)(s:l[i]?=σ a)(x:∀cs,ao.rep m S R w cs a->K (.agg cs.toArray)):
  ab P (b8 t v (.int j y)) w λp=>ab P (u6 e p) w K:=by
 refine kv q r hi h s λb o cs A f=>?_;rw[bz hu hi (ao.len f) A];exact x cs f
def pc{g:Nat}{k:Nat}(h:b2 w g e k v n xs)(f:v= .slice ν 0 0\/S g):lG S w k v n xs:=by
 obtain⟨h1,⟨rfl,rfl⟩|⟨cap,cs,rfl,p,q,r,x,s⟩⟩:=h
 .have:xs=[]:=Z2 (by simpa using h1);subst this;exact⟨Ξ,0,0,ν,0,T,o4 _,W0 _,λh=>ro h (Nat.lt_irrefl _),λh=>by simp at h,λj v h=>by simp at h⟩
 .refine⟨h1,g,0,_,cap,T,q,r,λ_=>rfl,λ_=>f.resolve_left Ξ,λj v a=>?_⟩;rw[X6];have y:=(x5.1 a).1;rw[<-s,Y6 Ω]at a;exact p.cell a
open Classical in
def Bi{U X Y:o5}{b:Nat}{x:x4}{us:List (List x4)}{l l':List α}{G:Nat->ah}{K:x4->x6->Prop}(Z:P.underlying t=σ (.slice e))(ab:P.underlying U=σ (.slice X))(hi:aR P e (ao.n α) b z)(ad:z.cells.size=ao.n α)(h:bs S R w [v] l)(ae:cg w (ao.n α) x l'.length us.flatten)(L:nW v2 R G w us l')(ag:∀i j r,i≠j->G i r->¬G j r)(C:∀r,r<w.heap.size->S r->(∀i,¬G i r)/\¬R r)(ai:(l.length+l'.length)*b<=140737488355328)(aj:l.length+l'.length<=9223372036854775807)(ak:∀p I,bs (λr=>S r\/(∃i,G i r)\/w.heap.size<=r) R I [p] (l++l')->af S w I->K p I):aG P (Z9 #[t,U] Y #[v,x]) w K:=by
 obtain⟨vs,g,F,ac,he,J,hm⟩:=jA h;obtain⟨M,aq,V⟩:=hm rfl;refine Bc Z ab hi ad V ae L.one ai (by simpa[maxLen]using aj) ?_;intro p E I al am N O;have Q:∀r,r=g/\v≠ .slice ν 0 0->S r:=λr ⟨h1,f⟩=>h1▸M.resolve_left f;have an:=V;have T:(p= .slice ν 0 0)\/(E=g/\S g/\g<w.heap.size)\/E=w.heap.size:=by
  rcases am with⟨h1,_,f|f⟩|⟨h1,_⟩
  .rcases M with s|s
   .exact .inl (f▸s)
   .obtain⟨_,⟨y,_⟩|⟨_,_,_,y,_⟩⟩:=an
    .exact .inl (f▸y)
    .exact .inr (.inl ⟨h1,s,y.lt⟩)
  .exact .inr (.inl ⟨h1,M.resolve_left f.2,f.1⟩)
  .exact .inr (.inr h1)
 refine ak p I ⟨p,rfl,vs++us,if p= .slice ν 0 0 then w.heap.size else E,λi r=>if i<l.length then F i r/\r<w.heap.size else G (i-l.length) r/\r<w.heap.size,⟨λi r h=>?_,λ_ i h=>?_,λ_ i j r ap h1 f=>?_⟩,⟨by simp[he.1,L.1],λi c a hi H=>?_⟩,?_,λ_=>⟨?_,al,?_⟩⟩ (O.Y λr _ h=>Q r h)
 .split at h
  .exact .inl (ac.sub i r h.1)
  .exact .inr (.inl ⟨_,h.1⟩)
 .have A:(if p= .slice ν 0 0 then w.heap.size else E)<w.heap.size:=by split at h<;>exact h.2
  split at A
  .omega
  .rename_i q;rw[rc q]at h;rcases T with h1|⟨rfl,f,s⟩|h1
   .exact q h1
   .split at h
    .exact ac.top rfl i h.1
    .exact (C _ s f).1 _ h.1
   .omega
 .split at h1<;>split at f
  .exact ac.gX rfl i j r ap h1.1 f.1
  .exact (C r h1.2 (ac.sub i r h1.1)).1 _ f.1
  .exact (C r h1.2 (ac.sub j r f.1)).1 _ h1.1
  .exact ag (i-l.length) (j-l.length) r Ω h1.1 f.1
 .have W:∀r,r<w.heap.size->R r->¬(r=g/\v≠ .slice ν 0 0):=λr B h1 f=>(C r B (Q r f)).2 h1;by_cases A:i<l.length
  .rw[Y2 (by rw[he.1];exact A)]at hi;rw[Y2 A]at H;simp only[ms A];refine ao.aa (nn (he.2 i c a hi H)) O λr B h1 f=>?_;rcases h1 with h1|h1
   .exact ac.top rfl i (f.1▸h1.1)
   .exact W r B h1 f
  .rw[Z7 (by rw[he.1];omega),he.1]at hi;rw[Z7 Ω]at H;simp only[rc A];refine ao.aa (nn (L.2 _ c a hi H)) O λr B h1 f=>?_;rcases h1 with h1|h1
   .exact (C r B (Q r f)).1 _ h1.1
   .exact W r B h1 f
 .rw[n9,List.flatten_append];refine pc N ?_;rcases T with h1|⟨rfl,f,_⟩|rfl
  .exact .inl h1
  .exact .inr (.inl (.inl f))
  .exact .inr (.inl (.inr (.inr (o4 _))))
 .rcases T with h1|⟨rfl,f,_⟩|rfl
  .exact .inl h1
  .by_cases q:p= .slice ν 0 0
   .exact .inl q
   .rw[rc q];exact .inr (.inl f)
  .split
   .exact .inr (.inr (.inr (o4 _)))
   .exact .inr (.inr (.inr (o4 _)))
 .rw[n9,List.flatten_append];by_cases q:p= .slice ν 0 0
  .subst q;obtain⟨s,⟨_,y⟩|⟨_,_,y,_⟩⟩:=N
   .exact⟨s,.inl ⟨rfl,y⟩⟩
   .cases y
  .rw[rc q];exact N
def nY{F:o5}{b:Nat}{x:x4}{l:List α}{a:α}{A:ah}{K:x4->x6->Prop}(B:P.underlying t=σ (.slice e))(hi:aR P e (ao.n α) b z)(H:z.cells.size=ao.n α)(h:bs S R w [v] l)(L:cg w (ao.n α) x 1 cs)(M:bs A R w cs a)(C:∀r,r<w.heap.size->S r->¬(A r\/R r))(f:(l.length+1)*b<=140737488355328)(N:l.length+1<=9223372036854775807)(O:∀p I,bs (λr=>S r\/A r\/w.heap.size<=r) R I [p] (l++[a])->af S w I->K p I):aG P (Z9 #[t,t] F #[v,x]) w K:=by
 refine Bi (us:=[cs]) (G:=λi r=>i=0/\A r) B B hi H h (by simpa using L) ⟨T,λi c b q f=>?_⟩ (λi j r Q h1 s=>Q (h1.1.F s.1.symm)) (λr E J=>⟨λi h=>C r E J (.inl h.2),λh=>C r E J (.inr h)⟩) (by simpa using f) (by simpa using N)
  λp I h1 s=>O p I (ao.Y h1 (λr _ h=>h.imp id (Or.imp (λ⟨_,h⟩=>h.2) id)) λ_ _ h=>h) s
 have y:=(x5.1 q).1;have y:i=0:=by simpa using y
 subst y;simp at q f;subst q f;exact ao.Y M (λr _ h=>⟨T,h⟩) λ_ _ h=>h
end
theorem Bj:∀(c:List x4)(i:Nat)(z:Array x4),(i+c.length<=z.size)->((c.zipIdx i).foldl (λcs (x:x4×Nat)=>cs.setIfInBounds x.2 x.1) z).toList=z.toList.take i++c++z.toList.drop (i+c.length)
 |[],i,z,h=>Ξ
 |x::r,i,z,h=>by
  simp only[Y1]at h;rw[List.zipIdx_cons,V7,Bj r (i+1) _ Θ];simp only[Array.toList_setIfInBounds,Y1];rw[List.drop_set_of_lt Ω,List.take_set,r9,x8 Θ];simp only[j6];rw[T4 _ _ Θ];have e:i-(z.toList.take i).length=0:=Θ
  rw[e,show i+1+r.length=i+(r.length+1) by omega];simp
def Bk{k:Nat}{z:Array x4}(a:z.size=k)(e:v.cells.size=k):Instr.fill (λj=>σ (j*k,k)) z [(0,v)]=σ v.cells:=by
 have h:=Bj v.cells.toList 0 z Θ;simp only[Instr.fill,Nat.zero_mul,X6];rw[rc Θ];congr 1;apply Array.toList_inj.1;rw[<-Array.foldl_toList,Array.toList_zipIdx,h];simp;omega
section
variable{P:V5}{w:x6}{α β:Type}[ao α][ao β]{m:Bool}{S R:ah}
def jB{b:Nat}{x:x4}{a:α}{A:ah}{K:x4->x6->Prop}(C:P.underlying t=σ (.slice e))(hi:aR P e (ao.n α) b z)(M:ao.n α<=100000)(q:x.cells=cs.toArray)(s:bs A R w cs a)(E:∀v I,Ext w I->bs (λr=>A r\/w.heap.size<=r) R I [v] [a]->cg I (ao.n α) v 1 cs->K v I):aG P (X2 t 1 #[(0,x)]) w K:=by
 have F:=ao.len s;refine kZ C hi Ω (cs:=x.cells) (Bk Ξ (by rw[q];simpa using F)) λg I N y f=>?_;have f:ag I g e cs:=by rw[q]at f;simpa using f
 have hm:b2 I g e (ao.n α) (.slice (σ ⟨g,0,ν⟩) 1 1) 1 cs:=b2.full f Ω (by simp[maxLen]);refine E _ I y ⟨_,T,[cs],g,λi r=>i=0/\A r/\r<w.heap.size,⟨λi r h=>.inl h.2.1,λ_ i h=>Ω,λ_ i j r G h1 H=>G (h1.1.F H.1.symm)⟩,⟨T,λi c a' p B=>?_⟩,?_,λ_=>⟨.inr (.inr Ω),e,by simpa using hm⟩⟩ hm.sl
 .have J:i=0:=by simpa using(x5.1 p).1
  subst J;simp at p B;subst p B;exact bp (ao.Y s (λr L h=>⟨T,h,L⟩) λ_ _ h=>h) y
 .have:=pc (S:=λr=>(A r\/w.heap.size<=r)\/R r) hm (.inr (.inl (.inr Ω)));simpa using this
end
def bY.range{B:x4->x6->(x4->x6->Prop)->Prop}(n:Nat)(a:Nat->x6->Prop)(q:n<=9223372036854775807)(f:a 0 w)(j:∀(i:Nat)(w:x6)(k:x4->x6->Prop),i<n->a i w->(∀I,a (i+1) I->k (Δ (W5.wrap ((i:Int)+1))) I)->B (Δ (i:Int)) w k)(p:∀(w:x6)(k:x4->x6->Prop),a n w->B (Δ (n:Int)) w k):bY (Δ 0) w B:=by
 refine⟨λt w=>∃i:Nat,t=Δ (i:Int)/\i<=n/\a i w,λt _=>n-(bZ t).toNat,⟨0,T,W0 _,f⟩,?_⟩;rintro _ w ⟨i,rfl,hi,h⟩;by_cases e:i<n
 .refine j i w _ e h λI aW=>⟨⟨i+1,?_,e,aW⟩,?_⟩
  .rw[m1 Ω Ω];rfl
  .rw[m1 Ω Ω];simp only[bZ];omega
 .have:i=n:=Ω
  subst this;exact p w _ h
def b7.range{a:x4}{B:x4->x4->x6->(x4->x4->x6->Prop)->Prop}(n:Nat)(e:Nat->x4->x6->Prop)(r:n<=9223372036854775807)(j:e 0 a w)(p:∀(i:Nat)(a:x4)(w:x6)(k:x4->x4->x6->Prop),i<n->e i a w->(∀a' I,e (i+1) a' I->k a' (Δ (W5.wrap ((i:Int)+1))) I)->B a (Δ (i:Int)) w k)(q:∀(a:x4)(w:x6)(k:x4->x4->x6->Prop),e n a w->B a (Δ (n:Int)) w k):b7 a (Δ 0) w B:=by
 refine⟨λa t w=>∃i:Nat,t=Δ (i:Int)/\i<=n/\e i a w,λa t _=>n-(bZ t).toNat,⟨0,T,W0 _,j⟩,?_⟩;rintro a _ w ⟨i,rfl,hi,h⟩;by_cases f:i<n
 .refine p i a w _ f h λa' I aW=>⟨⟨i+1,?_,f,aW⟩,?_⟩
  .rw[m1 Ω Ω];rfl
  .rw[m1 Ω Ω];simp only[bZ];omega
 .have:i=n:=Ω
  subst this;exact q a w _ h
def kS.range{a b:x4}{B:x4->x4->x4->x6->(x4->x4->x4->x6->Prop)->Prop}(n:Nat)(e:Nat->x4->x4->x6->Prop)(s:n<=9223372036854775807)(p:e 0 a b w)(q:∀(i:Nat)(a b:x4)(w:x6)(k:x4->x4->x4->x6->Prop),i<n->e i a b w->(∀a' f I,e (i+1) a' f I->k a' f (Δ (W5.wrap ((i:Int)+1))) I)->B a b (Δ (i:Int)) w k)(r:∀(a b:x4)(w:x6)(k:x4->x4->x4->x6->Prop),e n a b w->B a b (Δ (n:Int)) w k):kS a b (Δ 0) w B:=by
 refine⟨λa b t w=>∃i:Nat,t=Δ (i:Int)/\i<=n/\e i a b w,λa b t _=>n-(bZ t).toNat,⟨0,T,W0 _,p⟩,?_⟩;rintro a b _ w ⟨i,rfl,hi,h⟩;by_cases j:i<n
 .refine q i a b w _ j h λa' f I aW=>⟨⟨i+1,?_,j,aW⟩,?_⟩
  .rw[m1 Ω Ω];rfl
  .rw[m1 Ω Ω];simp only[bZ];omega
 .have:i=n:=Ω
  subst this;exact r a b w _ h
def q3.range{a b c:x4}{B:x4->x4->x4->x4->x6->(x4->x4->x4->x4->x6->Prop)->Prop}(n:Nat)(e:Nat->x4->x4->x4->x6->Prop)(x:n<=9223372036854775807)(q:e 0 a b c w)(r:∀(i:Nat)(a b c:x4)(w:x6)(k:x4->x4->x4->x4->x6->Prop),i<n->e i a b c w->(∀a' f j I,e (i+1) a' f j I->k a' f j (Δ (W5.wrap ((i:Int)+1))) I)->B a b c (Δ (i:Int)) w k)(s:∀(a b c:x4)(w:x6)(k:x4->x4->x4->x4->x6->Prop),e n a b c w->B a b c (Δ (n:Int)) w k):q3 a b c (Δ 0) w B:=by
 refine⟨λa b c t w=>∃i:Nat,t=Δ (i:Int)/\i<=n/\e i a b c w,λa b c t _=>n-(bZ t).toNat,⟨0,T,W0 _,q⟩,?_⟩;rintro a b c _ w ⟨i,rfl,hi,h⟩;by_cases p:i<n
 .refine r i a b c w _ p h λa' f j I aW=>⟨⟨i+1,?_,p,aW⟩,?_⟩
  .rw[m1 Ω Ω];rfl
  .rw[m1 Ω Ω];simp only[bZ];omega
 .have:i=n:=Ω
  subst this;exact s a b c w _ h
def q4.range{a b c d:x4}{B:x4->x4->x4->x4->x4->x6->(x4->x4->x4->x4->x4->x6->Prop)->Prop}(n:Nat)(e:Nat->x4->x4->x4->x4->x6->Prop)(y:n<=9223372036854775807)(r:e 0 a b c d w)(s:∀(i:Nat)(a b c d:x4)(w:x6)(k:x4->x4->x4->x4->x4->x6->Prop),i<n->e i a b c d w->(∀a' f j p I,e (i+1) a' f j p I->k a' f j p (Δ (W5.wrap ((i:Int)+1))) I)->B a b c d (Δ (i:Int)) w k)(x:∀(a b c d:x4)(w:x6)(k:x4->x4->x4->x4->x4->x6->Prop),e n a b c d w->B a b c d (Δ (n:Int)) w k):q4 a b c d (Δ 0) w B:=by
 refine⟨λa b c d t w=>∃i:Nat,t=Δ (i:Int)/\i<=n/\e i a b c d w,λa b c d t _=>n-(bZ t).toNat,⟨0,T,W0 _,r⟩,?_⟩;rintro a b c d _ w ⟨i,rfl,hi,h⟩;by_cases q:i<n
 .refine s i a b c d w _ q h λa' f j p I aW=>⟨⟨i+1,?_,q,aW⟩,?_⟩
  .rw[m1 Ω Ω];rfl
  .rw[m1 Ω Ω];simp only[bZ];omega
 .have:i=n:=Ω
  subst this;exact x a b c d w _ h
section
variable{P:V5}{w:x6}{m:Bool}{S R:ah}
def K4(l:Λ):(l.map λx=>[U3 k x]).flatten=ints k l:=by
 induction l with
 |nil=>rfl
 |cons x l a=>simp only[T3,List.flatten_cons,a];rfl
def mj{g:Nat}(h:aB .i64 e w g v l):bs (λr=>r=g) R w [v] l:=by
 have j:(l.map λx=>[U3 .i64 x]).flatten=ints .i64 l:=K4 l;refine⟨v,T,l.map λx=>[Δ x],g,λ_ _=>False,⟨λ_ _ h=>h.elim,λ_ _ h=>h,λ_ _ _ _ _ h=>h.elim⟩,⟨Ξ,λi c a f p=>?_⟩,?_,λ_=>⟨.inr T,e,?_⟩⟩
 .rw[u4,p]at f;simp at f;exact f.symm
 .rw[j];exact pc h (.inr (.inl T))
 .rw[j];exact h
def np.val(x:np k):Int:=x
def Bl(h:bs S R w [v] l):∃g e,aB .i64 e w g v l/\(v= .slice ν 0 0\/S g):=by
 obtain⟨vs,g,F,_,he,J,hm⟩:=jA h;obtain⟨h1,e,a⟩:=hm T;rw[Bh he]at a;exact⟨g,e,a,h1⟩
end
end Go.Vc
namespace Go.Proofs.YtnhkbjhpbbobaaaGreatDoor
open Go Go.Vc Go.RowKit Go.Proofs Go.Proofs.Tryz
set_option maxRecDepth 100000
def right(k:Int):Prop:=1<=k/\k<=2147483648
def cG(a k:Int):Prop:=right k/\0<=a/\a<=k
instance (k:Int):Decidable (right k):=by unfold right;infer_instance
instance (a k:Int):Decidable (cG a k):=by unfold cG;infer_instance
def Bm{k:Int}:ak v8 Ke [Δ k] w λv I=>v= .bool (decide (right k))/\Ext w I:=by
 refine az func229 ?_;simp only[cB,cP,mf,al];refine⟨λh=>⟨?_,Ext.refl _⟩,λh=>⟨?_,Ext.refl _⟩⟩
 .congr 1;simp[right,h]
 .rw[s2];intro a;exact h a.1
def k0{k:Int}:ak v8 J4 [Δ a,Δ k] w λv I=>v= .bool (decide (cG a k))/\Ext w I:=by
 refine az func212 ?_;simp only[cB];refine Bm.Y ?_;rintro _ U _ ⟨rfl,e⟩;simp only[cP,mf,al];refine⟨λh=>⟨λf=>⟨?_,e⟩,λf=>⟨?_,e⟩⟩,λh=>⟨?_,e⟩⟩
 .congr 1;simp[cG,h,f]
 .rw[s2];intro j;exact f j.2.1
 .rw[s2];intro j;exact h j.1
def K5{k:Int}:ak v8 J2 [Δ k] w λv I=>v= .bool (decide (right k))/\Ext w I:=by
 refine az func210 ?_;simp only[cB,bP,mf,al];refine⟨λh=>⟨?_,Ext.refl _⟩,λh=>⟨?_,Ext.refl _⟩⟩
 .congr 1;have aW:1<=k:=Ω
  simp[right,aW]
 .rw[s2];intro a;have:=a.1;omega
def Bn{k:Int}:ak v8 Jc [Δ a,Δ k] w λv I=>v= .bool (decide (cG a k))/\Ext w I:=by
 refine az func141 ?_;simp only[cB];refine K5.Y ?_;rintro _ U _ ⟨rfl,e⟩;simp only[cP,mf,al];refine⟨λh=>⟨λf=>⟨?_,e⟩,λf=>⟨?_,e⟩⟩,λh=>⟨?_,e⟩⟩
 .congr 1;simp[cG,h,f]
 .rw[s2];intro j;exact f j.2.1
 .rw[s2];intro j;exact h j.1
def aQ:Λ->Int
 |[]=>1
 |x::r=>x*aQ r
theorem Bo:∀(a b:Λ),aQ (a++b)=aQ a*aQ b
 |[],b=>by simp[aQ]
 |x::a,b=>by simp[aQ,Bo a b,Int.mul_assoc]
def qb{i:Nat}{x:Int}(h:l[i]?=σ x):aQ (l.take (i+1))=aQ (l.take i)*x:=by
 rw[r9,h,Bo];simp[aQ]
def ci(l:Λ):Prop:=l.length<=6/\∀x∈l,1<=x/\x<=32
def ci.take(h:ci l)(i:Nat):ci (l.take i):=⟨by rw[o8];have:=h.1;omega,λx a=>h.2 x (T1 a)⟩
def ci.drop(h:ci l)(i:Nat):ci (l.drop i):=⟨by rw[List.length_drop];have:=h.1;omega,λx a=>h.2 x (List.mem_of_mem_drop a)⟩
theorem ml:∀(l:Λ),(∀x∈l,1<=x/\x<=32)->1<=aQ l/\aQ l<=32 ^ l.length
 |[],_=>by simp[aQ]
 |x::r,h=>by
  obtain⟨h1,a⟩:=ml r λy e=>h y (.tail _ e);obtain⟨f,j⟩:=h x (.head _);simp only[aQ,Y1];constructor
  .have:=Int.mul_le_mul f h1 Ω Ω;simpa using this
  .have:=Int.mul_le_mul j a Ω Ω;rw[Int.pow_succ];rw[Int.mul_comm (32 ^ r.length) 32];exact this
def prod_bound(h:ci l):1<=aQ l/\aQ l<=1073741824:=by
 obtain⟨h1,a⟩:=ml l h.2;refine⟨h1,Int.le_trans a ?_⟩;have:(32:Int) ^ l.length<=32 ^ 6:=by
  have e:=h.1
  match l.length,e with
  |0,_=>decide
  |1,_=>decide
  |2,_=>decide
  |3,_=>decide
  |4,_=>decide
  |5,_=>decide
  |6,_=>decide
 simpa using this
def cj:Λ->Λ->Int->Option Int
 |[],[],n=>σ n
 |k::s,v::t,n=>if 0<=v/\v<k then cj s t (n*k+v)else ν
 |_,_,_=>ν
theorem wN:∀(s t:Λ)(n:Int),s.length≠t.length->cj s t n=ν
 |[],[],_,h=>ro T h
 |[],_::_,_,_=>rfl
 |_::_,[],_,_=>rfl
 |k::s,v::t,n,h=>by
  unfold cj;split
  .exact wN s t _ (by simpa using h)
  .rfl
def dr:Λ->Int->Λ
 |[],_=>[]
 |k::s,n=>(n / aQ s) % k::dr s n
theorem kw:∀(s:Λ)(n:Int),(dr s n).length=s.length
 |[],_=>rfl
 |_::s,n=>by simp[dr,kw s n]
theorem Bp:∀{s:Λ}{n:Int}{i:Nat}{k:Int},s[i]?=σ k->(dr s n)[i]?=σ ((n / aQ (s.drop (i+1))) % k)
 |a::s,n,0,k,h=>by simp at h;subst h;simp[dr]
 |a::s,n,i+1,k,h=>by
  simp only[List.getElem?_cons_succ]at h;simp only[dr,List.getElem?_cons_succ,List.drop_succ_cons];exact Bp h
theorem mm:∀{s t:Λ}{m n:Int},(∀x∈s,1<=x/\x<=32)->cj s t m=σ n->m*aQ s<=n/\n<(m+1)*aQ s
 |[],[],m,n,_,h=>by simp[cj]at h;subst h;simp[aQ];omega
 |k::s,v::t,m,n,J,h=>by
  unfold cj at h;split at h
  .rename_i p;have e:=mm (λx a=>J x (.tail _ a)) h;have:=(ml s λx a=>J x (.tail _ a)).1;simp only[aQ];have f:m*(k*aQ s)=m*k*aQ s:=(Int.mul_assoc _ _ _).symm;have j:(m+1)*(k*aQ s)=(m*k+k)*aQ s:=by rw[<-Int.mul_assoc,Int.add_mul,Int.one_mul]
   rw[f,j];constructor
   .refine Int.le_trans ?_ e.1;exact Int.mul_le_mul_of_nonneg_right Ω Ω
   .refine Int.lt_of_lt_of_le e.2 ?_;exact Int.mul_le_mul_of_nonneg_right Ω Ω
  .cases h
 |[],_::_,_,_,_,h=>by cases h
 |_::_,[],_,_,_,h=>by cases h
def br:Λ->List (Λ)
 |[]=>[[]]
 |k::s=>(X9 k.toNat).flatMap λ(v:Nat)=>(br s).map λt=>(v:Int)::t
theorem j1:∀{s:Λ},(∀x∈s,1<=x/\x<=32)->(br s).length=(aQ s).toNat
 |[],_=>rfl
 |k::s,h=>by
  have e:=j1 λx a=>h x (.tail _ a);have:=h k (.head _);have:=(ml s λx a=>h x (.tail _ a)).1;simp only[br,aQ,List.length_flatMap,r8,e];rw[List.map_const',List.length_range,List.sum_replicate_nat,Int.toNat_mul Ω Ω]
theorem tC:∀{s x:Λ},x∈br s->x.length=s.length
 |[],x,h=>by simp[br]at h;subst h;rfl
 |k::s,x,h=>by
  simp only[br,List.mem_flatMap,j5]at h;obtain⟨v,_,t,a,rfl⟩:=h;simp[tC a]
def wO{s x:Λ}(h:(br s)[j]?=σ x):x.length=s.length:=tC (x7 h)
def qc(h:aM .i64 w sv l)(J:ci l):
  ak v8 IP [.agg #[sv]] w λv I=>v=Δ (aQ l)/\Ext w I:=by
 refine az func96 ?_;refine bn λg w0 q f j=>?_;rw[aJ bH.p 0 j T,a1 an.u (h.W f)];refine⟨λn t U=>Ext w U/\∃i:Nat,t=Δ i/\i<=l.length/\n=Δ (aQ (l.take i)),λ_ t _=>l.length-(bZ t).toNat,⟨f,0,T,W0 _,T⟩,?_⟩;rintro _ _ U ⟨a,i,rfl,hi,rfl⟩;have r:=J.1;simp only[aT,al];refine⟨λs=>?_,λy=>⟨?_,a⟩⟩
 .obtain⟨x,e⟩:=aD (l:=l) (i:=i) Ω;rw[bh an.u ai.i Ψ (h.W a) e];have ac:=prod_bound (J.take (i+1));rw[qb e]at ac;simp only[fB,aO];rw[m1 Ω Ω,m1 Ω Ω,<-qb e];refine⟨⟨a,i+1,T,Ω,T⟩,?_⟩;simp only[bZ];omega
 .have:i=l.length:=Ω
  rw[this,o9]
def K6{i:Nat}(h:aM .i64 w sv l)(J:ci l)(hi:i<l.length):
  ak v8 Js [.agg #[sv],Δ i] w λv I=>v=Δ (aQ (l.drop (i+1)))/\Ext w I:=by
 have:=J.1;refine az func160 ?_;refine bn λg w0 B e f=>?_;have a:=h.W e;simp only[cB,aT,al];refine⟨λC=>Ω,λ_=>?_⟩;rw[aJ bH.p 0 f T,a1 an.u a];simp only[cP,al];refine⟨λE=>Ω,λ_=>?_⟩;rw[aJ bH.p 0 f T];simp only[aO];have j:W5.wrap ((i:Int)+1)=((i+1:Nat):Int):=by rw[m1 Ω Ω];omega
 rw[j];have r:=a;obtain⟨_,b,o,base,cap,rfl,G,H,K,L⟩:=id a;rw[ip an.u ai.i rm kY fo Ω Ω Ω];have ac:=cg.part (l:=i+1) (h:=l.length) (m:=cap) r Ω Ω Ω Ω;generalize s:(x4.slice (if cap=i+1 then base else U8 (λx=>x.add ((i+1)*1)) base) (l.length-(i+1)) (cap-(i+1)))=q at ac ⊢;have y:((ints .i64 l).drop ((i+1)*1)).take ((l.length-(i+1))*1)=ints .i64 (l.drop (i+1)):=by
  rw[b9 Ξ,T0,ints,<-List.map_drop]
 rw[y]at ac;rw[dk (cs:=#[q]) (by subst s;kernel_rfl)];refine(qc (aM.of ac) (J.drop (i+1))).Y ?_;rintro _ V _ ⟨rfl,z⟩;exact⟨T,e.F z⟩
def mn(s t:Λ):x4:=match cj s t 0 with
 |some n=>.tuple #[Δ n,Δ 0]
 |none=>.tuple #[Δ 0,Δ 3]
def Bq{s t:Λ}(h:aM .i64 w sv s)(q:aM .i64 w aV t)(J:ci s):
  ak v8 Jq [.agg #[sv],aV] w λv I=>v=mn s t/\Ext w I:=by
 have H:=J.1;refine az func157 ?_;refine bn λg w0 K e r=>?_;rw[a1 an.u (q.W e),aJ bH.p 0 r T,a1 an.u (h.W e)];simp only[bK,al];refine⟨λL=>⟨?_,e⟩,λz=>?_⟩
 .unfold mn;rw[wN _ _ _ Ω]
 .have z:s.length=t.length:=Ω
  rw[a1 an.u (q.W e)];refine⟨λ_ _ n c U=>Ext w0 U/\∃(i:Nat)(m:Int),c=Δ i/\i<=t.length/\n=Δ m/\0<=m/\m<aQ (s.take i)/\cj s t 0=cj (s.drop i) (t.drop i) m,λ_ _ _ c _=>t.length-(bZ c).toNat,
   ⟨Ext.refl _,0,0,T,W0 _,T,S9 _,by simp[aQ],T⟩,?_⟩
  rintro _ _ _ _ U ⟨j,i,m,rfl,hi,rfl,A,M,f⟩;have a:=e.F j;simp only[aT,al];refine⟨λN=>?_,λO=>⟨?_,a⟩⟩
  .obtain⟨v,B,C⟩:∃v,t[i]?=σ v/\t.drop i=v::t.drop (i+1):=⟨t[i],x8 Ω,W3 Ω⟩;obtain⟨k,hk,E⟩:∃k,s[i]?=σ k/\s.drop i=k::s.drop (i+1):=⟨s[i],x8 Ω,W3 Ω⟩;rw[C,E]at f;have ac:=prod_bound (J.take (i+1));have P:=prod_bound (J.take i);have Q:=J.2 k (x7 hk);rw[qb hk]at ac;have y:¬(0<=v/\v<k)->mn s t= .tuple #[Δ 0,Δ 3]:=λG=>by unfold mn;rw[f];simp[cj,G]
   rw[bh an.u ai.i Ψ (q.W a) B];simp only[cB,aT,al,bO];refine⟨λR=>⟨(y Ω).symm,a⟩,λS=>?_⟩;rw[aJ bH.p 0 (r.W j) T,bh an.u ai.i Ψ (h.W a) hk];simp only[cP,al];refine⟨λV=>⟨(y Ω).symm,a⟩,λW=>?_⟩;rw[aJ bH.p 0 (r.W j) T,bh an.u ai.i Ψ (h.W a) hk];have X:0<=m*k/\m*k+k<=aQ (s.take i)*k:=by
    constructor
    .exact Int.mul_nonneg A Ω
    .have:=Int.mul_le_mul_of_nonneg_right (show m+1<=aQ (s.take i) by omega) (show 0<=k by omega);rw[Int.add_mul,Int.one_mul]at this;exact this
   simp only[fB,aO];rw[m1 (x:=m*k) Ω Ω,m1 (x:=m*k+v) Ω Ω,m1 Ω Ω];refine⟨⟨j,i+1,m*k+v,T,Ω,T,Ω,by rw[qb hk];omega,?_⟩,?_⟩
   .rw[f];simp[cj,show 0<=v/\v<k from⟨Ω,Ω⟩]
   .simp only[bZ];omega
  .have:i=t.length:=Ω
   rw[this,List.drop_of_length_le Ω,List.drop_of_length_le Ω]at f;unfold mn;rw[f];rfl
def K7{e:Nat}{a b:Λ}(h1:cg w 1 s1 e (ints .i64 a))(A:cg w 1 z j (ints .i64 b)):
  ak v8 AO [s1,z] w λv I=>v= .bool (decide (a=b))/\Ext w I:=by
 have P:a.length=e:=by simpa using h1.1
 have Q:b.length=j:=by simpa using A.1
 have B:=h1.le;obtain⟨_,R,S,W,X,rfl,Y,Z,G,H⟩:=h1;obtain⟨_,aa,ab,ac,ad,rfl,ae,af,J,K⟩:=A;refine az func186 ?_;simp only[jd an.u,bK,al];refine⟨λC=>⟨?_,Ext.refl _⟩,λE=>?_⟩
 .rw[s2];rintro rfl;omega
 .have E:e=j:=Ω
  refine⟨λt4 p U=>Ext w U/\∃i:Nat,p=Δ i/\i<=e/\a.take i=b.take i,λ_ p _=>e-(bZ p).toNat,⟨Ext.refl _,0,T,W0 _,T⟩,?_⟩;rintro t4 _ U ⟨f,i,rfl,hi,q⟩;simp only[aT,al,en];refine⟨λr V L _ _=>?_,λag=>⟨?_,f⟩⟩
  .have r:i<e:=Ω
   have f:=f.F L;obtain⟨x,s⟩:=aD (l:=a) (i:=i) Ω;obtain⟨y,h⟩:=aD (l:=b) (i:=i) Ω;have M:=jX f (H i _ (mh s));have N:=jX f (K i _ (mh h));rw[eT an.u ai.i r G,T0,aF Ψ M,eT an.u ai.i (E▸r) J,T0,aF Ψ N];simp only[bK,al,aO];refine⟨λC=>⟨?_,f⟩,λah=>⟨⟨f,i+1,?_,Ω,wL q s h Ω⟩,?_⟩⟩
   .rw[s2];rintro rfl;rw[s]at h;cases h;exact C T
   .rw[m1 Ω (by simp only[maxLen]at B;omega)];rfl
   .rw[m1 Ω (by simp only[maxLen]at B;omega)];simp only[bZ];omega
  .have O:i=e:=Ω
   subst O;rw[rs];rw[b9 Ω,b9 Ω]at q;exact q
def K8{s:x4}{a:Λ}(h1:cg w 1 s n (ints .i64 a))(B:n<=1000000):
  ak v8 AA [s] w λv I=>Ext w I/\∃g,w.heap.size<=g/\b2 I g ai 1 v n (ints .i64 a):=by
 have j:=h1;obtain⟨p,C,E,G,H,rfl,J,K,q,L⟩:=h1;refine az func88 ?_;simp only[p9 an.u,cb];refine⟨λf=>⟨Ext.refl _,w.heap.size,o4 _,?_⟩,λ_=>?_⟩
 .have:n=0:=by
   rcases Q9 n with h|h
   .exact h
   .rw[q h]at f;cases f
  subst this;have:ints .i64 a=[]:=Z2 (by simpa using p);rw[this];exact b2.nil _ _ _ _
 .refine kZ an.u ai.i Ω (cs:=#[]) Ψ ?_;intro g U M e x;refine o3 an.u an.u ai.i T (b2.full x T Ω) (j.W e) (rn _ _) Ω (by simp only[maxLen];omega) ?_;intro N y V O z A;refine⟨e.then A (by rintro r P rfl;omega),y,?_,?_⟩
  .have:=e.size;omega
  .simpa using z
def K9{e:Nat}{a b:Λ}(h1:cg w 1 s1 e (ints .i64 a))(A:cg w 1 z j (ints .i64 b)):
  ak v8 Aq [s1,z] w λv I=>v= .bool (decide (a=b))/\Ext w I:=by
 have P:a.length=e:=by simpa using h1.1
 have Q:b.length=j:=by simpa using A.1
 have B:=h1.le;obtain⟨_,R,S,W,X,rfl,Y,Z,G,H⟩:=h1;obtain⟨_,aa,ab,ac,ad,rfl,ae,af,J,K⟩:=A;refine az func21 ?_;simp only[jd aw.u,bK,al];refine⟨λC=>⟨?_,Ext.refl _⟩,λE=>?_⟩
 .rw[s2];rintro rfl;omega
 .have E:e=j:=Ω
  refine⟨λt4 p U=>Ext w U/\∃i:Nat,p=Δ i/\i<=e/\a.take i=b.take i,λ_ p _=>e-(bZ p).toNat,⟨Ext.refl _,0,T,W0 _,T⟩,?_⟩;rintro t4 _ U ⟨f,i,rfl,hi,q⟩;simp only[aT,al,en];refine⟨λr V L _ _=>?_,λag=>⟨?_,f⟩⟩
  .have r:i<e:=Ω
   have f:=f.F L;obtain⟨x,s⟩:=aD (l:=a) (i:=i) Ω;obtain⟨y,h⟩:=aD (l:=b) (i:=i) Ω;have M:=jX f (H i _ (mh s));have N:=jX f (K i _ (mh h));rw[eT aw.u av.i r G,T0,aF Ψ M,eT aw.u av.i (E▸r) J,T0,aF Ψ N];simp only[bK,al,aO];refine⟨λC=>⟨?_,f⟩,λah=>⟨⟨f,i+1,?_,Ω,wL q s h Ω⟩,?_⟩⟩
   .rw[s2];rintro rfl;rw[s]at h;cases h;exact C T
   .rw[m1 Ω (by simp only[maxLen]at B;omega)];rfl
   .rw[m1 Ω (by simp only[maxLen]at B;omega)];simp only[bZ];omega
  .have O:i=e:=Ω
   subst O;rw[rs];rw[b9 Ω,b9 Ω]at q;exact q
def La{s:x4}{a:Λ}(h1:cg w 1 s n (ints .i64 a))(B:n<=1000000):
  ak v8 AQ [s] w λv I=>Ext w I/\∃g,w.heap.size<=g/\b2 I g av 1 v n (ints .i64 a):=by
 have j:=h1;obtain⟨p,C,E,G,H,rfl,J,K,q,L⟩:=h1;refine az func201 ?_;simp only[p9 aw.u,cb];refine⟨λf=>⟨Ext.refl _,w.heap.size,o4 _,?_⟩,λ_=>?_⟩
 .have:n=0:=by
   rcases Q9 n with h|h
   .exact h
   .rw[q h]at f;cases f
  subst this;have:ints .i64 a=[]:=Z2 (by simpa using p);rw[this];exact b2.nil _ _ _ _
 .refine kZ aw.u av.i Ω (cs:=#[]) Ψ ?_;intro g U M e x;refine o3 aw.u aw.u av.i T (b2.full x T Ω) (j.W e) (rn _ _) Ω (by simp only[maxLen];omega) ?_;intro N y V O z A;refine⟨e.then A (by rintro r P rfl;omega),y,?_,?_⟩
  .have:=e.size;omega
  .simpa using z
def Lb{e:x4}{a b:Λ}(h1:aM .i64 w s1 a)(f:aM .i64 w e b):
  ak v8 AO [s1,e] w λv I=>v= .bool (decide (a=b))/\Ext w I:=K7 h1 f
def k1{s:x4}{a:Λ}(h1:aM .i64 w s a)(e:a.length<=1000000):
  ak v8 AA [s] w λv I=>Ext w I/\∃g,w.heap.size<=g/\aB .i64 ai I g v a:=K8 h1 e
def Lc{e:x4}{a b:Λ}(h1:aM .i64 w s1 a)(f:aM .i64 w e b):
  ak v8 Aq [s1,e] w λv I=>v= .bool (decide (a=b))/\Ext w I:=K9 h1 f
def wP{s:x4}{a:Λ}(h1:aM .i64 w s a)(e:a.length<=1000000):
  ak v8 AQ [s] w λv I=>Ext w I/\∃g,w.heap.size<=g/\aB .i64 av I g v a:=La h1 e
def Ld{n:Int}(h:aM .i64 w sv l)(J:ci l)(x:0<=n)(Y:n<aQ l):
  ak v8 IQ [.agg #[sv],Δ n] w λv I=>Ext w I/\∃aV g,v= .tuple #[aV,Δ 0]/\w.heap.size<=g/\aB .i64 ai I g aV (dr l n):=by
 have:=J.1;have:=prod_bound J;refine az func97 ?_;refine bn λg w0 ab y a=>?_;have:=h.cells;simp only[cB,aT,al];refine⟨λad=>Ω,λ_=>?_⟩;rw[bz bH.p bH.i T a.range];refine(qc (h.W y) J).Y ?_;rintro _ U _ ⟨rfl,f⟩;simp only[cP,al];refine⟨λae=>Ω,λ_=>?_⟩;have j:=y.F f;rw[aJ bH.p 0 (a.W f) T,a1 an.u (h.W j)];refine ku an.u ai.i Ω Ω ?_;intro E V af z L;simp only[jd an.u];have M:=j.F z;have:=y.size;have:=f.size;have:=a.lt;refine⟨λt q=>Ext w q/\Ext w0 q/\∃i:Nat,t=Δ i/\i<=l.length/\ag q E ai (ints .i64 ((dr l n).take i++o6 (l.length-i) 0)),λt _=>l.length-(bZ t).toNat,
  ⟨M,f.F z,0,T,W0 _,by simpa using L⟩,?_⟩
 rintro _ q ⟨A,B,i,rfl,hi,G⟩;simp only[aT,al];refine⟨λC=>?_,λaj=>?_⟩
 .have C:i<l.length:=Ω
  rw[bz bH.p bH.i T (a.W B).range];refine(K6 (h.W A) J C).Y ?_;rintro _ am _ ⟨rfl,N⟩;simp only[en];intro ao O _ _;have s:=N.F O;have H:=A.F s;obtain⟨k,hk⟩:∃k,l[i]?=σ k:=⟨l[i],x8 Ω⟩;have:=J.2 k (x7 hk);have:=prod_bound (J.drop (i+1));have P:0<=n / aQ (l.drop (i+1)):=Int.ediv_nonneg x Ω;have au:n / aQ (l.drop (i+1))<=n:=Int.ediv_le_self _ x;rw[nU Ω,Int.tdiv_eq_ediv_of_nonneg x,m1 Ω Ω,
   aJ bH.p 0 ((a.W B).W s) T,bh an.u ai.i Ψ (h.W H) hk,
   rl Ω,Int.tmod_eq_emod_of_nonneg P,eT an.u ai.i C (λ_=>rfl),T0]
  refine bu ai.i T rfl (G.W s) (by simp[kw];omega) ?_;intro av K aw Q;simp only[aO];rw[m1 Ω Ω];have:=z.size;have:=j.size;refine⟨⟨H.then K (by rintro r R rfl;omega),(B.F s).then K (by rintro r R rfl;omega),i+1,T,Ω,?_⟩,?_⟩
  .have S:=Bp (n:=n) hk;have e:(ints .i64 ((dr l n).take i++o6 (l.length-i) 0)).set (0+i) (Δ (n / aQ (l.drop (i+1)) % k))=ints .i64 ((dr l n).take (i+1)++o6 (l.length-(i+1)) 0):=by
    have W:((dr l n).take i).length=i:=by rw[o8,kw];omega
    rw[X6,ints,<-T2];congr 1;rw[List.set_append,rc Ω,W,V0,show l.length-i=(l.length-(i+1))+1 by omega,List.replicate_succ,List.set_cons_zero,r9,S];simp
   rw[<-e];exact Q
  .simp only[bZ];omega
 .have X:i=l.length:=Ω
  subst X;refine⟨A,_,E,T,by have:=j.size;omega,aB.of (b2.full ?_ (by simp[ints,kw]) (by simp[maxLen];omega))⟩;have e:(dr l n).take l.length++o6 (l.length-l.length) 0=dr l n:=by rw[V0,b9 (by rw[kw];omega)];simp
  rw[<-e];exact G
def jC(x:Int):Prop:=1<=x/\x<=32
instance (x:Int):Decidable (jC x):=by unfold jC;infer_instance
def Le{x:Int}:ak v8 tu [Δ x] w λv I=>v= .bool (decide (¬jC x))/\Ext w I:=by
 refine az func285 ?_;simp only[cB,aT,bP,al];refine⟨λh=>⟨?_,Ext.refl _⟩,λh=>⟨?_,Ext.refl _⟩⟩
 .rw[rs];intro a;have:=a.1;omega
 .congr 1;have:(32<x)=(¬jC x):=propext ⟨λe a=>by have:=a.2;omega,λe=>by
   by_cases f:32<x
   .exact f
   .exact ro ⟨Ω,Ω⟩ e⟩
  simp only[this]
def Lf(h:aM .i64 w sv l):
  ak v8 wx [sv,.func (.func tu) #[] #[]] w λv I=>Ext w I/\∃n:Int,v=Δ n/\((0<=n)=¬∀x∈l,jC x):=by
 have z:=h.le;refine az func139 ?_;rw[a1 an.u h];refine⟨λ_ t U=>Ext w U/\∃i:Nat,t=Δ i/\i<=l.length/\∀x∈l.take i,jC x,λ_ t _=>l.length-(bZ t).toNat,⟨Ext.refl _,0,T,W0 _,Ξ⟩,?_⟩;rintro _ _ U ⟨e,i,rfl,hi,f⟩;simp only[aT,al];refine⟨λA=>?_,λB=>⟨e,-1,T,?_⟩⟩
 .obtain⟨x,j⟩:=aD (l:=l) (i:=i) Ω;rw[bh an.u ai.i Ψ (h.W e) j];show ak v8 tu [Δ x] U _;refine Le.Y ?_;rintro _ V _ ⟨rfl,p⟩;simp only[al,aO];refine⟨λq=>⟨e.F p,i,T,?_⟩,λr=>?_⟩
  .exact propext ⟨λ_ s=>q (s x (x7 j)),λ_=>Ω⟩
  .rw[m1 Ω Ω];refine⟨⟨e.F p,i+1,T,Ω,λy a=>?_⟩,?_⟩
   .rw[r9,j]at a;rcases j9.1 a with a|a
    .exact f y a
    .simp at a;subst a;exact X5.1 r
   .simp only[bZ];omega
 .have:i=l.length:=Ω
  rw[this,o9]at f;exact propext ⟨λh=>Ω,λh=>ro f h⟩
def Lg(h:aM .i64 w sv l):
  ak v8 wA [sv,.func (.func tu) #[] #[]] w λv I=>v= .bool (decide (¬∀x∈l,jC x))/\Ext w I:=by
 refine az func225 ?_;refine(Lf h).Y ?_;rintro _ U _ ⟨a,n,rfl,e⟩;simp only[cP];exact⟨by congr 1;simp only[e],a⟩
def Lh(w:x6)(l:Λ)(v:x4)(I:x6):Prop:=
 Ext w I/\
   (¬ci l->v= .tuple #[.agg #[.slice ν 0 0],Δ 1])/\
   (ci l->4096<aQ l->v= .tuple #[.agg #[.slice ν 0 0],Δ 5])/\
   (ci l->aQ l<=4096->∃g aV,v= .tuple #[.agg #[aV],Δ 0]/\w.heap.size<=g/\aB .i64 ai I g aV l)
def Li(h:aM .i64 w sv l):ak v8 Kq [sv] w (Lh w l):=by
 refine az func251 ?_;refine bE bH.i λah U ai a q=>?_;have:=q.lt;refine aY (λv V=>Ext w V/\Ext U V/\∃c:Bool,v= .bool c/\((c=v2)=¬ci l)) ?_ ?_
 .rintro _ V ⟨s,x,c,rfl,G⟩;simp only[cb];refine⟨λS=>?_,λW=>?_⟩
  .have H:¬ci l:=by rw[<-G];exact S
   rw[dk (cs:=#[.slice ν 0 0]) Ψ];refine b1 (vs:=[.slice ν 0 0]) bH.i T rfl (by simp;rfl) (q.W x) ?_;intro am X ao Y;rw[fe bH.p bH.i T Y.range];exact⟨s.then X (by rintro r y rfl;omega),λ_=>rfl,λh=>ro h H,λh=>ro h H⟩
  .have e:ci l:=by
    have I:¬(c=v2):=by simp[W]
    rw[G]at I;exact Classical.not_not.1 I
   have:=e.1;refine(k1 (h.W s) Ω).Y ?_;rintro aV aq _ ⟨z,Z,au,hm⟩;have K:=hm.ls.cells;rw[dk (cs:=#[aV]) (by obtain⟨_,_,_,_,_,rfl,_⟩:=hm.ls;kernel_rfl)];refine bE bH.i λgs av aw A ab=>?_;refine b1 (vs:=[aV]) bH.i T rfl (by intro u hu;simp at hu;subst hu;exact K.2) ab ?_;intro ay L aA M;rw[bz bH.p bH.i T M.range];have:=z.size;have:=A.size;have:=x.size;have:=(A.aa _).F L;have B:=A.then L (by rintro r y rfl;omega);have ac:=(s.F z).F B;have N:=hm.W B;refine(qc N.ls e).Y ?_;rintro _ aF _ ⟨rfl,f⟩;have O:=ac.F f;have P:=q.W (((x.F z).F B).F f);simp only[bP,al];refine⟨λad=>?_,λae=>?_⟩
   .rw[dk (cs:=#[.slice ν 0 0]) Ψ];refine b1 (vs:=[.slice ν 0 0]) bH.i T rfl (by simp;rfl) P ?_;intro af j ag C;rw[fe bH.p bH.i T C.range];exact⟨O.then j (by rintro r y rfl;omega),λh=>ro e h,λ_ _=>rfl,λ_ h=>Ω⟩
   .rw[bz bH.p bH.i T (M.W f).range];refine b1 (vs:=[aV]) bH.i T rfl (by intro u hu;simp at hu;subst hu;exact K.2) P ?_;intro af j ag C;rw[fe bH.p bH.i T C.range];have:=a.size;exact⟨O.then j (by rintro r y rfl;omega),λh=>ro e h,λ_ h=>Ω,λ_ _=>⟨Z,aV,T,Ω,(N.W f).aa j Ω⟩⟩
 .intro ax Q;rw[a1 an.u (h.W a)];simp only[bP,al];refine⟨λad=>Q _ _ ⟨a,Ext.refl _,v2,T,?_⟩,λae=>?_⟩
  .exact propext ⟨λ_ J=>by have:=J.1;omega,λ_=>rfl⟩
  .refine (Lg (h.W a)).Y ?_;rintro _ V _ ⟨rfl,R⟩;refine Q _ _ ⟨a.F R,R,_,T,?_⟩;rw[sp];exact propext ⟨λE J=>E J.2,λE J=>E ⟨Ω,J⟩⟩
def wQ{P:V5}(f:0<=a)(h1:a<4294967296):
  ab P (aP .and t cx cy (.int .u64 a) (.int .u64 4294967295)) w K=K (.int .u64 a):=ab.of λI _=>by
 obtain⟨n,rfl⟩:=V3 f;have:n<4294967296:=Ω
 have e:(T8 64 (n:Int) &&& T8 64 4294967295).toNat=n:=by
  rw[BitVec.toNat_and,BitVec.toNat_ofInt,BitVec.toNat_ofInt];have h:((n:Int) % ((2 ^ 64:Nat):Int)).toNat=n:=Ω
  have j:((4294967295:Int) % ((2 ^ 64:Nat):Int)).toNat=2 ^ 32-1:=Φ
  rw[h,j,Nat.and_two_pow_sub_one_eq_mod];omega
 have p:(T8 T7.bits (n:Int) &&& T8 T7.bits 4294967295).toNat=n:=e;simp only[aP,eqGuard,binOp,Op.intBits,p];rw[m2 Ω Ω];rfl
def rq{P:V5}(f:0<=a)(h1:a<4294967296):
  ab P (aP .shr t cx cy (.int .u64 a) (.int .u64 32)) w K=K (.int .u64 0):=ab.of λI _=>by
 have e:a.fdiv (2 ^ min 32 T7.bits)=0:=by
  have:(2:Int) ^ min 32 T7.bits=4294967296:=rfl;rw[this,Int.fdiv_eq_ediv_of_nonneg _ Ω];omega
 simp[aP,eqGuard,binOp,Op.shift,e]
def Lj{x:Int}(e:0<=x/\x<65536)(a:0<=y/\y<65536):
  ak v8 KI [.int .u64 x,.int .u64 y] w λv I=>v= .tuple #[.int .u64 0,.int .u64 (x*y)]/\Ext w I:=by
 have h:0<=x*y/\x*y<4294967296:=⟨Int.mul_nonneg e.1 a.1,by
  have:x*y<=65535*65535:=Int.mul_le_mul Ω Ω a.1 Ω;omega⟩
 refine az func286 ?_;refine ak.Y (K:=λv I=>v= .tuple #[.int .u64 0,.int .u64 (x*y)]/\Ext w I) ?_ ?_
 .refine az func301 ?_;rw[wQ Ω Ω,rq Ω Ω,wQ Ω Ω,rq Ω Ω];simp only[fB,Int.zero_mul,Int.mul_zero];rw[m2 Ω Ω,show T7.wrap 0=0 from T,rq Ω Ω];simp only[aO,Int.add_zero];rw[show T7.wrap 0=0 from T,wQ Ω Ω,rq Ω Ω];simp only[fB,aO,Int.zero_mul,Int.mul_zero,Int.add_zero,show T7.wrap 0=0 from T];rw[rq Ω Ω];simp only[fB,aO,Int.add_zero,show T7.wrap 0=0 from T];exact⟨trivial,Ext.refl _⟩
 .rintro _ U _ ⟨rfl,f⟩;rw[bA,bB];exact⟨T,f⟩
def Br{dv:x4}{c:Int}(h:aM .i64 w dv [c])(X:n<65536):
  ak v8 Kr [dv,Δ n] w λv I=>Ext w I/\∃g,w.heap.size<=g/\aB .i64 av I g v (o6 n c):=by
 refine az func252 ?_;refine c8 (λU=>w=U) ?_ ?_
 .rintro _ rfl;rw[a1 aw.u h,fC ai.u p6.u,fC ai.u p6.u,m2 Ξ Ξ,m2 Ω Ω];refine(Lj Ξ Ω).Y ?_;rintro _ V _ ⟨rfl,x⟩;rw[bA,bB];have C:(([c].length:Int)*n)=(n:Int):=Ξ
  rw[C];refine c8 (λa=>V=a) ?_ ?_
  .rintro _ rfl;rw[fC p6.u ai.u,m1 Ω Ω];refine ku aw.u av.i Ω Ω ?_;intro g Y Z E G;have y:=x.F E;have aa:=x.size;refine Bd aw.u av.i G (λ_=>rfl) Ξ (h.W y) (rn _ _) ?_;intro ab H ad z;have J:=y.then H (by rintro r K rfl;omega);have st:over (ints .i64 (o6 n 0)) 0 ((ints .i64 [c]).take n)=ints .i64 (o6 (min 1 n) c++o6 (n-min 1 n) 0):=by
    rcases Q9 n with rfl|ac
    .simp[over]
    .rw[b9 Θ,nV Θ];have:min 1 n=1:=Ω
     simp[this,ints]
   rw[st]at z;refine⟨λt e=>Ext w e/\∃i:Nat,t=Δ i/\i<=n/\(0<n->0<i)/\ag e g av (ints .i64 (o6 i c++o6 (n-i) 0)),λt _=>n-(bZ t).toNat,
    ⟨J,min 1 n,Ξ,Ω,Ω,z⟩,?_⟩
   rintro _ e ⟨f,i,rfl,hi,ae,p⟩;simp only[jd aw.u,aT,al,en];refine⟨λL M q _ _=>?_,λaf=>?_⟩
   .have L:i<n:=Ω
    have A:=p.W q;rw[ip aw.u av.i rm kY fo Ω Ω Ω,
     ip aw.u av.i jZ o0 fo Ω Ω Ω]
    have N:cg M 1 (.slice (σ ⟨g,0,ν⟩) n n) n (ints .i64 (o6 i c++o6 (n-i) 0)):=(b2.full A (by simp<;>omega) (by simp[maxLen]<;>omega)).sl;have ac:=N.part (l:=0) (h:=i) (m:=n) Ω Ω Ω Ω;have O:((ints .i64 (o6 i c++o6 (n-i) 0)).drop (0*1)).take ((i-0)*1)=ints .i64 (o6 i c):=by
     simp[ints]
    rw[O]at ac;refine Bd aw.u av.i A (o:=i) (λ_=>?_) (by simp<;>omega) ac (rn _ _) ?_
    .rw[rc Ω];simp[T9]
    .intro ah P aj B;have am:=f.size;have an:=q.size;have Q:over (ints .i64 (o6 i c++o6 (n-i) 0)) i ((ints .i64 (o6 i c)).take (n-i))=ints .i64 (o6 (i+min i (n-i)) c++o6 (n-(i+min i (n-i))) 0):=by
      apply X0;intro j;rw[o1 _ _ _ (by simp[ints]<;>omega)];simp only[ints,Z4,List.map_replicate,List.getElem?_append,List.getElem?_take,List.getElem?_replicate,o8,List.length_replicate]
      repeat' split
      all_goals first|rfl|omega
     rw[Q]at B;have R:min (i-0) (n-i)=min i (n-i):=Ω
     simp only[aO,R];have S:W5.wrap ((i:Int)+((min i (n-i):Nat):Int))=((i+min i (n-i):Nat):Int):=by rw[m1 Ω Ω];omega
     rw[S];refine⟨⟨(f.F q).then P (by rintro r K rfl;omega),_,T,Ω,Ω,B⟩,?_⟩;simp only[bZ,u9];omega
   .have:i=n:=Ω
    subst this;rw[V0,List.replicate_zero,U2]at p;exact⟨f,g,Ω,aB.of (b2.full p Ξ (by simp[maxLen];omega))⟩
  .intro ax s;refine aY (λv a=>v= .bool v6/\V=a) ?_ ?_
   .rintro _ _ ⟨rfl,rfl⟩;rw[a7];exact s _ T
   .intro ao W;simp only[bP,al];refine⟨λh=>Ω,λ_=>W _ _ ⟨?_,T⟩⟩;rw[s2];omega
 .intro ax s;simp only[aT,al];exact⟨λh=>Ω,λ_=>s _ T⟩
def lw(v:x4)(r:Nat):Prop:=∃a n c,v= .slice (σ a) n c/\a.block=r
def bW{g:Nat}(h:aB k e w g v l){r:Nat}(f:lw v r):r=g/\g<w.heap.size:=by
 obtain⟨a,n,c,rfl,rfl⟩:=f;obtain⟨_,⟨h,_⟩|⟨cap,cs,h,j,_⟩⟩:=h
 .cases h
 .cases h;exact⟨T,j.lt⟩
def bw{g:Nat}(h:aB k e w g v l)(a:af S w I)(f:∀r,lw v r->¬S r):aB k e I g v l:=by
 refine⟨h.1,h.2.imp id λ⟨cap,cs,h1,j,p⟩=>⟨cap,cs,h1,j.aa a (f g ⟨_,_,_,h1,T⟩),p⟩⟩
def dm(w:x6)(g a:Nat)(sv:x4)(aj:Λ)(k:Int)(cs:Λ):Prop:=
 (∃a8 gs,ag w g c4 [sv,Δ k,a8]/\aB .i64 ai w gs sv aj/\aB .i64 av w a a8 cs)/\(g≠a/\¬lw sv a/\aQ aj<=4096)/\ci aj/\cs.length=(aQ aj).toNat
def dm.W{g e:Nat}{k:Int}{cs:Λ}(h:dm w g e sv aj k cs)(a:Ext w I):dm I g e sv aj k cs:=by
 obtain⟨⟨a8,gs,h1,f,j⟩,p⟩:=h;exact⟨⟨a8,gs,h1.W a,f.W a,j.W a⟩,p⟩
def Bs(w:x6)(l:Λ)(k a:Int)(v:x4)(I:x6):Prop:=
 Ext w I/\
  (¬ci l->v= .tuple #[.pointer ν,Δ 1])/\
  (ci l->4096<aQ l->v= .tuple #[.pointer ν,Δ 5])/\
  (ci l->aQ l<=4096->¬cG a k->v= .tuple #[.pointer ν,Δ 3])/\
  (ci l->aQ l<=4096->cG a k->∃g e sv,v= .tuple #[Γ g,Δ 0]/\w.heap.size<=g/\w.heap.size<=e/\(∀r,lw sv r->w.heap.size<=r)/\
   dm I g e sv l k (o6 (aQ l).toNat a))
def wR{k z:Int}(h:aM .i64 w sv l):ak v8 JS [sv,Δ k,Δ z] w (Bs w l k z):=by
 refine az func198 ?_;refine(Li h).Y ?_;rintro v U _ ⟨I,X,Y,Z⟩;obtain⟨aV,e,rfl,aa,he⟩:∃(aV:x4)(e:Int),v= .tuple #[.agg #[aV],Δ e]/\aV.oneCell'=v2/\
   ((e=1/\¬ci l)\/(e=5/\ci l/\4096<aQ l)\/(e=0/\ci l/\aQ l<=4096/\∃g,w.heap.size<=g/\aB .i64 ai U g aV l)):=by
  by_cases J:ci l
  .by_cases ac:aQ l<=4096
   .obtain⟨g,aV,rfl,h1,K⟩:=Z J ac;exact⟨aV,0,T,K.ls.cells.2,.inr (.inr ⟨T,J,ac,g,h1,K⟩)⟩
   .exact⟨_,_,Y J Ω,T,.inr (.inl ⟨T,J,Ω⟩)⟩
  .exact⟨_,_,X J,T,.inl ⟨T,J⟩⟩
 rw[bA,bB];refine bE bH.i λaK V aL ad ae=>?_;refine b1 (vs:=[aV]) bH.i T rfl (by intro u hu;simp at hu;subst hu;exact aa) ae ?_;intro aN af aO ag;have L:=ad.then af (by rintro r j rfl;omega);have M:=I.F L;simp only[bK,al];refine⟨λah=>⟨M,?_⟩,λaP=>?_⟩
 .rcases he with⟨rfl,A⟩|⟨rfl,J,ac⟩|⟨rfl,_⟩
  .exact⟨λ_=>rfl,λh=>ro h A,λh=>ro h A,λh=>ro h A⟩
  .exact⟨λh=>ro J h,λ_ _=>rfl,λ_ h=>Ω,λ_ h=>Ω⟩
  .exact ro T ah
 .obtain⟨rfl,J,ac,gs,aR,hm⟩:e=0/\ci l/\aQ l<=4096/\∃g,w.heap.size<=g/\aB .i64 ai U g aV l:=by
   rcases he with⟨rfl,A⟩|⟨rfl,J,ac⟩|h
   .omega
   .omega
   .exact h
  have:=prod_bound J;refine k0.Y ?_;rintro _ aT _ ⟨rfl,C⟩;have N:=M.F C;simp only[bL,cb];refine⟨λaj=>⟨N,λh=>ro J h,λ_ h=>Ω,λ_ _ _=>rfl,λ_ _ h=>by simp[h]at aj⟩,λam=>?_⟩;have an:cG z k:=by simpa using am
  simp only[cB,en];intro O E _ _;have ao:=N.F E;have B:=(L.F C).F E;have P:=(ag.W C).W E;rw[bz bH.p bH.i T P.range,bz bH.p bH.i T P.range];have:=I.size;have:=B.size;have Q:((aQ l).toNat:Int)=aQ l:=Ω
  have R:∀{x:x6}{s:x4}{y:Nat},Ext O x->O.heap.size<=y->aB .i64 av x y s (o6 (aQ l).toNat z)->
    ab v8 (Instr.build c4 #[(0,.agg #[aV]),(1,Δ k),(2,s)]) x λap=>aG v8 (Instr.box c4 ap) x λau S=>Bs w l k z (.tuple #[au,Δ 0]) S:=by
   intro x s y q W j;rw[dk (cs:=#[aV,Δ k,s]) (by
    obtain⟨_,_,_,_,_,rfl,_⟩:=j.ls;obtain⟨_,_,_,_,_,rfl,_⟩:=hm.ls;kernel_rfl)]
   refine bn λg S aW G ax=>?_;have:=q.size;have ay:lw s y:=by
    obtain⟨aY,⟨_,aA⟩|⟨cap,cs,rfl,_⟩⟩:=j
    .simp at aA;omega
    .exact⟨_,_,_,T,T⟩
   have:=(bW j ay).2;refine⟨(ao.F q).F G,λh=>ro J h,λ_ h=>Ω,λ_ _ h=>ro an h,λ_ _ _=>⟨g,y,aV,T,Ω,Ω,λr aC=>?_,⟨s,gs,ax,((hm.W B).W q).W G,j.W G⟩,⟨Ω,λaD=>?_,ac⟩,J,Ξ⟩⟩
   .have:=(bW hm aC).1;omega
   .have:=bW hm aD;omega
  constructor
  .refine eU aw.u av.i T λdv aq aE aF a H=>⟨.inl a,?_⟩;refine(qc ((hm.W B).W a).ls J).Y ?_;rintro _ aH _ ⟨rfl,f⟩;refine⟨.inl (a.F f),?_⟩;rw[<-Q];refine(Br (H.W f).ls Ω).Y ?_;rintro s x _ ⟨q,y,W,j⟩;have aI:=a.size;have aJ:=f.size;exact⟨.inl ((a.F f).F q),R ((a.F f).F q) Ω j⟩
  .refine (qc (hm.W B).ls J).Y ?_;rintro _ aE _ ⟨rfl,a⟩;refine⟨.inl a,?_⟩;refine eU aw.u av.i T λdv aq aH aF f H=>⟨.inl (a.F f),?_⟩;rw[<-Q];refine(Br H.ls Ω).Y ?_;rintro s x _ ⟨q,y,W,j⟩;have aI:=a.size;have aJ:=f.size;exact⟨.inl ((a.F f).F q),R ((a.F f).F q) Ω j⟩
def pd{g:Nat}{a:List x4}{o:Nat}(h:ag w g e cs)(f:∀j v,a[j]?=σ v->cs[o+j]?=σ v):w.rangeAt g o a:=λj v p=>h.cell (f j v p)
def Bt{g f:Nat}{t:Λ}{k:Int}{cs:Λ}(h:dm w g f sv aj k cs)(q:aM .i64 w aV t):
  ak v8 Kv [Γ g,aV] w λv I=>v=mn aj t/\Ext w I:=by
 obtain⟨⟨a8,gs,r,hm,s⟩,_,J,_⟩:=h;refine az func257 ?_;rw[di fd.u];simp only[Y0,a7];rw[b0,aU c4.p T,bz (cs:=[sv]) bH.p bH.i T (pd r (by
  intro j v a
  match j,a with
  |0,a=>exact a))]
 refine(Bq hm.ls q J).Y ?_;rintro _ U _ ⟨rfl,e⟩;unfold mn;cases cj aj t 0 with
 |none=>rw[bA,bB];exact⟨T,e⟩
 |some n=>rw[bA,bB];exact⟨T,e⟩
def tD(aj t cs:Λ):x4:=match cj aj t 0 with
 |some n=>.tuple #[Δ (cs.getD n.toNat 0),Δ 0]
 |none=>.tuple #[Δ 0,Δ 3]
def Bu{t cs:Λ}{n:Int}(J:ci aj)(a:cs.length=(aQ aj).toNat)(h:cj aj t 0=σ n):n=(n.toNat:Int)/\n.toNat<cs.length:=by
 have:=mm J.2 h;simp only[Int.zero_mul,Int.zero_add,Int.one_mul]at this;omega
def wS{g f:Nat}{t:Λ}{k:Int}{cs:Λ}(h:dm w g f sv aj k cs)(j:aM .i64 w aV t):
  ak v8 Kn [Γ g,aV] w λv I=>v=tD aj t cs/\Ext w I:=by
 refine az func242 ?_;refine(Bt h j).Y ?_;rintro _ U _ ⟨rfl,a⟩;obtain⟨⟨a8,gs,q,hm,r⟩,_,J,s⟩:=h.W a;unfold mn tD;cases hi:cj aj t 0 with
 |none=>
  rw[bA,bB];simp only[bK,al];exact⟨λ_=>⟨trivial,a⟩,λh=>by simp at h⟩
 |some n=>
  obtain⟨x,e⟩:=Bu J s hi;rw[bA,bB];simp only[bK,al];refine⟨λh=>ro T h,λ_=>?_⟩;rw[aL c4.p 2 q T,
   fP x aw.u av.i Ψ r.ls (x8 e)]
  refine⟨?_,a⟩;rw[u5,x8 e];rfl
def tE(aj t:Λ)(k c:Int)(cs:Λ):Λ:=match cj aj t 0 with
 |some n=>if cG c k then cs.set n.toNat c else cs
 |none=>cs
def Bv(aj t:Λ)(k c:Int):Int:=match cj aj t 0 with
 |some _=>if cG c k then 0 else 3
 |none=>3
def Lk{g f:Nat}{t:Λ}{k c:Int}{cs:Λ}(h:dm w g f sv aj k cs)(C:aM .i64 w aV t):
  ak v8 JU [Γ g,aV,Δ c] w λv I=>v=Δ (Bv aj t k c)/\af (λr=>r=f) w I/\dm I g f sv aj k (tE aj t k c cs):=by
 refine az func200 ?_;refine(Bt h C).Y ?_;rintro _ U _ ⟨rfl,a⟩;have h1:=h.W a;obtain⟨⟨a8,gs,e,hm,j⟩,_,J,q⟩:=h1;unfold mn Bv tE;cases hi:cj aj t 0 with
 |none=>
  rw[bA,bB];simp only[bK,al];exact⟨λ_=>⟨trivial,a.aa _,h.W a⟩,λh=>by simp at h⟩
 |some n=>
  obtain⟨P,Q⟩:=Bu J q hi;rw[bA,bB];simp only[bK,al];refine⟨λh=>ro T h,λ_=>?_⟩;rw[aL c4.p 1 e T];refine k0.Y ?_;rintro _ V _ ⟨rfl,s⟩;have y:=(h.W a).W s;by_cases z:cG c k
  .simp only[z,decide_true,bL,X3,a7,if_true];obtain⟨⟨a8,gs,e,hm,j⟩,⟨E,A⟩,J,q⟩:=y;have:=j;obtain⟨S,⟨rfl,W⟩|⟨cap,full,rfl,G,H,K,L,B⟩⟩:=j
   .omega
   .rw[aL c4.p 2 e T,
     A8 aw.u av.i Ω Ω (λ_=>rfl)]
    refine bu av.i T rfl G Ω ?_;intro X x Y M;refine⟨trivial,((a.F s).aa _).F x,⟨_,gs,e.aa x Ω,bw hm x (λr N O=>A.1 (O▸N)),?_⟩,⟨E,A⟩,J,by simp[q]⟩;refine⟨Ξ,.inr ⟨cap,full.set (0+n.toNat*1) (Δ c),?_,M,by simpa using H,K,by simpa using L,?_⟩⟩
    .simp
    .simp only[o7,X6,T0]at B ⊢;rw[List.take_set,B,ints,ints,T2]
  .simp only[z,decide_false,bL,W6,bO,if_false];exact⟨trivial,(a.F s).aa _,y⟩
def cH(b:Int):Bool:=decide (b=32\/b=9\/b=10\/b=13)
def bV(b:Int):Bool:=decide (33<=b/\b<=126)
def pe:Nat->Λ->List (Λ)×Bool
 |0,_=>([],v2)
 |n+1,p=>
  match p.dropWhile cH with
  |[]=>([],v2)
  |b::q=>
   if bV b then
    match(b::q).dropWhile bV with
    |[]=>([(b::q).takeWhile bV],v2)
    |c::r=>if cH c then(((b::q).takeWhile bV)::(pe n (c::r)).1,(pe n (c::r)).2)else([],v6)
   else([],v6)
def lex(p:Λ):List (Λ)×Bool:=pe (p.length+1) p
theorem qd(f:Int->Bool):∀(l:Λ),(l.dropWhile f).length<=l.length
 |[]=>o4 _
 |x::l=>by
  rw[List.dropWhile_cons];split
  .exact X1 (qd f l) (Nat.le_succ _)
  .exact o4 _
def tF{f:Int->Bool}{x:Int}(h:f x=v2):((x::l).dropWhile f).length<=l.length:=by
 rw[List.dropWhile_cons,ms h];exact qd f l
theorem Bw:∀{n m:Nat}{p:Λ},p.length<n->p.length<m->pe n p=pe m p
 |n+1,m+1,p,j,hm=>by
  unfold pe;have h1:=qd cH p;cases f:p.dropWhile cH with
  |nil=>rfl
  |cons b q=>
   rw[f]at h1;simp only;by_cases a:bV b=v2
   .rw[ms a,ms a];have e:=tF (l:=q) a;cases h:(b::q).dropWhile bV with
    |nil=>rfl
    |cons c r=>
     rw[h]at e;simp only[Y1]at h1 e;simp only;rw[Bw (n:=n) (m:=m) (p:=c::r) (by rw[Y1];omega) (by rw[Y1];omega)]
   .rw[rc a,rc a]
def lI(p:Λ):lex p=match p.dropWhile cH with
  |[]=>([],v2)
  |b::q=>
   if bV b then
    match(b::q).dropWhile bV with
    |[]=>([(b::q).takeWhile bV],v2)
    |c::r=>if cH c then(((b::q).takeWhile bV)::(lex (c::r)).1,(lex (c::r)).2)else([],v6)
   else([],v6):=by
 unfold lex
 conv=>lhs;unfold pe
 have h1:=qd cH p;cases f:p.dropWhile cH with
 |nil=>rfl
 |cons b q=>
  rw[f]at h1;simp only;by_cases a:bV b=v2
  .rw[ms a,ms a];have e:=tF (l:=q) a;cases h:(b::q).dropWhile bV with
   |nil=>rfl
   |cons c r=>
    rw[h]at e;simp only[Y1]at h1 e;simp only;rw[Bw (n:=p.length) (m:=(c::r).length+1) (p:=c::r) (by rw[Y1];omega) Ω]
  .rw[rc a,rc a]
theorem rr:∀(n:Nat)(p:Λ),p.length<=n->(lex p).1.length<=p.length
 |n,p,s=>by
  rw[lI];have h1:=qd cH p;cases h:p.dropWhile cH with
  |nil=>simp
  |cons b q=>
   rw[h]at h1;simp only;by_cases a:bV b=v2
   .rw[ms a];have e:=tF (l:=q) a;cases j:(b::q).dropWhile bV with
    |nil=>simp only[Y1,List.length_nil]at h1 ⊢;omega
    |cons c r=>
     rw[j]at e;simp only[Y1]at h1 e;simp only;by_cases f:cH c=v2
     .rw[ms f]
      match n with
      |0=>omega
      |n+1=>
       have:=rr n (c::r) (by rw[Y1];omega);simp only[Y1]at this ⊢;omega
     .rw[rc f];simp
   .rw[rc a];simp
theorem tG:∀(n:Nat)(p:Λ),p.length<=n->∀w∈(lex p).1,w≠[]/\(∀b∈w,bV b=v2)/\w.length<=p.length
 |n,p,B,w,hw=>by
  rw[lI]at hw;have h1:=qd cH p;cases e:p.dropWhile cH with
  |nil=>rw[e]at hw;simp at hw
  |cons b q=>
   rw[e]at h1 hw;simp only at hw;have z:(b::q).length<=p.length:=h1;by_cases a:bV b=v2
   .rw[ms a]at hw;have f:=tF (l:=q) a;have j:(b::q).takeWhile bV≠[]/\(∀x∈(b::q).takeWhile bV,bV x=v2)/\((b::q).takeWhile bV).length<=p.length:=
     ⟨by rw[List.takeWhile_cons,ms a];simp,λx A=>List.all_takeWhile |> List.all_eq_true.1 |> λh=>h x A,X1 (List.takeWhile_sublist _).length_le z⟩
    cases s:(b::q).dropWhile bV with
    |nil=>
     rw[s]at hw;simp only[c9]at hw;subst hw;exact j
    |cons c r=>
     rw[s]at f hw;simp only[Y1]at h1 f;simp only at hw;by_cases y:cH c=v2
     .rw[ms y]at hw;rcases V4.1 hw with rfl|hw
      .exact j
      .match n with
       |0=>omega
       |n+1=>
        have:=tG n (c::r) (by rw[Y1];omega) w hw;exact⟨this.1,this.2.1,X1 this.2.2 (by rw[Y1];omega)⟩
     .rw[rc y]at hw;simp at hw
   .rw[rc a]at hw;simp at hw
def ay:Int:=4611686018427387904
def gL(b:Int):Bool:=decide (48<=b/\b<=57)
def ff(n b:Int):Int:=min ay (10*n+(b-48))
def lJ:Λ->Option Int
 |[]=>ν
 |l=>if l.all gL then σ (l.foldl ff 0)else ν
def gM:Λ->Option Int
 |45::l=>(lJ l).map λn=>-n
 |l=>lJ l
def Ll{n b:Int}(e:0<=n)(a:gL b=v2):0<=ff n b/\ff n b<=ay:=by
 have a:=ty a;unfold ff ay;omega
theorem tH:∀{l:Λ}{n:Int},l.all gL=v2->0<=n/\n<=ay->0<=l.foldl ff n/\l.foldl ff n<=ay
 |[],n,_,a=>a
 |b::l,n,h,a=>by
  rw[List.all_cons,U9]at h;exact tH (l:=l) h.2 (Ll a.1 h.1)
structure aK where
 hp:List (Λ)
 m5:Int
 big:Bool
 m6:List (Λ×List (Λ×Int))
deriving DecidableEq
def ea(s:aK):Option (Λ×aK):=match s.hp with
 |[]=>ν
 |w::l=>σ (w,{s with hp:=l})
def bm(lo hi:Int)(s:aK):Option (Int×aK):=match ea s with
 |none=>ν
 |some (w,s)=>match gM w with
  |none=>ν
  |some n=>if lo<=n/\n<=hi then σ (n,s)else ν
def bi(b:Bool)(s:aK):aK:={s with big:=s.big||b}
def cX{α:Type}(f:List α->aK->Option (α×aK)):Nat->List α->aK->Option (List α×aK)
 |0,acc,s=>σ (acc,s)
 |n+1,acc,s=>match f acc s with
  |none=>ν
  |some (a,s)=>cX f n (acc++[a]) s
def fg(n:Int)(a:Nat)(s:aK):Option (Λ×aK):=cX (λacc s=>match bm 0 (n-1) s with
 |none=>ν
 |some (v,s)=>if v∈acc then ν else σ (v,s)) a [] s
def kx:Λ->Λ->aK->Option (Λ×aK)
 |[],acc,s=>σ (acc,s)
 |k::l,acc,s=>match bm 0 (k-1) s with
  |none=>ν
  |some (v,s)=>kx l (acc++[v]) s
def eN(co:Λ)(acc:List (Λ×Int))(s:aK):Option ((Λ×Int)×aK):=match kx co [] s with
 |none=>ν
 |some (t,s)=>match bm 0 ay s with
  |none=>ν
  |some (c,s)=>if t∈acc.map (·.1)then ν else σ ((t,c),s)
def eb(co:Λ)(s:aK):Option (List (Λ×Int)×aK):=match bm (-ay) ay s with
 |none=>ν
 |some (n,s)=>
  if n<0 then match s.m6[(-n-1).toNat]? with
   |none=>ν
   |some (z,l)=>if z=co then σ (l,s)else ν
  else cX (eN co) n.toNat [] (bi (decide (16384<min (s.m5+n) ay)) {s with m5:=min (s.m5+n) ay})
def dB(co:Λ):Bool:=decide (4096<aQ (co.map λk=>min k 4097))
structure cE where
 scope:Λ
 co:Λ
 other:Int
 lines:List (Λ×Int)
deriving DecidableEq
def ds(all:Λ)(s:aK):Option (cE×aK):=match bm (-ay) ay s with
 |none=>ν
 |some (a,s)=>match fg all.length a.natAbs s with
  |none=>ν
  |some (scope,s)=>
   let co:=scope.map λv=>all.getD v.toNat 0
   match bm 0 ay (bi (decide (6<a.natAbs)||dB co) s)with
   |none=>ν
   |some (other,s)=>match eb co s with
    |none=>ν
    |some (lines,s)=>σ (⟨scope,co,other,lines⟩,if a<0 then{s with m6:=s.m6++[(co,lines)]}else s)
def gN(most:Int)(_:Λ)(s:aK):Option (Int×aK):=match bm 1 most s with
 |none=>ν
 |some (z,s)=>σ (z,bi (decide (32<z)) s)
structure ce where
 name:Λ
 k:Int
 co:Λ
 d9:List cE
deriving DecidableEq
def jD(s:aK):Option (ce×aK):=match ea s with
 |none=>ν
 |some (name,s)=>match bm 1 ay (bi (decide (64<name.length)) s)with
  |none=>ν
  |some (n,s)=>match bm 1 ay (bi (decide (64<n)) s)with
   |none=>ν
   |some (most,s)=>match bm 0 ay s with
    |none=>ν
    |some (a,s)=>match bm 1 ay (bi (decide (256<a)) s)with
     |none=>ν
     |some (k,s)=>match cX (gN most) n.toNat [] (bi (decide (2147483648<k)) s)with
      |none=>ν
      |some (co,s)=>match cX (λ_ s=>ds co s) a.toNat [] s with
       |none=>ν
       |some (d9,s)=>σ (⟨name,k,co,d9⟩,s)
def gY(p:Λ):Option ce:=if 65536<p.length then ν else match jD ⟨(lex p).1,0,v6,[]⟩with
 |none=>ν
 |some (f,s)=>if s.hp=[]/\(lex p).2=v2/\s.big=v6 then σ f else ν
def nZ(n:Int)(a:Bool)(v:Int):Prop:=0<=n/\n<=4611686018427387909/\(a=v2->v=ay)/\(a=v6->v=min ay n)
def Lm{n b v:Int}{a:Bool}(h:nZ n a v)(q:48<=b/\b<=57):
  nZ (if a=v2\/461168601842738790<n then n else 10*n+(b-48)) (a||decide (461168601842738790<n)) (ff v b):=by
 obtain⟨h1,f,j,p⟩:=h;unfold ff nZ ay at*;cases a with
 |true=>
  have:=j T;rw[ms (.inl T)];exact⟨h1,f,λ_=>Ω,λh=>by cases h⟩
 |false=>
  have:=p T;by_cases e:461168601842738790<n
  .rw[ms (.inr e),rs e];exact⟨h1,f,λ_=>Ω,λh=>by cases h⟩
  .rw[rc (by simp[e]),s2 e];exact⟨Ω,Ω,(λh=>by cases h),λ_=>Ω⟩
def Ln:nZ 0 v6 0:=by unfold nZ ay;exact⟨Ω,Ω,(λh=>by cases h),λ_=>Ω⟩
def Lo{n v:Int}{a:Bool}(h:nZ n a v):v=if a=v2\/4611686018427387904<n then 4611686018427387904 else n:=by
 obtain⟨h1,p,f,j⟩:=h;unfold ay at*;cases a with
 |true=>rw[ms (.inl T)];exact f T
 |false=>
  have:=j T;by_cases e:4611686018427387904<n
  .rw[ms (.inr e)];omega
  .rw[rc (by simp[e])];omega
structure Cell where
 v:Int
 st:Nat
structure mo where
 i:Nat
 c:Cell
structure tI where
 olds:Nat
 cells:Nat
 st:Nat
structure aA where
 cells:List Cell
 olds:List mo
 marks:List tI
 ky:Nat
def aA.b5(t:aA):Λ:=t.cells.map (·.v)
def aA.set(t:aA)(i:Nat)(x:Int):aA:=match t.cells[i]? with
 |none=>t
 |some c=>match t.marks.getLast? with
  |none=>{t with cells:=t.cells.set i ⟨x,c.st⟩}
  |some m=>if c.st<m.st/\i<m.cells then{t with olds:=t.olds++[⟨i,c⟩],cells:=t.cells.set i ⟨x,m.st⟩}else{t with cells:=t.cells.set i ⟨x,c.st⟩}
def aA.grow(t:aA)(n:Nat):aA:={t with cells:=t.cells++o6 n ⟨0,0⟩}
def back(os:List mo)(cs:List Cell):List Cell:=os.foldr (λo cs=>cs.set o.i o.c) cs
theorem rt:∀(os:List mo)(cs:List Cell),(back os cs).length=cs.length
 |[],_=>rfl
 |o::os,cs=>by
  have:=rt os cs;show((back os cs).set o.i o.c).length=_;rw[o7,this]
def back_append(a b:List mo)(cs:List Cell):back (a++b) cs=back a (back b cs):=by unfold back;rw[List.foldr_append]
theorem wT:∀{os:List mo}{cs:List Cell}{n:Nat},(back os cs).take n=back (os.filter λo=>decide (o.i<n)) (cs.take n)
 |[],cs,n=>rfl
 |o::os,cs,n=>by
  show((back os cs).set o.i o.c).take n=_;by_cases h:o.i<n
  .rw[List.filter_cons_of_pos (by simpa using h),List.take_set,wT];rfl
  .rw[List.filter_cons_of_neg (by simpa using h),List.take_set_of_le Ω,wT]
def Bx{os:List mo}{cs:List Cell}(h:∀o∈os,o.i<n):(back os cs).take n=back os (cs.take n):=by
 rw[wT,List.filter_eq_self.2 λo a=>by simpa using h o a]
theorem By:∀{os:List mo}{cs a:List Cell}{i:Nat},cs.length=a.length->(∃o∈os,o.i=i)->(back os cs)[i]?=(back os a)[i]?
 |[],_,_,_,_,⟨_,h,_⟩=>by cases h
 |o::os,cs,a,i,f,hm=>by
  show((back os cs).set o.i o.c)[i]?=((back os a).set o.i o.c)[i]?;rw[Y7,Y7];by_cases h:o.i=i
  .rw[ms h,ms h,rt,rt,f]
  .rw[rc h,rc h];obtain⟨x,e,he⟩:=hm;rcases V4.1 e with rfl|e
   .exact ro he h
   .exact By f ⟨x,e,he⟩
theorem Bz:∀{os:List mo}{cs a:List Cell}{i:Nat},cs[i]?=a[i]? ->cs.length=a.length->(back os cs)[i]?=(back os a)[i]?
 |[],_,_,_,h,_=>h
 |o::os,cs,a,i,h,e=>by
  show((back os cs).set o.i o.c)[i]?=((back os a).set o.i o.c)[i]?;rw[Y7,Y7,rt,rt,e,Bz h e]
def iI:aA->List aA->Prop
 |t,[]=>t.marks=[]/\t.olds=[]/\(∀c∈t.cells,c.st<=t.ky)/\t.ky<=1000000
 |t,s::h=>iI s h/\(∀c∈t.cells,c.st<=t.ky)/\∃m new,t.marks=s.marks++[m]/\m.olds=s.olds.length/\m.cells=s.cells.length/\t.olds=s.olds++new/\m.cells<=t.cells.length/\(back new t.cells).take m.cells=s.cells/\
   (∀c∈s.cells,c.st<m.st)/\(∀c∈t.cells,c.st<=m.st)/\(∀(i:Nat)c,i<m.cells->t.cells[i]?=σ c->c.st=m.st->∃o∈new,o.i=i)/\(∀o∈new,o.i<m.cells)/\m.st<=t.ky/\s.ky<=t.ky
def iI.grow{h:List aA}{t:aA}(hk:iI t h):iI (t.grow n) h:=by
 cases h with
 |nil=>
  refine⟨hk.1,hk.2.1,λc a=>?_,hk.2.2.2⟩;rcases j9.1 a with a|a
  .exact hk.2.2.1 c a
  .rw[(List.mem_replicate.1 a).2];exact W0 _
 |cons s h=>
  obtain⟨h1,j,m,new,p,q,a3,a4,a5,r,w,x,a9,e,y,z⟩:=hk;have f:∀{b:Nat},(∀c∈t.cells,c.st<=b)->∀c∈(t.grow n).cells,c.st<=b:=λA c a=>by
   rcases j9.1 a with a|a
   .exact A c a
   .rw[(List.mem_replicate.1 a).2];exact W0 _
  refine⟨h1,f j,m,new,p,q,a3,a4,by show m.cells<=(t.cells++_).length;rw[n9];omega,?_,w,f x,λi c hi a he=>?_,e,y,z⟩
  .show (back new (t.cells++_)).take m.cells=_;rw[Bx e,List.take_append_of_le_length a5,<-Bx e];exact r
  .have a:(t.cells++o6 n ⟨0,0⟩)[i]?=σ c:=a;rw[Y2 Ω]at a;exact a9 i c hi a he
def Lp{s:aA}{m:tI}{l:List tI}(h:l=s.marks++[m]):l.getLast? =σ m:=by rw[h,List.getLast?_concat]
def iI.set{h:List aA}{t:aA}{i:Nat}{x:Int}(hk:iI t h):iI (t.set i x) h:=by
 unfold aA.set;cases q:t.cells[i]? with
 |none=>exact hk
 |some c=>
  have F:=(x5.1 q).1;have y:=x7 q;have r:∀{b st:Nat},(∀c∈t.cells,c.st<=b)->st<=b->∀d∈t.cells.set i ⟨x,st⟩,d.st<=b:=λM B d a=>by
   rcases W8 a with a|rfl
   .exact M d a
   .exact B
  cases h with
  |nil=>
   obtain⟨h1,w,G,N⟩:=hk;simp only[h1,List.getLast?_nil];exact⟨T,w,r G (G c y),N⟩
  |cons s h=>
   obtain⟨h1,w,m,new,C,H,a3,a4,a5,I,J,z,a9,K,E,L⟩:=hk;simp only[Lp C];by_cases A:c.st<m.st/\i<m.cells
   .rw[ms A];refine⟨h1,r w E,m,new++[⟨i,c⟩],C,H,a3,by show t.olds++_=_;rw[a4,T6],by show m.cells<=(t.cells.set i _).length;rw[o7];exact a5,?_,J,r z (o4 _),λj d e a he=>?_,λo p=>?_,E,L⟩
    .show (back (new++[⟨i,c⟩]) (t.cells.set i _)).take m.cells=_;rw[back_append];have:back [⟨i,c⟩] (t.cells.set i ⟨x,m.st⟩)=t.cells:=by
      show(t.cells.set i _).set i c=_;rw[List.set_set];refine X0 λj=>?_;rw[Y7];by_cases e:i=j
      .subst e;rw[ms T,ms F,q]
      .rw[rc e]
     rw[this];exact I
    .have a:(t.cells.set i ⟨x,m.st⟩)[j]?=σ d:=a;by_cases f:i=j
     .exact⟨⟨i,c⟩,Ξ,f⟩
     .rw[Y7,rc f]at a;obtain⟨o,p,he⟩:=a9 j d e a he;exact⟨o,List.mem_append_left _ p,he⟩
    .rcases j9.1 p with p|p
     .exact K o p
     .rw[c9.1 p];exact A.2
   .rw[rc A];refine⟨h1,r w (w c y),m,new,C,H,a3,a4,by show m.cells<=(t.cells.set i _).length;rw[o7];exact a5,?_,J,r z (z c y),λj d e a he=>?_,K,E,L⟩
    .rw[<-I];show(back new (t.cells.set i _)).take m.cells=_;refine X0 λj=>?_;by_cases e:j<m.cells
     .rw[Y6 e,Y6 e];by_cases f:i=j
      .subst f;have B:c.st=m.st:=by
        have:=z c y;have:¬c.st<m.st:=λau=>A ⟨au,e⟩;omega
       exact By (by rw[o7]) (a9 i c e q B)
      .exact Bz (by rw[Y7,rc f]) (by rw[o7])
     .rw[Y5 (by rw[o8];omega),Y5 (by rw[o8];omega)]
    .have a:(t.cells.set i ⟨x,c.st⟩)[j]?=σ d:=a;by_cases f:i=j
     .subst f;rw[Y7,ms T,ms F]at a;cases a;exact a9 i c e q he
     .rw[Y7,rc f]at a;exact a9 j d e a he
def aA.ru{t:aA}{i:Nat}{x:Int}:(t.set i x).b5=t.b5.set i x:=by
 unfold aA.set aA.b5;cases a:t.cells[i]? with
 |none=>rw[List.set_eq_of_length_le (by rw[r8];exact List.getElem?_eq_none_iff.1 a)]
 |some c=>
  simp only;cases t.marks.getLast? with
  |none=>simp only;rw[T2]
  |some m=>simp only;split<;>rw[T2]
def aA.Lq{t:aA}:(t.grow n).b5=t.b5++o6 n 0:=by
 unfold aA.grow aA.b5;rw[Z4,List.map_replicate]
end Go.Proofs.YtnhkbjhpbbobaaaGreatDoor
namespace Go.Vc
open Go Go.RowKit
section
variable{P:V5}{w:x6}{m:Bool}{S R:ah}
def tJ{b k l:Nat}{low high:Option x4}(p:P.underlying t=σ (.slice e))(hi:aR P e k b z)(a:cg w k v n cs)(h1:nj low l)(q:nk high n h)(f:l<=h)(au:h<=n)(r:∀j,cg w k j (h-l) ((cs.drop (l*k)).take ((h-l)*k))->K j):
  ab P (U4 t v low high ν) w K:=by
 have s:=a;obtain⟨_,x,o,base,cap,rfl,y,_⟩:=a;rw[ip p hi h1 q fo f Ω (o4 _)];exact r _ (cg.part s f au Ω (o4 _))
def Lr{b i:Nat}(j:y=(i:Int))(p:P.underlying t=σ (.slice e))(hi:aR P e 1 b z)(h:aM k w v l)(q:i<=l.length)(r:∀a,aM k w a (l.drop i)->K a):ab P (U4 t v (σ (.int f y)) ν ν) w K:=by
 refine tJ p hi h (oY i y j) kY q (o4 _) λa aW=>r a (aM.of (n:=l.length-i) ?_);have s:((ints k l).drop (i*1)).take ((l.length-i)*1)=ints k (l.drop i):=by
  rw[b9 Ξ,T0,ints,<-List.map_drop]
 rw[s]at aW;exact aW
def Ls{b i:Nat}(j:y=(i:Int))(p:P.underlying t=σ (.slice e))(hi:aR P e 1 b z)(h:aM k w v l)(q:i<=l.length)(r:∀a,aM k w a (l.take i)->K a):ab P (U4 t v ν (σ (.int f y)) ν) w K:=by
 refine tJ p hi h jZ (oZ i y j) (W0 _) q λa aW=>r a (aM.of (n:=i) ?_);have s:((ints k l).drop (0*1)).take ((i-0)*1)=ints k (l.take i):=by
  simp[ints,List.map_take]
 rw[s]at aW;exact aW
def BA{b:Nat}{parts:Array (Nat×x4)}{K:x4->x6->Prop}(a:P.underlying t=σ (.slice e))(hi:aR P e 1 b (Δ 0))(x:n<=100000)(f:l.length=n)(h:Instr.fill (λj=>σ (j*1,1)) ((Array.range (n*1)).map ((if n*1=0 then#[]else(U3 .i64 0).cells)[·% (if n*1=0 then#[]else(U3 .i64 0).cells).size]!)) parts.toList=σ (ints .i64 l).toArray)(p:∀v g I,g=w.heap.size->Ext w I->aB .i64 e I g v l->K v I):aG P (X2 t n parts) w K:=
 kZ a hi Ω h λg I q r s=>p _ g I q r (aB.of (b2.full (by simpa using s) (by simp[f]) (by simp[maxLen];omega)))
end
section
variable{P:V5}{w:x6}
def Lt{h p:o5}{q kn:j4}{b k cap:Nat}{base:Option Addr}{K:x4->x6->Prop}(x:y=(k:Int))(A:P.underlying t=σ (.slice e))(B:P.underlying h=σ (.int kn))(hi:aR P e 1 b z)(C:z.cells= #[z])(J:cg w 1 (.slice base n cap) n xs)(E:0<k)(r:cap<n+k)(F:(n+k)*b<=140737488355328)(G:n+k<=9223372036854775807)(H:∀v g I,g=w.heap.size->Ext w I->b2 I g e 1 v (n+k) (xs++o6 k z)->K v I):aG P (Z9 #[t,h] p #[.slice base n cap,.int q y]) w K:=by
 subst x;obtain⟨i,hi,L,rfl,M⟩:=hi;obtain⟨f,X,o,Y,Z,he,N,aa,O,Q⟩:=J;cases he;have R:(Y4.firstCells i.size n (.slice base n cap)).run P w.drew= .ok xs.toArray w.drew:=by
  rcases Q9 n with rfl|S
  .have:xs=[]:=Z2 (by simpa using f);subst this;cases base with
   |none=>exact run_firstCells_none w.drew i.size 0 0 cap
   |some a=>exact run_firstCells_some w.drew i.size 0 a 0 cap [] Ξ Ξ
  .have:=O S;subst this;refine run_firstCells_some w.drew i.size n _ n cap xs (by rw[L];exact f) λj u hu=>?_;rw[T9];exact Q j u hu
 have T:k*i.bytes<=281474976710656:=by
  have:k*i.bytes<=(n+k)*i.bytes:=X4 _ Ω;omega
 have U:=Lib.run_append_grow_zeros (P:=P) w t h p e i z q kn A B hi M base n cap xs R k E Ω r Ω T (growslice_fits r F);have V:n+k<=grownCap w (n+k) cap e:=grownCap_ge w _ _ _;have W:grownCap w (n+k) cap e<=maxLen:=grownCap_le_maxLen w (n+k) cap e (by simpa[maxLen]using G);have s:∀m,Y4.zeroCells z.cells m=(o6 m z).toArray:=λm=>by
  rw[C];apply Array.ext
  .simp[size_zeroCells]
  .intro j h1 N;simp[Y4.zeroCells,Nat.mod_one]
 refine .of U ((qX w _ (Nat.le_succ _)).F (qZ _ _)) (H _ w.heap.size _ rfl ((sR w _).F (qY _ _)) ⟨by simp at f;simp[f],.inr ⟨_,xs++o6 k z++o6 (grownCap w (n+k) cap e-(n+k)) z,rfl,?_,V,W,?_,?_⟩⟩)
 .rw[s,s];have:=heap_alloc_new w.drew (.cells (xs.toArray++(o6 k z).toArray++(o6 (grownCap w (n+k) cap e-(n+k)) z).toArray) e);rw[List.append_toArray,List.append_toArray]at this ⊢;exact this
 .simp at f;simp[f];omega
 .simp at f;rw[List.take_append_of_le_length (by simp[f]),b9 (by simp[f])]
def BB{a:o5}{base:Option Addr}(f:P.underlying t=σ (.slice e)):
  ab P (Y4.cap_ #[t] a #[.slice base n c]) w K=K (Δ c):=ab.of λI _=>by simp[Y4.cap_,run_underlying f,goInt]
def Lu{g o k:Nat}(h:ag w g e cs)(hk:o+k<=cs.length)(f:k<=c)(p:c<=maxLen):cg w 1 (.slice (σ ⟨g,o,ν⟩) k c) k ((cs.drop o).take k):=by
 refine⟨Θ,g,o,_,c,T,f,p,λ_=>rfl,λj v a=>?_⟩;have q:=(x5.1 a).1;simp at q;rw[Y6 Ω,R3]at a;exact h.cell a
def BC{h p:o5}{q g o cap:Nat}{K:x4->x6->Prop}(s:P.underlying t=σ (.slice e))(hi:aR P e 1 q z)(x:z.cells= #[z])(h1:z.oneCell'=v2)(a:ag w g p cs)(y:0<n)(F:o+n<=cs.length)(A:∀I,af (λr=>r=g) w I->I.heap.size=w.heap.size->ag I g p (over cs o (o6 n z))->K (.tuple #[]) I):aG P (Y4.clear_ #[t] h #[.slice (σ ⟨g,o,ν⟩) n cap]) w K:=by
 obtain⟨i,hi,G,rfl,B⟩:=hi;have C:=Lib.run_clear_slice (P:=P) w t e h z s (λw=>by simp[zeroValue,typeInfo,hi,B]) x h1 g o n cap y
  (λj H=>by rw[a.cell (x8 (show o+j<cs.length by omega))];rfl) (λj _=>a.frozen _ _)
 obtain⟨E,f⟩:=o2 (o6 n z) cs o w a;exact .of C (f.cA a) (A _ f.aa f.size E)
end
section
variable{P:V5}{w:x6}
def jf{a:o5}{i b g:Nat}(j:y=(i:Int))(p:P.underlying t=σ (.slice e))(hi:aR P e 1 b z)(h:aB k a w g v l)(q:i<l.length):ab P (b8 t v (.int f y)) w K=K (.pointer (σ ⟨g,i,ν⟩)):=by
 subst j;obtain⟨_,⟨_,r⟩|⟨cap,cs,rfl,_⟩⟩:=h
 .omega
 .rw[eT p hi q (λ_=>rfl)];simp
def rv{i b:Nat}{x:Int}(j:y=(i:Int))(p:P.underlying t=σ (.slice e))(hi:aR P e 1 b z)(h:aM k w v l)(a:l[i]?=σ x)(q:∀b o,w.cell? ⟨b,o,ν⟩=σ (.int k x)->K (.pointer (σ ⟨b,o,ν⟩))):ab P (b8 t v (.int f y)) w K:=by
 subst j;have r:=(x5.1 a).1;obtain⟨_,_,_,_,_,rfl,_,_,s,A⟩:=h;rw[eT p hi r s,T0];exact q _ _ (A i _ (mh a))
def jg{a:o5}{i b g:Nat}{x:Int}{K:Unit->x6->Prop}(hi:aR P e 1 b z)(h:aB k a w g v l)(E:i<l.length)(p:∀I,af (λr=>r=g) w I->I.heap.size=w.heap.size->aB k a I g v (l.set i x)->K () I):aG P (j0 e (.pointer (σ ⟨g,i,ν⟩)) (.int k x)) w K:=by
 obtain⟨F,⟨_,G⟩|⟨cap,full,rfl,q,s,y,f,j⟩⟩:=h
 .omega
 .have A:i<full.length:=by simp at f;omega
  refine bu hi T rfl q A λI B J C=>p I B J ⟨Ξ,.inr ⟨cap,full.set i (.int k x),Ξ,C,by simpa using s,y,by simpa using f,?_⟩⟩;simp only[o7,T0]at j ⊢;rw[List.take_set,j,ints,ints,T2]
def tK{b o:Nat}(a:kX P t=v2)(h:w.cell? ⟨b,o,ν⟩=σ v):b6 P (u6 t (.pointer (σ ⟨b,o,ν⟩))) v w:=λI e=>by
 have aW:=jX e h;unfold kX at a;cases hu:P.underlying t with
 |none=>rw[hu]at a;cases a
 |some d=>
  rw[hu]at a;cases d<;>first|(cases a;done)|simp[u6,Instr.sureAddr,loadVar,isAgg,run_underlying hu,aW]
def jh{S:ah}(h:aM k w v l)(p:af S w I)(q:∀r,S r->∀a n c,v= .slice (σ a) n c->a.block≠r):aM k I v l:=by
 obtain⟨h1,b,o,base,cap,rfl,s,x,e,y⟩:=h;refine⟨h1,b,o,base,cap,T,s,x,e,?_⟩;rcases Q9 l.length with f|f
 .intro j u hu;have:=(x5.1 hu).1;simp at this;omega
 .have z:=e f;subst z;exact iH p (λh=>q _ h _ _ _ T rfl) y
end
end Go.Vc
namespace Go.Vc
open Go Go.RowKit Go.ChangeShapes Go.WideShapes
structure n0(P:V5)(t:o5)(α:Type)[ao α](G:α->Prop):Prop where
 op:∀{H:Type}{enc:o5×x4->H}{w:x6}{base:Nat}{spare:Nat->Bool}{held:Bool}{fuel:Nat}{cs:List x4}{x:DataW H×List MemPlace},
  DataW.trod enc P w base spare held fuel t cs=σ x->∃a:α,Seen eM w cs a/\G a
section
variable{P:V5}{α β:Type}[ao α][ao β]
def BD{n:Int}(h:(Lit.int k n).wf=v2):k.min<=n/\n<=k.max:=by simpa[Lit.wf]using h
def Lv(a:P.underlying t=σ (.int k)):n0 P t (np k) λn=>k.min<=n.val/\n.val<=k.max:=⟨λh=>by
 obtain⟨n,rfl,_,hw⟩:=DataW.trod_int a h;exact⟨(n:Int),T,BD hw⟩⟩
def tL(a:P.underlying t=σ (.int .i64)):n0 P t Int λn=>W5.min<=n/\n<=W5.max:=⟨λh=>by
 obtain⟨n,rfl,_,hw⟩:=DataW.trod_int a h;exact⟨n,T,BD hw⟩⟩
def Lw(a:Addr)(m n:Nat):(a.add m).add n=a.add (m+n):=by
 unfold Addr.add;by_cases hm:m=0<;>by_cases e:n=0<;>simp[hm,e,Q3]
def Lx{base:Nat}{a:Addr}(h:w.cells? base a n=σ cs):cs.length=n/\∀j v,cs[j]?=σ v->w.cell? (a.add j)=σ v:=by
 unfold x6.cells? at h;split at h
 .have f:cs.length=n:=by
   have:=mapM_some_length h;simpa using this
  refine⟨f,λj v e=>?_⟩;have p:=(x5.1 e).1;have:=mapM_some_get h j j (List.getElem?_range Ω);rw[this,e]
 .cases h
def Ly{G:α->Prop}(M:P.underlying t=σ (.slice e))(he:n0 P e α G)(N:P.cellsOf e=ao.n α)(V:0<ao.n α):n0 P t (List α) λl=>∀a∈l,G a:=by
 constructor;intro H enc w base W X fuel cs x h;rcases DataW.trod_slice M h with⟨rfl,_⟩|⟨a,len,cap,Y,rest,n,_,rfl,rfl,Z,aa,hm,ab,O,_,_⟩
 .exact⟨[],gm,λ_ h=>by cases h⟩
 .
  have K:∀i,i<len->∃(c:List x4)(y:α),c.length=ao.n α/\(∀j v,c[j]?=σ v->w.cell? (a.add (i*ao.n α+j))=σ v)/\Seen eM w c y/\G y:=by
   intro i hi;have h1:=O i hi;rw[x8 Ω,N,Option.bind_eq_some_iff]at h1;obtain⟨c,r,s⟩:=h1;obtain⟨B,C⟩:=Lx r;obtain⟨y,E,Q⟩:=he.op s;exact⟨c,y,B,λj v q=>by have:=C j v q;rwa [Lw]at this,E,Q⟩
  have all:∀m,m<=len->∃(vs:List (List x4))(l:List α),vs.length=m/\l.length=m/\(∀c∈vs,c.length=ao.n α)/\(∀(j:Nat)(v:x4),vs.flatten[j]?=σ v->w.cell? (a.add j)=σ v)/\
    (∀(i:Nat)(c:List x4)(y:α),vs[i]?=σ c->l[i]?=σ y->Seen eM w c y)/\∀y∈l,G y:=by
   intro m;induction m with
   |zero=>exact λ_=>⟨[],[],rfl,rfl,(λ_ h=>by cases h),(λj v h=>by simp at h),(λi c y h=>by simp at h),(λ_ h=>by cases h)⟩
   |succ m R=>
    intro hm;obtain⟨vs,l,h1,r,s,B,C,E⟩:=R Ω;obtain⟨c,y,g1,F,S,T⟩:=K m Ω;refine⟨vs++[c],l++[y],by simp[h1],by simp[r],λd f=>?_,λj v q=>?_,λi d z f p=>?_,λz p=>?_⟩
    .rcases j9.1 f with f|f
     .exact s d f
     .simp at f;subst f;exact g1
    .have A:=rp s;rw[h1]at A;rw[List.flatten_append]at q;by_cases U:j<m*ao.n α
     .rw[Y2 Ω]at q;exact B j v q
     .rw[Z7 Ω,A]at q;simp at q;have:=F _ v q;rwa [show m*ao.n α+(j-m*ao.n α)=j by omega]at this
    .by_cases hi:i<m
     .rw[Y2 Ω]at f p;exact C i d z f p
     .have I:=(x5.1 f).1;simp[h1]at I;have I:i=m:=Ω
      subst I;rw[Z7 Ω,h1]at f;rw[Z7 Ω,r]at p;simp at f p;subst f p;exact S
    .rcases j9.1 p with p|p
     .exact E z p
     .simp at p;subst p;exact T
  obtain⟨vs,l,h1,r,s,B,C,E⟩:=all len (o4 _);have A:=rp s;rw[h1]at A;have L:0<len->a=⟨a.block,a.off,ν⟩:=λJ=>by
   obtain⟨c,y,g1,F,_⟩:=K 0 Ω;have:=F 0 c[0] (x8 Ω);rw[Nat.zero_mul]at this;exact wM this
  refine⟨l,⟨_,rfl,vs,0,λ_ _=>False,⟨λ_ _ h=>h.elim,(λh=>by cases h),(λh=>by cases h)⟩,⟨Ω,C⟩,⟨by rw[A,r],a.block,a.off,σ a,cap,by rw[r],Ω,hm,λJ=>congrArg σ (L Ω),λ_=>.inr trivial,λj v q=>?_⟩,λh=>by cases h⟩,E⟩;have:=B j v q;have U:=(x5.1 q).1;have J:0<len:=by
   rcases Q9 len with h|h
   .rw[h,Nat.zero_mul]at A;omega
   .exact h
  rw[L J,T9]at this;exact this
structure tM(P:V5)(fs:List Field)(off:Nat)(α:Type)[ao α](G:α->Prop):Prop where
 op:∀{H:Type}{enc:o5×x4->H}{w:x6}{base:Nat}{spare:Nat->Bool}{held:Bool}{n:Nat}{cs:List x4},cs.length=off+ao.n α->
  (∀f∈fs,∃x,DataW.trod enc P w base spare held n f.type ((cs.drop f.offset).take (P.cellsOf f.type))=σ x)->∃a:α,Seen eM w (cs.drop off) a/\G a
def Lz{f:Field}{e:Nat}{G:α->Prop}(h:n0 P f.type α G)(j:f.offset=e)(p:P.cellsOf f.type=ao.n α):tM P [f] e α G:=by
 constructor;intro H enc w base y z n cs A q;obtain⟨x,r⟩:=q f (.head _);obtain⟨a,h1,s⟩:=h.op r;rw[j,p,b9 Θ]at h1;exact⟨a,h1,s⟩
def tN{f:Field}{j:List Field}{e:Nat}{G:α->Prop}{q:β->Prop}(h:n0 P f.type α G)(s:f.offset=e)(y:P.cellsOf f.type=ao.n α)(z:tM P j (e+ao.n α) β q):
  tM P (f::j) e (α×β) λp=>G p.1/\q p.2:=by
 constructor;intro H enc w base I J n cs K r;obtain⟨x,A⟩:=r f (.head _);obtain⟨a,h1,B⟩:=h.op A;rw[s,y]at h1;have L:ao.n (α×β)=ao.n α+ao.n β:=rfl;obtain⟨b,C,E⟩:=z.op Ω λg F=>r g (.tail _ F);refine⟨(a,b),⟨(cs.drop e).take (ao.n α),cs.drop (e+ao.n α),λ_=>False,λ_=>False,?_,λ_ h=>h,λ_ h=>h,(λh=>by cases h),h1,C⟩,B,E⟩;rw[<-List.drop_drop,List.take_append_drop]
def LA{a:List Field}{G:α->Prop}(e:P.underlying t=σ (.struct a.toArray))(j:tM P a 0 α G)(y:P.cellsOf t=ao.n α):n0 P t α G:=by
 constructor;intro H enc w base z A fuel cs x h;obtain⟨xs,n,_,rfl,B,p,q⟩:=DataW.trod_struct e h;have:=j.op (cs:=cs) Ω λf r=>by
  obtain⟨i,hi,rfl⟩:=List.mem_iff_getElem.1 r;have s:i<xs.length:=by simpa[p]using hi
  have:=q i a[i] (by simp[hi]);rw[x8 s]at this;exact⟨_,this⟩
 simpa using this
end
end Go.Vc
