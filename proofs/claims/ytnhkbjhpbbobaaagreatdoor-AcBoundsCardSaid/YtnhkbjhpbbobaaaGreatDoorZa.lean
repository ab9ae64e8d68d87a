/- own texts, made small by a tool (wip/ holds them as they were written): no statement of the seat. -/
import Derived.RangeFuncNested
import Derived.RangeFuncLeaves
import Derived.OrdersIn
import Derived.KernelRfl
import Derived.Deep.Upon
import Derived.RangeFuncBound
import Derived.Deep.MidRow
import Derived.Laws.Cover3
import Derived.Laws.Pointers
import Derived.Laws.StructEq
import Derived.Laws.Tables
import Derived.Below
import Derived.Laws.MakeOwn
import Derived.Lib.Overlaps
import Derived.Lib.AppendZerosOnto
import Derived.Lib.SliceRun
import Derived.OpenShut
import Derived.Lib.ConvBytes
import Derived.Laws.BytesArg
import Derived.Laws.Concat
import Derived.MapKept
import Derived.Carry
import Derived.WideKeyArr
import Derived.WideKeyMaps
import Derived.Laws.IdiomRangeMap
import Derived.Shelf.SlSortCmp.NoneTotal
import Derived.Shelf.SlSortCmp.WholeK
import Derived.Ground.SlsfProg
import Derived.WideKeyEntry
import Derived.WalkKit
import Derived.Test.YtnhkbjhpbbobaaaGreatDoorProg
import Derived.Test.YtnhkbjhpbbobaaaGreatDoorChecked
set_option linter.unusedVariables false
set_option linter.unusedSimpArgs false
set_option linter.unnecessarySimpa false
open Array renaming getElem?_eq_some_iff→b8,getElem?_toList→Q0
open BitVec renaming ofInt→T8
open Bool renaming false→v6,true→v2,not_true→X3,not_false→W6,or_eq_false_iff→U1,and_eq_true→U9
open Decidable renaming not_not→X5
open Go renaming Value→x4,World→x5,TypeId→o5,IntKind→j0,Builtin→Y1,Program→V3,Oper→S1,Operand→R4,FuncId→Q6
open Go.Addr renaming add_mid→T9
open Go.Builtin renaming append_→Z9,len_→V0
open Go.Instr renaming loadAt→u6,fieldAt→u7,storeAt→l9,indexAt→c9,extract→Y8,buildSlice→X2,sliceAt→U4
open Go.IntKind renaming i64→W5,u64→T7
open Go.Proofs.Tryz renaming prog→v8
open Go.Result renaming andThen→V1
open Go.Sem renaming run_bind→W9,run_pure→V8
open Go.Sort renaming Holds→R5
open Go.Value renaming int→U3
open Go.World renaming putObj_heap_other→Q7
open Int renaming toNat_natCast→u9,eq_ofNat_of_zero_le→V9,le_refl→S0
open List renaming getElem?_eq_some_iff→x6,mem_of_getElem?→x7,getElem?_eq_getElem→x8,getElem?_map→u4,getD_eq_getElem?_getD→u5,length_map→r8,take_add_one→r9,replicate→o6,length_set→o7,length_take→o8,length_append→o9,getElem?_set_self→n9,take_length→j4,mem_map→j5,mem_append→j9,mem_singleton→b9,take_of_length_le→Z0,map_append→Z3,eq_nil_of_length_eq_zero→Z5,getElem?_set_ne→Z6,getElem?_append_right→Z7,length_cons→Y0,getElem?_append_left→Y4,getElem?_eq_none→Y5,getElem?_take_of_lt→Y6,getElem?_set→Y7,ext_getElem?→X0,range→X9,drop_eq_getElem_cons→W3,mem_or_eq_of_mem_set→W8,length_eq_one_iff→V4,foldl_cons→V5,mem_cons→V7,append_nil→U2,mem_of_mem_take→T1,map_set→T2,map_cons→T3,set_append_right→T4,append_assoc→T6,mem_range→S2,getElem?_drop→R3,getElem_mem→Q9
open Nat renaming le_refl→o4,le_trans→X1,mul_le_mul_right→X4,zero_add→X6,zero_le→W0,sub_self→V2,add_mul→U6,mul_one→T0,lt_of_lt_of_le→S4,beq→S7,add_assoc→Q3,eq_zero_or_pos→Q8
open Ne renaming symm→R7
open Option renaming toList_some→j6,isNone_some→Y2,map_some→Y3,getD_some→W7,map→U7
open Option.some renaming injEq→X7
open Prod.mk renaming injEq→S8
set_option maxHeartbeats 16000000
open Option renaming some→σ,none→ν
abbrev Λ:=List Int
namespace Go
theorem _root_.Eq.F{α:Sort _}{a b c:α}(h:a=b)(g:b=c):a=c:=h.trans g
theorem _root_.Iff.F{a b c:Prop}(h:a<->b)(g:b<->c):a<->c:=h.trans g
theorem _root_.List.Perm.F{α:Type _}{a b c:List α}(h:a.Perm b)(g:b.Perm c):a.Perm c:=h.trans g
set_option linter.defProp false in
def _root_.Go.Calls.Y:=@Calls.mono
theorem _root_.ms{c:Prop}{h:Decidable c}(hc:c){α:Sort _}{t e:α}:ite c t e=t:=if_pos hc
theorem _root_.rc{c:Prop}{h:Decidable c}(hnc:¬c){α:Sort _}{t e:α}:ite c t e=e:=if_neg hnc
theorem _root_.ro{a b:Prop}(h:a)(g:¬a):b:=absurd h g
theorem _root_.rs{p:Prop}[Decidable p](h:p):decide p=true:=decide_eq_true h
theorem _root_.s2{p:Prop}[Decidable p](h:¬p):decide p=false:=decide_eq_false h
theorem _root_.sp{p:Prop}[Decidable p]:(decide p=true)=p:=decide_eq_true_eq
theorem _root_.ty{p:Prop}[Decidable p](h:decide p=true):p:=of_decide_eq_true h
theorem Ω{p:Prop}(h:p:=by omega):p:=h
theorem Ψ{p:Prop}(h:p:=by kernel_rfl):p:=h
theorem Φ{p:Prop}(h:p:=by decide):p:=h
theorem Ξ{p:Prop}(h:p:=by simp):p:=h
theorem Θ{p:Prop}(h:p:=by simp;omega):p:=h
abbrev Γ(n:Nat):Value:=.pointer (some ⟨n,0,none⟩)
abbrev Δ:Int→Value:=Value.int .i64
end Go
variable{a y:Int}{c h j n:Nat}{I w:x5}{S:Nat->Prop}{aT s1 sv v z:x4}{args cs vs xs:List x4}{K:x4->Prop}{aj l:Λ}{D:List Nat}{f k:j0}{e t:o5}{cx cy:Bool}
namespace Go.Vc
open Go Go.RowKit
def fH:Obj->Bool
 | .loop _=>v6
 | .deferred _=>v6
 | .mapIter ..=>v6
 |_=>v2
def book:Obj->Bool
 | .loop _=>v2
 | .deferred _=>v2
 |_=>v6
theorem zb{o:Obj}(h:book o=v2):fH o=v6:=by cases o<;>first|rfl|cases h
def sF:Obj->Bool
 | .mapIter ..=>v2
 |_=>v6
theorem GS{o:Obj}(h:sF o=v2):fH o=v6:=by cases o<;>first|rfl|cases h
structure Ext(w I:x5):Prop where
 size:w.heap.size<=I.heap.size
 aY:∀(r:Nat)(o:Obj),w.heap[r]?=σ o->fH o=v2->I.heap[r]?=σ o
theorem Ext.refl(w:x5):Ext w w:=⟨o4 _,λ_ _ h _=>h⟩
theorem Ext.F{a b c:x5}(h:Ext a b)(k:Ext b c):Ext a c:=
 ⟨X1 h.size k.size,λr o e J=>k.aY r o (h.aY r o e J) J⟩
structure af(S:Nat->Prop)(w I:x5):Prop where
 size:w.heap.size<=I.heap.size
 aY:∀(r:Nat)(o:Obj),w.heap[r]?=σ o->fH o=v2->¬S r->I.heap[r]?=σ o
theorem Ext.V(S:Nat->Prop)(h:Ext w I):af S w I:=⟨h.size,λr o a J _=>h.aY r o a J⟩
theorem af.W(h:af S w I)(e:∀r,r<w.heap.size->¬S r):Ext w I:=
 ⟨h.size,λr o a J=>h.aY r o a J (e r (b8.1 a).1)⟩
theorem af.refl(S:Nat->Prop)(w:x5):af S w w:=⟨o4 _,λ_ _ h _ _=>h⟩
theorem af.F{a b c:x5}(h:af S a b)(k:af S b c):af S a c:=
 ⟨X1 h.size k.size,λr o f J e=>k.aY r o (h.aY r o f J e) J e⟩
theorem af.Y{T:Nat->Prop}{a b:x5}(h:af S a b)(f:∀r,r<a.heap.size->S r->T r):af T a b:=
 ⟨h.size,λr o e J j=>h.aY r o e J λp=>j (f r (b8.1 e).1 p)⟩
theorem Ext.then{a b c:x5}(h:Ext a b)(k:af S b c)(f:∀r,r<a.heap.size->¬S r):Ext a c:=
 ⟨X1 h.size k.size,λr o e J=>k.aY r o (h.aY r o e J) J (f r (b8.1 e).1)⟩
def kJ(w I:x5):Prop:=I.tape=w.tape/\w.drawn<=I.drawn
theorem kJ.ln(h:I.tape=w.tape:=by rfl)(k:I.drawn=w.drawn:=by rfl):kJ w I:=⟨h,Nat.le_of_eq k.symm⟩
theorem kJ.F{a b c:x5}(k:kJ b c)(h:kJ a b):kJ a c:=⟨k.1.F h.1,X1 h.2 k.2⟩
structure cO(w I:x5):Prop where
 os:I.os=w.os
 tape:kJ w I
 output:I.output=w.output
 size:w.heap.size<=I.heap.size
 aY:∀(r:Nat)(o:Obj),w.heap[r]?=σ o->fH o=v6->I.heap[r]?=σ o
structure cL(n:Nat)(w I:x5):Prop where
 os:I.os=w.os
 tape:kJ w I
 output:I.output=w.output
 size:w.heap.size<=I.heap.size
 aY:∀(r:Nat)(o:Obj),w.heap[r]?=σ o->book o=v2->I.heap[r]?=σ o
 old:∀(r:Nat)(o:Obj),r<n->w.heap[r]?=σ o->fH o=v6->I.heap[r]?=σ o
theorem cO.b(h:cO w I):cL n w I:=⟨h.os,h.tape,h.output,h.size,λr o a J=>h.aY r o a (zb J),λr o _ a J=>h.aY r o a J⟩
theorem cL.refl(n:Nat)(w:x5):cL n w w:=⟨rfl,.ln,rfl,o4 _,λ_ _ h _=>h,λ_ _ _ h _=>h⟩
theorem cL.F{a b c:x5}(h:cL n a b)(k:cL n b c):cL n a c:=
 ⟨k.os.F h.os,k.tape.F h.tape,k.output.F h.output,X1 h.size k.size,λr o e J=>k.aY r o (h.aY r o e J) J,λr o f e J=>k.old r o f (h.old r o f e J) J⟩
theorem cL.cB(h:cL n w I)(e:w.heap.size<=n):cO w I:=
 ⟨h.os,h.tape,h.output,h.size,λr o a J=>h.old r o (S4 (b8.1 a).1 e) a J⟩
structure fI(n:Nat)(w I:x5):Prop where
 os:I.os=w.os
 tape:kJ w I
 output:I.output=w.output
 size:w.heap.size<=I.heap.size
 old:∀(r:Nat)(o:Obj),r<n->w.heap[r]?=σ o->fH o=v6->I.heap[r]?=σ o
theorem cL.o(h:cL n w I):fI n w I:=⟨h.os,h.tape,h.output,h.size,h.old⟩
theorem cO.o(h:cO w I):fI n w I:=⟨h.os,h.tape,h.output,h.size,λr o _ a J=>h.aY r o a J⟩
theorem fI.Y{m:Nat}(h:fI n w I)(hm:m<=n):fI m w I:=⟨h.os,h.tape,h.output,h.size,λr o a=>h.old r o (S4 a hm)⟩
theorem cL.zc{m:Nat}{a b c:x5}(h:cL n a b)(k:fI m b c)(hm:a.heap.size<=m):cL n a c:=
 ⟨k.os.F h.os,k.tape.F h.tape,k.output.F h.output,X1 h.size k.size,
  λr o e J=>k.old r o (S4 (b8.1 e).1 hm) (h.aY r o e J) (zb J),
  λr o f e J=>k.old r o (S4 (b8.1 e).1 hm) (h.old r o f e J) J⟩
def e8(w I:x5):Prop:=∀(r:Nat)(o:Obj),w.heap[r]?=σ o->sF o=v2->I.heap[r]?=σ o
theorem e8.refl(w:x5):e8 w w:=λ_ _ h _=>h
theorem e8.F{a b c:x5}(h:e8 a b)(k:e8 b c):e8 a c:=λr o e J=>k r o (h r o e J) J
theorem cO.lp(h:cO w I):e8 w I:=λr o a J=>h.aY r o a (GS J)
abbrev fJ:=Bool×Nat
theorem cO.refl(w:x5):cO w w:=⟨rfl,.ln,rfl,o4 _,λ_ _ h _=>h⟩
theorem cO.F{a b c:x5}(h:cO a b)(k:cO b c):cO a c:=
 ⟨k.os.F h.os,k.tape.F h.tape,k.output.F h.output,X1 h.size k.size,λr o e J=>k.aY r o (h.aY r o e J) J⟩
theorem sG(w:x5)(n:Nat):Ext w {w with drawn:=n}:=⟨o4 _,λ_ _ h _=>h⟩
theorem qN(w:x5)(n:Nat)(h:w.drawn<=n):cO w {w with drawn:=n}:=⟨rfl,⟨rfl,h⟩,rfl,o4 _,λ_ _ h _=>h⟩
theorem qO(w:x5)(o:Obj):Ext w {w with heap:=w.heap.push o}:=
 ⟨Ξ,λr o' h _=>by
  have a:=(b8.1 h).1;simp only[Array.getElem?_push];rw[rc Ω];exact h⟩
theorem qP(w:x5)(o:Obj):cO w {w with heap:=w.heap.push o}:=
 ⟨rfl,.ln,rfl,Ξ,λr o' h _=>by
  have a:=(b8.1 h).1;simp only[Array.getElem?_push];rw[rc Ω];exact h⟩
inductive eI where
 |v (x:x4)
 |b (c:Bool)
 |u
def eI.val:eI->x4
 | .v x=>x
 | .b c=>.bool c
 | .u=>undef
def eI.ofConst:x4->eI
 | .bool c=>.b c
 |x=>.v x
theorem eI.GU(x:x4):(eI.ofConst x).val=x:=by cases x<;>rfl
abbrev Env:=List (Nat×eI)
def look:Env->Nat->Option eI
 |[],_=>ν
 |(s,x)::r,t=>bif S7 s t then σ x else look r t
def eR(e:Env):R4->Option eI
 | .tmp t=>look e t
 | .const x=>σ (eI.ofConst x)
 | .global g=>σ (.v (Γ g))
 | .func f=>σ (.v (.func (.func f) #[] #[]))
def cY(e:Env)(x:R4):x4:=
 match eR e x with
 |some y=>y.val
 |none=>undef
def known(e:Env):List R4->Bool
 |[]=>v2
 |x::r=>(eR e x).isSome&&known e r
def R5(N:Nat)(e:Env)(a:Act):Prop:=
 a.tmps.size=N/\∀t x,look e t=σ x->a.tmps.getD t undef=x.val
theorem R5.eR{N:Nat}{e:Env}{a:Act}(h:R5 N e a){x:R4}{y:eI}(j:Vc.eR e x=σ y):a.eval x=y.val:=by
 cases x with
 |tmp t=>exact h.2 t y j
 |const v=>simp[Vc.eR]at j;subst j;simp[Act.eval,eI.GU]
 |global g=>simp[Vc.eR]at j;subst j;rfl
 |func f=>simp[Vc.eR]at j;subst j;rfl
theorem R5.eval{N:Nat}{e:Env}{a:Act}(h:R5 N e a){x:R4}(j:(Vc.eR e x).isSome=v2):a.eval x=cY e x:=by
 obtain⟨y,f⟩:=Option.isSome_iff_exists.1 j;rw[h.eR f];simp[cY,f]
theorem vt{e:Env}:∀{l:List R4},known e l=v2->∀x∈l,(eR e x).isSome=v2
 |[],_,_,a=>by cases a
 |y::r,h,x,a=>by
  simp only[known,U9]at h;cases a with
  |head=>exact h.1
  |tail _ a=>exact vt h.2 x a
def eh(e:Env)(d:Option Tmp)(x:eI):Env:=
 match d with
 |some t=>(t,x)::e
 |none=>e
def kK(N:Nat)(d:Option Tmp):Bool:=
 match d with
 |some t=>Nat.blt t N
 |none=>v2
theorem R5.put{N:Nat}{e:Env}{a:Act}(h:R5 N e a){d:Option Tmp}(p:kK N d=v2){x:eI}(q:x.val=v):
  R5 N (eh e d x) (a.put d v):=by
 cases d with
 |none=>exact h
 |some t=>
  have r:t<N:=by simpa[kK,Nat.blt_eq]using p
  refine⟨by simp[Act.put,h.1],λs y J=>?_⟩;simp only[eh,look]at J;cases f:S7 t s with
  |true=>
   have j:=Nat.eq_of_beq_eq_true f;subst j;simp only[f,cond_true,X7]at J;subst J;simp[Act.put,h.1,r,q]
  |false=>
   have j:=Nat.ne_of_beq_eq_false f;simp only[f,cond_false]at J;have:=h.2 s y J;simp only[Act.put,Array.getD_eq_getD_getElem?]at this ⊢;rw[Array.getElem?_setIfInBounds_ne j];exact this
def eJ(r:Option Nat):Fence:={Fence.wide with round:=r}
theorem vu(r:Option Nat)(n:Nat):(eJ r).depth.isSome=v2->1<=n:=λh=>by simp[eJ,Fence.wide]at h
theorem zd{r:Option Nat}{P:V3}{f:Q6}{args:Array x4}{R:Ending->x5->Prop}(h:Calls P f args w R):CallsIn (eJ r) n P f args w R:=by
 have:=(callsIn_wide (n:=n)).2 h;exact this
section
variable(P:V3)
def aF{α:Type}(s:Sem α)(w:x5)(K:α->x5->Prop):Prop:=∃v I,s.run P w= .ok v I/\cO w I/\K v I
def sH{α:Type}(free:fJ)(s:Sem α)(w:x5)(K:α->x5->Prop):Prop:=∃v I,s.run P w= .ok v I/\(free.1=v6->cL free.2 w I)/\K v I
def Split(x:x4)(A B:Prop):Prop:=∃c,x= .bool c/\(c=v2->A)/\(c=v6->B)
def ba:Bool->R4
 |true=>.const (.bool v2)
 |false=>.tmp 0
def pN:R4->Bool
 | .const _=>v2
 |_=>v6
theorem GV(op:BinOp)(t:o5)(x y:R4)(a b:x4):eqGuard op t x y a b=eqGuard op t (ba (pN x)) (ba (pN y)) a b:=by
 cases x<;>cases y<;>rfl
def aO(op:BinOp)(t:o5)(cx cy:Bool)(a b:x4):Sem x4:=do eqGuard op t (ba cx) (ba cy) a b;binOp op t a b
def sI(s:Sem Next):Sem x4:=do
 match <-s with
 | .value v=>pure v
 |_=>stuck "no value"
def bT(x:x4):Sem x4:=sI (execOp (λ_=>x) {dst:=ν,op:=.nilCheck (.tmp 0),type:=0,pos:= "",after:=#[],guard:=ν})
def b1(a:R4->x4):List R4->List x4
 |[]=>[]
 |x::r=>a x::b1 a r
theorem sJ(a:R4->x4):∀l,b1 a l=l.map a
 |[]=>rfl
 |x::r=>by simp[b1,sJ a r]
theorem vv(a:R4->x4)(l:Array R4):(b1 a l.toList).toArray=l.map a:=by
 apply Array.toList_inj.1;simp[sJ]
def partsOf(a:R4->x4):List (Nat×R4)->List (Nat×x4)
 |[]=>[]
 |x::r=>(x.1,a x.2)::partsOf a r
theorem ze(a:R4->x4):∀l,partsOf a l=l.map λ(i,x)=>(i,a x)
 |[]=>rfl
 |x::r=>by simp[partsOf,ze a r]
theorem GW(a:R4->x4)(l:Array (Nat×R4)):(partsOf a l.toList).toArray=l.map λ(i,x)=>(i,a x):=by
 apply Array.toList_inj.1;simp[ze]
def opsOf:Op->List R4
 | .alloc _| .ready _| .waits _=>[]
 | .move x| .assign x| .box _ x| .load _ x| .nilCheck x| .unOp _ _ x| .convert _ _ x| .sliceToArrayPointer _ x| .makeInterface _ x
 | .makeChan _ x| .fieldAddr _ x _| .field _ x _| .range _ x| .next x _| .entry x| .typeAssert x _ _ _| .extract x _| .panic x| .recv _ x _=>[x]
 | .pick c a b=>[c,a,b]
 | .build _ e| .buildSlice _ _ e=>e.toList.map (·.2)
 | .store _ a v| .binOp _ _ a v _| .makeSlice _ a v| .indexAddr _ a v| .index _ a v| .lookup _ a v _| .mapEntry _ a v| .send a v=>[a,v]
 | .makeFunc _ first j=>first.toList++j.toList
 | .makeMap _ r=>match r with
  |some x=>[x]
  |none=>[]
 | .slice _ x l h m=>x::((match l with
  |some y=>[y]
  |none=>[])++((match h with
  |some y=>[y]
  |none=>[])++(match m with
  |some y=>[y]
  |none=>[])))
 | .mapUpdate _ m k v| .entryStore _ m k v| .insert _ m k v=>[m,k,v]
 | .call c=>match c.callee with
  | .value f=>f::c.args.toList
  | .invoke r _=>r::c.args.toList
  | .builtin _=>c.args.toList
 | .go _| .defer _| .select ..=>[]
theorem GX{op:Op}(h1:∀c,op≠ .go c)(e:∀c,op≠ .defer c)(f:∀cs b,op≠ .select cs b):∀x∈op.operands,x∈opsOf op:=by
 intro x a;cases op<;>simp only[Op.operands,opsOf]at a ⊢<;>try (first|(simp at a;done)|(simp at a ⊢;exact a))
 case go c=>exact ro rfl (h1 c)
 case defer c=>exact ro rfl (e c)
 case select cs b=>exact ro rfl (f cs b)
 case makeMap t r=>cases r<;>simp at a ⊢<;>exact a
 case slice t y l h m=>cases l<;>cases h<;>cases m<;>simpa[or_assoc]using a
 case call c=>cases j:c.callee<;>simpa[Call.operands,j]using a
def qQ(e:R4->x4):Op->Option (Sem x4)
 | .pick c a b=>σ (do pure (if <-asBool (e c)then e a else e b))
 | .alloc j=>σ (Instr.alloc j v2 (.tuple #[]))
 | .box j x=>σ (Instr.box j (e x))
 | .build t parts=>σ (Instr.build t (partsOf e parts.toList).toArray)
 | .buildSlice t len parts=>σ (X2 t len (partsOf e parts.toList).toArray)
 | .load t a=>σ (u6 t (e a))
 | .nilCheck x=>σ (bT (e x))
 | .binOp op jl x y _=>σ (aO op jl (pN x) (pN y) (e x) (e y))
 | .unOp op _ x=>σ (Op.unary op (e x))
 | .convert src dst x=>σ (convert src dst (e x))
 | .makeInterface jl x=>σ (Instr.makeInterface jl (e x))
 | .makeFunc fn first p=>σ (Instr.makeFunc fn (b1 e first.toList).toArray (b1 e p.toList).toArray)
 | .makeMap t r=>σ (Instr.makeMap t (r.map e))
 | .makeSlice t l c=>σ (Instr.makeSlice t (e l) (e c))
 | .slice t x lo hi mx=>σ (U4 t (e x) (lo.map e) (hi.map e) (mx.map e))
 | .fieldAddr s x f=>σ (u7 s (e x) f)
 | .field jl x f=>σ (Instr.field jl (e x) f)
 | .indexAddr t x h=>σ (c9 t (e x) (e h))
 | .index jl x h=>σ (Instr.index jl (e x) (e h))
 | .lookup jl x h ok=>σ (Instr.lookup jl (e x) (e h) ok)
 | .mapEntry t m k=>σ (Instr.mapEntry t (e m) (e k))
 | .range jl x=>σ (Instr.range jl (e x))
 | .entry q=>σ (Instr.entry (e q))
 | .typeAssert x jl w ok=>σ (Instr.typeAssert (e x) jl w ok)
 | .extract t h=>σ (Y8 (e t) h)
 |_=>ν
def vw(e:R4->x4):Op->Option (Sem Unit)
 | .store t a x=>σ (l9 t (e a) (e x))
 | .mapUpdate t m k x=>σ (Instr.mapUpdate t (e m) (e k) (e x))
 | .insert t m k x=>σ (Instr.mapUpdate t (e m) (e k) (e x))
 | .entryStore t m s x=>σ (Instr.entryStore t (e m) (e s) (e x))
 |_=>ν
def pO(b:Y1)(ats:Array o5)(a:o5)(args:Array x4):Option (Sem x4):=
 match b with
 | .append=>σ (Z9 ats a args)
 | .cap=>σ (Y1.cap_ ats a args)
 | .clear=>σ (Y1.clear_ ats a args)
 | .copy=>σ (Y1.copy_ ats a args)
 | .delete=>σ (Y1.delete_ ats a args)
 | .len=>σ (V0 ats a args)
 | .max=>σ (Y1.max_ ats a args)
 | .min=>σ (Y1.min_ ats a args)
 |_=>ν
theorem GY{s:Sem Next}(h:(sI s).run P w= .ok v I):s.run P w= .ok (.value v) I:=by
 unfold sI at h;rw[W9]at h;cases J:s.run P w with
 |halt x U=>rw[J]at h;simp[V1]at h
 |ok x U=>
  rw[J]at h;cases x<;>simp_all [V1,stuck,V8]
theorem GZ(x:x4)(b:Bool)(t:o5):Instr.next x b 0=Instr.next x b t:=rfl
theorem vx{f:R4->x4}{o:S1}{s:Sem x4}(h:qQ f o.op=σ s)(a:s.run P w= .ok v I):
  (execOp f o).run P w= .ok (.value v) I:=by
 cases e:o.op with
 |nilCheck x=>
  rw[e]at h;cases h;have:=GY P a;unfold execOp at this ⊢;simpa[e]using this
 |pick c x y=>
  rw[e]at h;cases h;unfold execOp;simp only[e,W9,V8]at a ⊢;cases j:(asBool (f c)).run P w with
  |halt x U=>rw[j]at a;simp[V1]at a
  |ok x U=>rw[j]at a;simp only[V1,Result.ok.injEq]at a ⊢;simp[a]
 |binOp op jl x y p=>
  rw[e]at h;cases h;unfold execOp;simp only[e];unfold aO at a;rw[<-GV]at a;simp only[W9,V8]at a ⊢;rw[a];rfl
 |_=>
  rw[e]at h
  first
   |(cases h;done)
   |(cases h;simp only[vv,GW]at a;unfold execOp;simp only[e,W9,a,V1,V8])
   |(cases h;unfold execOp;simp only[e,W9,a,V1,V8])
theorem G0{a:R4->x4}{o:S1}{s:Sem Unit}(h:vw a o.op=σ s){v:Unit}(f:s.run P w= .ok v I):
  (execOp a o).run P w= .ok .skip I:=by
 cases e:o.op with
 |_=>
  rw[e]at h
  first
   |(cases h;done)
   |(cases h;unfold execOp;simp only[e,W9,f,V1,V8])
def Enters(f:Q6):Prop:=∀args w,(callFunc f args).run P w= .ok (.enter f args) w
inductive al(f:Q6)(args:List x4)(w:x5)(K:x4->x5->Prop):Prop
 |code (h1:Enters P f) (h2:Calls P f args.toArray w λe I=>∃v,e= .returned v/\cO w I/\K v I)
 |W (v:x4) (I:x5) (h1:(callFunc f args.toArray).run P w= .ok (.value v) I) (h2:cO w I) (h3:K v I)
inductive gM(f:Q6)(args:List x4)(w:x5)(K:x4->x5->Prop):Prop
 |code (h1:Enters P f) (h2:Calls P f args.toArray w λe I=>∃v,e= .returned v/\K v I)
 |W (v:x4) (I:x5) (h1:(callFunc f args.toArray).run P w= .ok (.value v) I) (h3:K v I)
theorem gM.calls{f:Q6}{K:x4->x5->Prop}(h:gM P f args w K)(a:Enters P f):Calls P f args.toArray w λe I=>∃v,e= .returned v/\K v I:=by
 cases h with
 |code _ h=>exact h
 |W v I h1=>rw[a]at h1;cases h1
def iR(l:Nat)(args:List x4)(w:x5)(K:x4->x5->Prop):Prop:=
 YieldAt Fence.wide 0 P l args.toArray w λe I=>∃v,e= .returned v/\K v I
theorem iR.Y{P:V3}{l:Nat}{K a:x4->x5->Prop}(h:iR P l args w K)(e:∀v I,K v I->a v I):iR P l args w a:=by
 obtain⟨fn,tmps,f,body,j,p⟩:=h;exact⟨fn,tmps,f,body,j,RoundIn.mono p λ_ I ⟨v,h1,q⟩=>⟨v,h1,e v I q⟩⟩
def sK(free:Bool)(f:x4)(args:List x4)(w:x5)(K:x4->x5->Prop):Prop:=
 match f with
 | .func (.func g) first cap=>bif free then gM P g (first.toList++args++cap.toList) w K else al P g (first.toList++args++cap.toList) w K
 | .func (.yield l) first _=>bif free then free=v2/\iR P l (first.toList++args) w K else iR P l (first.toList++args) w λv I=>cO w I/\K v I
 |_=>False
def ab(s:Sem x4)(w:x5)(K:x4->Prop):Prop:=∃v,(∀I,Ext w I->s.run P I= .ok v I)/\K v
def G1:List (Nat×Nat):=[(9,22),(22,22)]
def G2(s d:Nat):Bool:=G1.any λp=>S7 p.1 s&&S7 p.2 d
def kg(o:S1):Bool:=
 match o.op with
 | .convert s d _=>!G2 s d
 | .move _| .assign _| .pick .. | .load .. | .nilCheck _| .binOp .. | .unOp .. | .makeInterface .. | .makeFunc .. | .slice .. | .fieldAddr .. | .field ..
 | .indexAddr .. | .index .. | .lookup .. | .extract .. | .build .. | .typeAssert ..=>v2
 | .call c=>
  match c.callee with
  | .builtin .len| .builtin .cap| .builtin .min| .builtin .max=>v2
  |_=>v6
 |_=>v6
def b2(s:Sem x4)(v:x4)(I:x5):Prop:=∀a,Ext I a->s.run P a= .ok v a
def mR(o:S1)(e:Env)(w:x5)(K:Env->(x5->Prop)->Prop):Prop:=
 bif known e (opsOf o.op)then
  match o.op with
  | .move x| .assign x=>
   match eR e x with
   |some y=>K (eh e o.dst y) (λ_=>True)
   |none=>False
  | .pick c a b=>
   match eR e c with
   |some (.b v2)=>(match eR e a with|some y=>K (eh e o.dst y) (λ_=>True)|none=>False)
   |some (.b v6)=>(match eR e b with|some y=>K (eh e o.dst y) (λ_=>True)|none=>False)
   |some (.v x)=>Split x (K (eh e o.dst (.v (cY e a))) (λ_=>True)) (K (eh e o.dst (.v (cY e b))) (λ_=>True))
   |some .u=>False
   |none=>False
  | .call c=>
   match c.callee with
   | .builtin b=>
    match pO b c.argTypes o.type (b1 (cY e) c.args.toList).toArray with
    |some s=>ab P s w λv=>K (eh e o.dst (.v v)) (b2 P s v)
    |none=>False
   |_=>False
  |op=>
   match qQ (cY e) op with
   |some s=>ab P s w λv=>K (eh e o.dst (.v v)) (b2 P s v)
   |none=>False
 else False
def vy(free:fJ)(o:S1)(e:Env)(w:x5)(K:Env->x5->Prop):Prop:=
 bif known e (opsOf o.op)then
  match o.op with
  | .call c=>
   match c.callee with
   | .builtin b=>
    match pO b c.argTypes o.type (b1 (cY e) c.args.toList).toArray with
    |some s=>aF P s w λv I=>K (eh e o.dst (.v v)) I
    |none=>False
   | .value (.func f)=>
    bif free.1 then gM P f (b1 (cY e) c.args.toList) w λv I=>K (eh e o.dst (.v v)) I
    else al P f (b1 (cY e) c.args.toList) w λv I=>K (eh e o.dst (.v v)) I
   | .value x=>sK P free.1 (cY e x) (b1 (cY e) c.args.toList) w λv I=>K (eh e o.dst (.v v)) I
   | .invoke _ _=>False
  | .next x str=>sH P free (Instr.next (cY e x) str 0) w λv I=>K (eh e o.dst (.v v)) I
  |op=>
   match qQ (cY e) op with
   |some s=>aF P s w λv I=>K (eh e o.dst (.v v)) I
   |none=>
    match vw (cY e) op with
    |some s=>aF P s w λ_ I=>K (eh e o.dst (.v undef)) I
    |none=>False
 else False
def pP(free:fJ)(o:S1)(e:Env)(w:x5)(K:Env->x5->Prop):Prop:=
 bif kg o then mR P o e w (λa _=>K a w)else vy P free o e w K
theorem Enters.of{f:Q6}{fn:Func}{c:Code}(a:P.funcs[f]?=σ fn)(e:fn.body=σ c)(h:(fn.name == "runtime.NumGoroutine")=v6):Enters P f:=by
 intro args w;have j:fn.name≠ "runtime.NumGoroutine":=by simpa using h
 unfold callFunc;simp[W9,program,Sem.run,V1,a,j,e,V8]
variable{P}
variable{N:Nat}{r:Option Nat}{o:S1}{e:Env}{a:Act}{w:x5}
theorem lq(f:R5 N e a)(hk:known e (opsOf o.op)=v2)(J:∀cs b,o.op≠ .select cs b)(h:∀c,o.op≠ .go c:=by simp_all)(j:∀c,o.op≠ .defer c:=by simp_all):
  execOp a.eval o=execOp (cY e) o:=
 execOp_congr o J λx p=>f.eval (vt hk x (GX h j J x p))
theorem qR{next:Act->x5->Prop}{Q:Exit->Act->x5->Prop}(j:R5 N e a)(hk:known e (opsOf o.op)=v2)(J:∀cs b,o.op≠ .select cs b)(f:∀c,o.op≠ .defer c){v:x4}{I:x5}(p:(execOp (cY e) o).run P w= .ok (.value v) I)(h:next (a.put o.dst v) I)(q:∀c,o.op≠ .go c:=by simp_all):o.wpIn (eJ r) 0 P a w next Q:=by
 refine⟨λ_ _=>trivial,?_⟩;rw[S1.semAt_eq _ _ _ f,lq j hk J q f,p,S1.uponIn_value];exact h
theorem G3{next:Act->x5->Prop}{Q:Exit->Act->x5->Prop}(j:R5 N e a)(hk:known e (opsOf o.op)=v2)(J:∀cs b,o.op≠ .select cs b)(f:∀c,o.op≠ .defer c){I:x5}(p:(execOp (cY e) o).run P w= .ok .skip I)(h:next (a.put o.dst undef) I)(q:∀c,o.op≠ .go c:=by simp_all):o.wpIn (eJ r) 0 P a w next Q:=by
 refine⟨λ_ _=>trivial,?_⟩;rw[S1.semAt_eq _ _ _ f,lq j hk J q f,p,S1.uponIn_skip];exact h
def fx(N:Nat)(free:fJ)(K:Env->x5->Prop)(o:S1)(a:Act)(w:x5)(a':Act)(I:x5):Prop:=
 ∃e v,K e I/\R5 N e a'/\a'=a.put o.dst v/\(free.1=v6->cL free.2 w I)
theorem fx.of{free:fJ}{K:Env->x5->Prop}{x:eI}(f:K (eh e o.dst x) I)(h:R5 N e a)(j:kK N o.dst=v2)(p:x.val=v)(q:free.1=v6->cL free.2 w I):fx N free K o a w (a.put o.dst v) I:=⟨_,v,f,h.put j p,rfl,q⟩
theorem zf{free:fJ}{K:Env->x5->Prop}{Q:Exit->Act->x5->Prop}{f:Q6}{args:Array x4}(p:R5 N e a)(q:kK N o.dst=v2)(h:Calls P f args w λj I=>∃v,j= .returned v/\(free.1=v6->cL free.2 w I)/\K (eh e o.dst (.v v)) I):
  o.uponIn (eJ r) 0 P a (fx N free K o a w) Q (.ok (.enter f args) w):=by
 rw[S1.uponIn_enter];refine⟨vu _ _,CallsIn.mono (zd h) ?_⟩;rintro j I ⟨v,rfl,s,x⟩;exact fx.of x p q rfl s
theorem mS{x:R4}{y:eI}(h:eR e x=σ y):cY e x=y.val:=by simp[cY,h]
theorem zg{l:List R4}{x:R4}(hk:known e l=v2)(a:x∈l):∃y,eR e x=σ y:=Option.isSome_iff_exists.1 (vt hk x a)
theorem zh{K:Env->(x5->Prop)->Prop}(h:mR P o e w K)(A:R5 N e a)(M:kK N o.dst=v2):
  ∃v,∃st:x5->Prop,(∀I,Ext w I->(execOp a.eval o).run P I= .ok (.value v) I)/\(∃B,K B st/\R5 N B (a.put o.dst v))/\(∀c,o.op≠ .defer c)/\
   (∀I,st I->∀j,Ext I j->(execOp a.eval o).run P j= .ok (.value v) j):=by
 unfold mR at h;cases hk:known e (opsOf o.op)with
 |false=>rw[hk]at h;exact h.elim
 |true=>
  rw[hk]at h;simp only[cond_true]at h;have put:∀{x:eI}{v:x4}{st:x5->Prop},K (eh e o.dst x) st->x.val=v->∃B,K B st/\R5 N B (a.put o.dst v):=λh1 C=>⟨_,h1,A.put M C⟩;cases f:o.op with
  |move x=>
   rw[f]at h;simp only at h;cases q:eR e x with
   |none=>rw[q]at h;exact h.elim
   |some y=>
    rw[q]at h;have all:∀I:x5,(execOp a.eval o).run P I= .ok (.value y.val) I:=λI=>by
     rw[lq A hk (by simp[f])];unfold execOp;simp only[f,V8,mS q]
    exact⟨y.val,_,λI _=>all I,put h rfl,Ξ,λ_ _ j _=>all j⟩
  |assign x=>
   rw[f]at h;simp only at h;cases q:eR e x with
   |none=>rw[q]at h;exact h.elim
   |some y=>
    rw[q]at h;have all:∀I:x5,(execOp a.eval o).run P I= .ok (.value y.val) I:=λI=>by
     rw[lq A hk (by simp[f])];unfold execOp;simp only[f,V8,mS q]
    exact⟨y.val,_,λI _=>all I,put h rfl,Ξ,λ_ _ j _=>all j⟩
  |pick c x y=>
   rw[f]at h;simp only at h;have F:=hk;rw[f]at F;obtain⟨S,q⟩:=zg F (x:=x) (by simp[opsOf]);obtain⟨T,L⟩:=zg F (x:=y) (by simp[opsOf]);have E:∀(t:Bool)(I:x5),cY e c= .bool t->(execOp a.eval o).run P I= .ok (.value (if t=v2 then cY e x else cY e y)) I:=by
    intro t I G;rw[lq A hk (by simp[f])];unfold execOp;simp[f,G,asBool,V8]
   cases p:eR e c with
   |none=>rw[p]at h;exact h.elim
   |some O=>
    rw[p]at h;cases O with
    |b t=>
     cases t with
     |true=>
      simp only[q]at h;exact⟨_,_,λI _=>E v2 I (mS p),put h (by simp[mS q]),Ξ,λ_ _ I _=>E v2 I (mS p)⟩
     |false=>
      simp only[L]at h;exact⟨_,_,λI _=>E v6 I (mS p),put h (by simp[mS L]),Ξ,λ_ _ I _=>E v6 I (mS p)⟩
    |v z=>
     obtain⟨t,Q,G,R⟩:=h;have r:=λI=>E t I (by rw[mS p];exact Q);cases t with
     |true=>exact⟨_,_,λI _=>r I,put (G rfl) rfl,Ξ,λ_ _ I _=>r I⟩
     |false=>exact⟨_,_,λI _=>r I,put (R rfl) rfl,Ξ,λ_ _ I _=>r I⟩
    |u=>exact h.elim
  |call c=>
   rw[f]at h;simp only at h;cases p:c.callee with
   |builtin b=>
    rw[p]at h;simp only at h;rw[vv]at h;cases J:pO b c.argTypes o.type (c.args.map (cY e))with
    |none=>rw[J]at h;exact h.elim
    |some s=>
     rw[J]at h;obtain⟨v,r,H⟩:=h;have all:∀I:x5,s.run P I= .ok v I->(execOp a.eval o).run P I= .ok (.value v) I:=λI r=>by
      rw[lq A hk (by simp[f])];unfold execOp;cases b<;>simp only[pO]at J<;>first|(cases J;done)|(cases J;simp[f,p,resolve,invoke,builtin,r,V1])
     exact⟨v,_,λI hw=>all I (r I hw),put H rfl,Ξ,λI h1 j C=>all j (h1 j C)⟩
   |value x=>rw[p]at h;exact h.elim
   |invoke x m=>rw[p]at h;exact h.elim
  |_=>
   rw[f]at h
   first
    |(simp only[qQ]at h;done)
    |(obtain⟨v,r,H⟩:=h
      refine⟨v,_,λI hw=>?_,put H rfl,Ξ,λI h1 j C=>?_⟩
      .rw[lq A hk (by simp[f])];exact vx P (by rw[f];rfl) (r I hw)
      .rw[lq A hk (by simp[f])];exact vx P (by rw[f];rfl) (h1 j C))
theorem G4{free:fJ}{K:Env->x5->Prop}{Q:Exit->Act->x5->Prop}(h:vy P free o e w K)(p:R5 N e a)(C:kK N o.dst=v2):
  o.wpIn (eJ r) 0 P a w (fx N free K o a w) Q:=by
 unfold vy at h;cases hk:known e (opsOf o.op)with
 |false=>rw[hk]at h;exact h.elim
 |true=>
  rw[hk]at h;simp only[cond_true]at h;cases j:o.op with
  |call c=>
   rw[j]at h;simp only at h;cases E:c.callee with
   |builtin b=>
    rw[E]at h;simp only at h;rw[vv]at h;cases J:pO b c.argTypes o.type (c.args.map (cY e))with
    |none=>rw[J]at h;exact h.elim
    |some s=>
     rw[J]at h;obtain⟨v,I,q,A,B⟩:=h;refine qR p hk (by simp[j]) (by simp[j]) (v:=v) ?_ (fx.of B p C rfl λ_=>A.b);unfold execOp;cases b<;>simp only[pO]at J<;>first|(cases J;done)|(cases J;simp[j,E,resolve,invoke,builtin,q,V1])
   |value x=>
    rw[E]at h;have step:∀(d:Deferred)(y:x4),cY e x=y->Deferred.ofValue y (c.args.map (cY e))=pure d->
      (invoke d.target d.args).run P w=(execOp (cY e) o).run P w:=by
     intro d y z S;unfold execOp;simp only[j,E,resolve,z,S,W9,V8,V1]
    have G:∀(g:Q6)(first cap:Array x4),cY e x= .func (.func g) first cap->
      (execOp (cY e) o).run P w=(callFunc g (first.toList++b1 (cY e) c.args.toList++cap.toList).toArray).run P w:=by
     intro g first cap z
     rw[<-step {target:=.fn (.func g) cap,args:=first++c.args.map (cY e)} _ z rfl];simp only[invoke];have H:first++c.args.map (cY e)++cap=(first.toList++b1 (cY e) c.args.toList++cap.toList).toArray:=by apply Array.toList_inj.1;simp[sJ]
     rw[H]
    have enter:∀(g:Q6)(first cap:Array x4),cY e x= .func (.func g) first cap->Enters P g->
      (execOp (cY e) o).run P w= .ok (.enter g (first.toList++b1 (cY e) c.args.toList++cap.toList).toArray) w:=by
     intro g first cap z F
     rw[G g first cap z,F]
    have go:∀(g:Q6)(first cap:Array x4),cY e x= .func (.func g) first cap->
      (bif free.1 then gM P g (first.toList++b1 (cY e) c.args.toList++cap.toList) w λv I=>K (eh e o.dst (.v v)) I
       else al P g (first.toList++b1 (cY e) c.args.toList++cap.toList) w λv I=>K (eh e o.dst (.v v)) I)->
      o.wpIn (eJ r) 0 P a w (fx N free K o a w) Q:=by
     intro g first cap z h
     obtain⟨fr,T⟩:=free;cases fr with
     |true=>
      rcases h with⟨F,L⟩|⟨v,I,q,B⟩
      .refine⟨λ_ _=>trivial,?_⟩;rw[S1.semAt_eq _ _ _ (by simp[j]),lq p hk (by simp[j])];rw[enter g first cap z F];exact zf p C (L.Y λR I ⟨v,h1,M⟩=>⟨v,h1,(λh=>by cases h),M⟩)
      .rw[<-G g first cap z]at q;exact qR p hk (by simp[j]) (by simp[j]) q (fx.of B p C rfl λh=>by cases h)
     |false=>
      rcases h with⟨F,L⟩|⟨v,I,q,A,B⟩
      .refine⟨λ_ _=>trivial,?_⟩;rw[S1.semAt_eq _ _ _ (by simp[j]),lq p hk (by simp[j])];rw[enter g first cap z F];exact zf p C (L.Y λR I ⟨v,h1,A,M⟩=>⟨v,h1,λ_=>A.b,M⟩)
      .rw[<-G g first cap z]at q;exact qR p hk (by simp[j]) (by simp[j]) q (fx.of B p C rfl λ_=>A.b)
    have O:sK P free.1 (cY e x) (b1 (cY e) c.args.toList) w (λv I=>K (eh e o.dst (.v v)) I)->
      o.wpIn (eJ r) 0 P a w (fx N free K o a w) Q:=by
     intro h;unfold sK at h;split at h
     .rename_i g first cap z
      exact go g first cap z h
     .rename_i l first cap z
      obtain⟨fn,tmps,U,body,V,W⟩:iR P l (first.toList++b1 (cY e) c.args.toList) w λv I=>(free.1=v6->cL free.2 w I)/\K (eh e o.dst (.v v)) I:=by
       obtain⟨fr,T⟩:=free;cases fr with
       |true=>exact iR.Y h.2 λv I hk=>⟨(λh=>by cases h),hk⟩
       |false=>exact iR.Y h λv I hk=>⟨λ_=>hk.1.b,hk.2⟩
      refine⟨λ_ _=>trivial,?_⟩;rw[S1.semAt_eq _ _ _ (by simp[j]),lq p hk (by simp[j])];have:(execOp (cY e) o).run P w= .ok (.round l fn tmps U body) w:=by
       rw[<-step {target:=.fn (.yield l) cap,args:=first++c.args.map (cY e)} _ z rfl,<-V];have H:(first.toList++b1 (cY e) c.args.toList).toArray=first++c.args.map (cY e):=by apply Array.toList_inj.1;simp[sJ]
       rw[H];rfl
      rw[this,S1.uponIn_round];refine⟨vu _ _,?_⟩;have X:=W;refine RoundIn.mono X ?_;rintro R I ⟨v,rfl,A,B⟩;exact fx.of B p C rfl A
     .exact h.elim
    cases x with
    |func f=>exact go f #[] #[] rfl (by simpa using h)
    |tmp t=>exact O h
    |const v=>exact O h
    |global g=>exact O h
   |invoke x m=>rw[E]at h;exact h.elim
  |next x str=>
   rw[j]at h;obtain⟨v,I,q,A,B⟩:=h;refine qR p hk (by simp[j]) (by simp[j]) (v:=v) ?_ (fx.of B p C rfl A);rw[GZ _ _ o.type]at q;unfold execOp;simp only[j,W9,q,V1,V8]
  |_=>
   rw[j]at h
   first
    |(simp only[qQ,vw]at h;done)
    |(obtain⟨v,I,q,A,B⟩:=h
      exact qR p hk (by simp[j]) (by simp[j]) (vx P (by rw[j];rfl) q) (fx.of B p C rfl λ_=>A.b))
    |(obtain⟨v,I,q,A,B⟩:=h
      exact G3 p hk (by simp[j]) (by simp[j]) (G0 P (by rw[j];rfl) q) (fx.of B p C rfl λ_=>A.b))
theorem sL{free:fJ}{K:Env->x5->Prop}{Q:Exit->Act->x5->Prop}(h:pP P free o e w K)(j:R5 N e a)(p:kK N o.dst=v2):
  o.wpIn (eJ r) 0 P a w (fx N free K o a w) Q:=by
 unfold pP at h;cases q:kg o with
 |false=>rw[q]at h;exact G4 h j p
 |true=>
  rw[q]at h;have h:mR P o e w (λf _=>K f w):=h;obtain⟨v,st,s,⟨f,x,y⟩,z,_⟩:=zh h j p;refine⟨λ_ _=>trivial,?_⟩;rw[S1.semAt_eq _ _ _ z,s w (Ext.refl _),S1.uponIn_value];exact⟨f,v,x,y,rfl,λ_=>cL.refl _ _⟩
end
section
variable{P:V3}
def Still{α:Type}(P:V3)(s:Sem α):Prop:=∀w v U,s.run P w= .ok v U->U=w/\∀I,s.run P I= .ok v I
theorem Still.pure{α:Type}(a:α):Still P (Pure.pure a:Sem α):=λw v U h=>by
 rw[V8]at h;cases h;exact⟨rfl,λI=>by rw[V8]⟩
theorem Still.bind{α β:Type}{s:Sem α}{f:α->Sem β}(J:Still P s)(j:∀a,Still P (f a)):Still P (s >>= f):=λw v U h=>by
 rw[W9]at h;cases e:s.run P w with
 |halt x aa=>rw[e]at h;simp[V1]at h
 |ok a aa=>
  rw[e]at h;obtain⟨rfl,p⟩:=J w a aa e;obtain⟨rfl,q⟩:=j a _ v U h;exact⟨rfl,λI=>by rw[W9,p I];exact q I⟩
theorem Still.never{α:Type}{s:Sem α}(h:∀w v U,s.run P w≠ .ok v U):Still P s:=λw v U aW=>ro aW (h w v U)
theorem Still.stuck{α:Type}(m:String):Still P (stuck m:Sem α):=.never λw v U h=>by simp[Go.stuck]at h
theorem Still.unsupported{α:Type}(m):Still P (unsupported m:Sem α):=.never λw v U h=>by simp[Go.unsupported]at h
theorem Still.program:Still P program:=λw v U h=>by cases h;exact⟨rfl,λ_=>rfl⟩
theorem Still.underlying(t:o5):Still P (underlying t):=Still.bind .program λp=>by
 cases p.underlying t with
 |some d=>exact Still.pure d
 |none=>exact Still.stuck _
theorem Still.typeInfo(t:o5):Still P (typeInfo t):=Still.bind .program λp=>by
 cases p.info? t with
 |some d=>exact Still.pure d
 |none=>exact Still.stuck _
theorem Still.sizeOf(t:o5):Still P (sizeOf t):=Still.bind (.typeInfo t) λ_=>Still.pure _
theorem Still.boundsPanic{α:Type}(k:j0)(x y:Int)(c:BoundsCode):Still P (boundsPanic k x y c:Sem α):=.never λw v U h=>by
 have e:∀(s:Sem Bool)(w:x5)(v:α)(U:x5),(s >>= λb=>(runtimePanic (.bounds (W5.wrap x) y b c):Sem α)).run P w≠ .ok v U:=by
  intro s w v U h;rw[W9]at h;cases f:s.run P w with
  |halt x aa=>rw[f]at h;simp[V1]at h
  |ok a aa=>rw[f]at h;simp[V1,Go.runtimePanic,Go.goPanic]at h
 unfold Go.boundsPanic at h;dsimp only at h;split at h
 .exact e _ _ _ _ h
 .exact e _ _ _ _ h
theorem Still.asIntOf(v:x4):Still P (asIntOf v):=by
 unfold Go.asIntOf;split
 .exact Still.pure _
 .exact Still.unsupported _
 .exact Still.stuck _
theorem Still.sureAddr(v:x4):Still P (Instr.sureAddr v):=by
 unfold Instr.sureAddr;split
 .exact Still.pure _
 .exact Still.stuck _
theorem Still.extract(v:x4)(i:Nat):Still P (Y8 v i):=by
 unfold Y8;split
 .split
  .exact Still.pure _
  .exact Still.stuck _
 .exact Still.stuck _
theorem Still.indexAt(t:o5)(x i:x4):Still P (c9 t x i):=by
 have tail:∀(t:o5)(k:j0)(i:Int)(base:Option Addr)(len:Nat)(e:o5),Still P (do
   let f:=len<=1&&(match <-Go.underlying t with| .array ..=>v2|_=>v6)
   match base with
   |some a=>
    if 0<=i/\i<len then Pure.pure (x4.pointer (σ (a.add (i.toNat*(<-Go.sizeOf e)))))
    else if f then Go.unsupported (.noEntry "op/indexAddr.an index out of range at an array of length 0 or 1 (ledger 616)")
    else Go.boundsPanic k i len .index
   |none=>Go.boundsPanic k i 0 .index):=by
  intro t k i base len e;refine .bind (.underlying t) λd=>?_;cases base with
  |none=>exact Still.boundsPanic _ _ _ _
  |some a=>
   dsimp only;split
   .exact .bind (.sizeOf e) λ_=>.pure _
   .split<;>split<;>first|exact Still.unsupported _|exact Still.boundsPanic _ _ _ _
 unfold c9;refine .bind (.asIntOf i) λh=>?_;refine .bind (.underlying t) λd=>?_;split
 .refine .bind (.sureAddr _) λb=>?_;refine .bind (.pure _) λy=>?_;exact tail _ _ _ _ _ _
 .refine .bind (.pure _) λy=>?_;exact tail _ _ _ _ _ _
 .refine .bind (.stuck _) λy=>?_;exact tail _ _ _ _ _ _
end
section
variable(P:V3)
def sM(free:fJ)(ops:Array S1)(o:S1)(e:Env)(w:x5)(K:Env->x5->Prop):Prop:=
 match o.guard with
 |none=>pP P free o e w K
 |some (j,b)=>
  match(ops[j]?).bind (·.dst)with
  |none=>False
  |some s=>
   match look e s with
   |some (.b c)=>bif xor c b then K (eh e o.dst .u) w else pP P free o e w K
   |some (.v x)=>
    Split x (bif b then pP P free o ((s,.b v2)::e) w K else K (eh ((s,.b v2)::e) o.dst .u) w)
     (bif b then K (eh ((s,.b v6)::e) o.dst .u) w else pP P free o ((s,.b v6)::e) w K)
   |some .u=>K (eh e o.dst .u) w
   |none=>False
def pQ(free:fJ)(ops:Array S1):List S1->Env->x5->(Env->x5->Prop)->Prop
 |[],e,w,K=>K e w
 |o::l,e,w,K=>sM P free ops o e w λa I=>pQ free ops l a I K
def vz(ops:Array S1)(o:S1)(e:Env)(w:x5)(K:Env->(x5->Prop)->Prop):Prop:=
 match o.guard with
 |none=>mR P o e w K
 |some (j,b)=>
  match(ops[j]?).bind (·.dst)with
  |none=>False
  |some s=>
   match look e s with
   |some (.b c)=>bif xor c b then K (eh e o.dst .u) (λ_=>True)else mR P o e w K
   |some (.v x)=>
    Split x (bif b then mR P o ((s,.b v2)::e) w K else K (eh ((s,.b v2)::e) o.dst .u) (λ_=>True))
     (bif b then K (eh ((s,.b v6)::e) o.dst .u) (λ_=>True)else mR P o ((s,.b v6)::e) w K)
   |some .u=>K (eh e o.dst .u) (λ_=>True)
   |none=>False
def mT(o:S1):Bool:=
 match o.op with
 | .move _| .assign _| .extract .. | .indexAddr ..=>v2
 |_=>v6
def nA(ops:Array S1):List Nat->Option Nat
 |[]=>ν
 |i::r=>match ops[i]? with
  |some o=>bif kg o then σ i else nA ops r
  |none=>nA ops r
def vA(p:Nat->Prop):List Nat->Prop
 |[]=>True
 |[i]=>p i
 |i::r=>p i/\vA p r
def l0(a:Array Nat)(j k:Nat):Bool:=!(S7 k j)&&(!((a.getD j 0).testBit k)&& !((a.getD k 0).testBit j))
def sN(same:Bool)(q:Nat)(w:x5)(st:x5->Prop)(a:List (x5×List (Nat×(x5->Prop)))):List (x5×List (Nat×(x5->Prop))):=
 match same,a with
 |true,g::r=>(g.1,(q,st)::g.2)::r
 |_,a=>(w,[(q,st)])::a
def qS(a:Array Nat)(j:Nat):List (Nat×(x5->Prop))->Bool
 |[]=>v6
 |x::r=>l0 a j x.1||qS a j r
def pR(a:Array Nat)(j:Nat)(I:x5):List (Nat×(x5->Prop))->Prop
 |[]=>True
 |x::r=>bif l0 a j x.1 then x.2 I/\pR a j I r else pR a j I r
def oz(a:Array Nat)(j:Nat)(I:x5)(C:Prop):List (x5×List (Nat×(x5->Prop)))->Prop
 |[]=>C
 |g::r=>bif qS a j g.2 then(Ext g.1 I\/pR a j I g.2)/\oz a j I C r else oz a j I C r
def nB(free:fJ)(ops:Array S1)(f:Array Nat):Nat->Array Bool->Bool->List (x5×List (Nat×(x5->Prop)))->Env->x5->(Env->x5->Prop)->Prop
 |0,a,_,_,e,w,K=>match Region.ready .any ops a with|[]=>K e w|_=>False
 |fuel+1,a,same,h,e,w,K=>
  match Region.ready .any ops a with
  |[]=>K e w
  |i::r=>
   match nA ops (i::r)with
   |some q=>
    bif Region.free .any ops a q then
     match ops[q]? with
     |some o=>vz P ops o e w λp st=>
       bif mT o then nB free ops f fuel (a.setIfInBounds q v2) same h p w K
       else nB free ops f fuel (a.setIfInBounds q v2) v2 (sN same q w st h) p w K
     |none=>False
    else False
   |none=>
    vA (λj=>match ops[j]? with
     |some o=>sM P free ops o e w λp I=>oz f j I (nB free ops f fuel (a.setIfInBounds j v2) v6 h p I K) h
     |none=>False) (i::r)
def vB(free:fJ)(ops:Array S1)(e:Env)(w:x5)(K:Env->x5->Prop):Prop:=
 bif Region.noSelect ops then nB P free ops (Region.before ops) ops.size (Array.replicate ops.size v6) v6 [] e w K else False
end
section
variable{P:V3}{N:Nat}{r:Option Nat}{free:fJ}{ops:Array S1}
theorem G5{e:Env}{a:Act}(p:R5 N e a){s:Nat}{c:Bool}(q:(ops[j]?).bind (·.dst)=σ s){x:eI}(J:look e s=σ x)(r:x.val= .bool c):
  yielded ops a.tmps j=σ c:=by
 have h:=p.2 s x J;rw[r]at h;have w:a.tmps[s]?=σ (.bool c):=by
  rw[Array.getD_eq_getD_getElem?]at h;cases f:a.tmps[s]? with
  |none=>rw[f]at h;simp[undef]at h
  |some y=>rw[f]at h;simpa using h
 simp[yielded,q,w]
theorem sO{e:Env}{a:Act}(f:R5 N e a){o:S1}{s:Nat}{b c:Bool}(h:o.guard=σ (j,b))(p:(ops[j]?).bind (·.dst)=σ s){x:eI}(J:look e s=σ x)(q:x.val= .bool c):Region.wanted o (yielded ops a.tmps)= !(xor c b):=by
 simp only[Region.wanted,h,G5 f p J q];cases c<;>cases b<;>rfl
theorem zi{e:Env}{a:Act}(p:R5 N e a){o:S1}{s:Nat}{b:Bool}(q:o.guard=σ (j,b))(r:(ops[j]?).bind (·.dst)=σ s)(J:look e s=σ .u):Region.wanted o (yielded ops a.tmps)=v6:=by
 have h:=p.2 s .u J;have w:yielded ops a.tmps j=ν:=by
  rw[Array.getD_eq_getD_getElem?]at h;unfold yielded;rw[r];cases f:a.tmps[s]? with
  |none=>simp[f]
  |some y=>
   rw[f]at h;simp only[W7,eI.val]at h;subst h;simp[f,undef]
 simp[Region.wanted,q,w]
theorem R5.lit{e:Env}{a:Act}(h:R5 N e a){s:Nat}{x:eI}{c:Bool}(J:look e s=σ x)(p:x.val= .bool c):R5 N ((s,.b c)::e) a:=by
 refine⟨h.1,λt y f=>?_⟩;simp only[look]at f;cases j:S7 s t with
 |true=>
  have:s=t:=Nat.eq_of_beq_eq_true j;subst this;simp only[j,cond_true,X7]at f;subst f;rw[h.2 s x J,p];rfl
 |false=>simp only[j,cond_false]at f;exact h.2 t y f
theorem zj{o:S1}{e:Env}{a:Act}{K:Env->x5->Prop}{Q:Exit->Act->x5->Prop}(h:sM P free ops o e w K)(f:R5 N e a)(p:kK N o.dst=v2):
  (Region.wanted o (yielded ops a.tmps)=v2/\o.wpIn (eJ r) 0 P a w (fx N free K o a w) Q)\/
  (Region.wanted o (yielded ops a.tmps)=v6/\fx N free K o a w (a.put o.dst undef) w):=by
 unfold sM at h;cases q:o.guard with
 |none=>rw[q]at h;exact .inl ⟨by simp[Region.wanted,q],sL h f p⟩
 |some F=>
  obtain⟨j,b⟩:=F;rw[q]at h;simp only at h;cases z:(ops[j]?).bind (·.dst)with
  |none=>rw[z]at h;exact h.elim
  |some s=>
   rw[z]at h;simp only at h;cases J:look e s with
   |none=>rw[J]at h;exact h.elim
   |some x=>
    rw[J]at h;cases x with
    |b c=>
     simp only at h;have hw:=sO f q z J rfl;cases E:xor c b with
     |true=>
      rw[E]at h hw;exact .inr ⟨hw,fx.of h f p rfl λ_=>cL.refl _ _⟩
     |false=>
      rw[E]at h hw;exact .inl ⟨hw,sL h f p⟩
    |v y=>
     simp only at h;obtain⟨c,rfl,A,B⟩:=h;have hw:=sO f q z J rfl;have C:=f.lit J rfl;cases c with
     |true=>
      have A:=A rfl;cases b with
      |true=>exact .inl ⟨hw,sL A C p⟩
      |false=>exact .inr ⟨hw,fx.of A C p rfl λ_=>cL.refl _ _⟩
     |false=>
      have B:=B rfl;cases b with
      |true=>exact .inr ⟨hw,fx.of B C p rfl λ_=>cL.refl _ _⟩
      |false=>exact .inl ⟨hw,sL B C p⟩
    |u=>exact .inr ⟨zi f q z J,fx.of h f p rfl λ_=>cL.refl _ _⟩
def gN(D:List Nat)(a a':Act):Prop:=a'.defers=a.defers/\∀t,t∉D->a'.tmps.getD t undef=a.tmps.getD t undef
theorem gN.refl(D:List Nat)(a:Act):gN D a a:=⟨rfl,λ_ _=>rfl⟩
theorem gN.F{a b c:Act}(h:gN D a b)(k:gN D b c):gN D a c:=⟨k.1.F h.1,λt e=>(k.2 t e).F (h.2 t e)⟩
theorem gN.put(a:Act){d:Option Tmp}(v:x4)(e:∀t,d=σ t->t∈D):gN D a (a.put d v):=by
 cases d with
 |none=>exact gN.refl _ _
 |some s=>
  refine⟨rfl,λt f=>?_⟩;have j:s≠t:=λh=>f (h▸e s rfl);simp only[Act.put,Array.getD_eq_getD_getElem?];rw[Array.getElem?_setIfInBounds_ne j]
def nC(N:Nat)(free:fJ)(K:Env->x5->Prop)(D:List Nat)(a:Act)(w:x5)(a':Act)(I:x5):Prop:=
 ∃e,K e I/\R5 N e a'/\gN D a a'/\(free.1=v6->cL free.2 w I)
theorem nC.step{K:Env->x5->Prop}{a e a':Act}{U:x5}(h:nC N free K D e U a' I)(hk:gN D a e)(j:free.1=v6->cL free.2 w U):
  nC N free K D a w a' I:=by
 obtain⟨p,h1,q,r,s⟩:=h;exact⟨p,h1,q,hk.F r,λf=>(j f).F (s f)⟩
def oA(N:Nat)(l:List S1):Bool:=l.all λo=>kK N o.dst
theorem G6{K:Env->x5->Prop}{Q:Exit->Act->x5->Prop}(B:∀o∈ops.toList,∀t,o.dst=σ t->t∈D)(y:oA N ops.toList=v2):
  ∀(l:List S1)(k:Nat)(e:Env)(a:Act)(w:x5),(∀j,l[j]?=ops[k+j]?)->pQ P free ops l e w K->R5 N e a->
   (∀a' I,nC N free K D a w a' I->Q .normal a' I)->wpOpsIn (eJ r) 0 P ops Q (List.range' k l.length) a w:=by
 intro l;induction l with
 |nil=>
  intro k e a w _ h f p;exact p a w ⟨e,h,f,gN.refl _ _,λ_=>cL.refl _ _⟩
 |cons o l C=>
  intro k e a w z h f p;have q:=z 0;simp only[List.getElem?_cons_zero,Nat.add_zero]at q;have A:o∈ops.toList:=by
   have:=q.symm;rw[<-Q0]at this;exact x7 this
  have E:kK N o.dst=v2:=by
   simp only[oA,List.all_eq_true]at y;exact y o A
  have F:∀j,l[j]?=ops[k+1+j]?:=λj=>by
   have:=z (j+1);rw[List.getElem?_cons_succ]at this;rw[this];congr 1;omega
  have next:∀s U,fx N free (λG I=>pQ P free ops l G I K) o a w s U->wpOpsIn (eJ r) 0 P ops Q (List.range' (k+1) l.length) s U:=by
   rintro s U ⟨H,v,J,L,rfl,M⟩;refine C (k+1) H _ U F J L λa' I ac=>p a' I (ac.step (gN.put a v λt O=>B o A t O) M)
  simp only[pQ]at h;show wpOpsIn (eJ r) 0 P ops Q (k::List.range' (k+1) l.length) a w;unfold wpOpsIn;rw[<-q];simp only;rcases zj h f E with⟨hw,x⟩|⟨hw,x⟩
  .rw[ms hw];exact S1.wpIn_mono next x
  .rw[hw];exact⟨λ_ _=>trivial,next _ _ x⟩
theorem G7{K:Env->x5->Prop}{Q:Exit->Act->x5->Prop}{id:Nat}{e:Env}{a:Act}(f:∀o∈ops.toList,∀t,o.dst=σ t->t∈D)(p:oA N ops.toList=v2)(h:pQ P free ops ops.toList e w K)(q:R5 N e a)(s:∀a' I,nC N free K D a w a' I->Q .normal a' I):
  (Code.region id ops v6).wpIn (eJ r) 0 P Q a w:=by
 refine wpIn_region ?_;have:=G6 (r:=r) f p ops.toList 0 e a w (λj=>Ξ) h q s;rw[List.range_eq_range'];simpa using this
end
section
variable{P:V3}{N:Nat}{r:Option Nat}{free:fJ}{ops:Array S1}{Q:Exit->Act->x5->Prop}
theorem G8(e:Option Nat)(o:S1)(J:∀cs b,o.op≠ .select cs b)(a:Act)(d:Option Tmp)(v:x4)(h:∀t,d=σ t->t∉o.looksAt ops):
  o.semAt e (a.put d v).eval=o.semAt e a.eval:=by
 have he:=execOp_put o J a d v h;unfold S1.semAt;split
 .rename_i l c f;have:resolve (a.put d v).eval c o.type=resolve a.eval c o.type:=resolve_congr c o.type λx j=>Act.eval_put λt p q=>h t p (by
   subst q;refine List.mem_append_left _ (List.mem_filterMap.2 ⟨.tmp t,?_,rfl⟩);rw[f];simpa[Op.operands]using j)
  rw[this]
 .exact he
def nD(o:S1)(w0:x5)(st:x5->Prop)(I:x5):Prop:=mT o=v2\/Ext w0 I\/∃U,st U/\Ext U I
theorem nD.W{o:S1}{w0:x5}{st:x5->Prop}(h:nD o w0 st w)(k:Ext w I):nD o w0 st I:=by
 rcases h with h|h|⟨U,h1,a⟩
 .exact .inl h
 .exact .inr (.inl (h.F k))
 .exact .inr (.inr ⟨U,h1,a.F k⟩)
theorem G9{o:S1}(hm:mT o=v2){e:R4->x4}(h:(execOp e o).run P w= .ok (.value v) w):(execOp e o).run P I= .ok (.value v) I:=by
 unfold mT at hm;split at hm
 .rename_i x a;unfold execOp at h ⊢;simp only[a,V8,Result.ok.injEq,and_true]at h ⊢;exact h
 .rename_i x a;unfold execOp at h ⊢;simp only[a,V8,Result.ok.injEq,and_true]at h ⊢;exact h
 .rename_i x i a;unfold execOp at h ⊢;simp only[a]at h ⊢;exact((Still.bind (Still.extract _ _) λ_=>Still.pure _) _ _ _ h).2 _
 .rename_i t x i a;unfold execOp at h ⊢;simp only[a]at h ⊢;exact((Still.bind (Still.indexAt _ _ _) λ_=>Still.pure _) _ _ _ h).2 _
 .cases hm
def jm(P:V3)(ops:Array S1)(o:S1)(v:x4)(a:Act)(w0:x5->Prop):Prop:=
 (Region.wanted o (yielded ops a.tmps)=v2/\(∀c,o.op≠ .defer c)/\∀I,w0 I->(execOp a.eval o).run P I= .ok (.value v) I)\/
 (Region.wanted o (yielded ops a.tmps)=v6/\v=undef)
theorem jm.put{o e:S1}{a:Act}{w0:x5->Prop}(f:jm P ops o v a w0)(J:∀cs b,o.op≠ .select cs b)(h:∀t,e.dst=σ t->t∉o.looksAt ops)(u:x4):
  jm P ops o v (a.put e.dst u) w0:=by
 unfold jm at*;rw[execOp_put o J a e.dst u h,wanted_put o a e.dst u h];exact f
theorem jm.go{i:Nat}{e:S1}{a:Act}{w0:x5->Prop}(hi:ops[i]?=σ e)(f:jm P ops e v a w0)(hw:w0 w){K:Act->x5->Prop}(h:K (a.put e.dst v) w):
  wpOpIn (eJ r) 0 P ops Q i K a w:=by
 unfold wpOpIn;simp only[hi];rcases f with⟨h1,j,p⟩|⟨h1,rfl⟩
 .rw[ms h1];refine⟨λ_ _=>trivial,?_⟩;rw[S1.semAt_eq _ _ _ j,p w hw,S1.uponIn_value];exact h
 .rw[h1];exact⟨λ_ _=>trivial,h⟩
theorem Ha{p s:S1}(B:ops[j]?=σ s)(C:p.apart ops s=v2)(E:∀cs b,p.op≠ .select cs b)(F:∀cs b,s.op≠ .select cs b)(z:∀c a w,¬Q (.panic c) a w){K:Act->x5->Prop}{a:Act}{w:x5}{w0:x5->Prop}(q:jm P ops p v a w0)(h:wpOpIn (eJ r) 0 P ops Q j K (a.put p.dst v) w):
  wpOpIn (eJ r) 0 P ops Q j (λa' I=>jm P ops p v a' w0/\K (a'.put p.dst v) I) a w:=by
 obtain⟨h1,y,G⟩:=S1.apart_spec C;have aY:∀(a:Act),jm P ops p v a w0->∀u,jm P ops p v (a.put s.dst u) w0:=λa q u=>q.put E G u;have H:∀d,jm P ops p v {a with defers:=d::a.defers} w0:=λd=>q;unfold wpOpIn at*;simp only[B]at*;rw[wanted_put s a p.dst v h1]at h;split
 .rename_i hw;simp only[hw,if_true]at h;obtain⟨_,h⟩:=h;refine⟨λ_ _=>trivial,?_⟩;rw[G8 _ s F a p.dst v h1]at h;generalize (s.semAt (eJ r).round a.eval).run P w=J at*;cases J with
  |ok n I=>
   cases n<;>simp only[S1.uponIn]at h ⊢
   case value u=>exact⟨aY a q u,by rw[<-Act.put_comm a v u y];exact h⟩
   case skip=>exact⟨aY a q _,by rw[<-Act.put_comm a v undef y];exact h⟩
   case defer d=>
    refine⟨aY _ (H d) _,?_⟩;rw[<-Act.put_comm _ v undef y,<-Act.put_defers];exact h
   case enter f args=>
    refine⟨h.1,CallsIn.mono h.2 λe A he=>?_⟩;cases e with
    |returned u=>exact⟨aY a q u,by rw[<-Act.put_comm a v u y];exact he⟩
    |panicked c=>exact ro he (z _ _ _)
    |outgrown=>exact he
   case row row args=>exact⟨h.1,RowsIn.mono h.2 λu A he=>⟨aY a q u,by rw[<-Act.put_comm a v u y];exact he⟩⟩
   case round l f tmps L body=>
    refine⟨h.1,RoundIn.mono h.2 λe A he=>?_⟩;cases e with
    |returned u=>exact⟨aY a q u,by rw[<-Act.put_comm a v u y];exact he⟩
    |panicked c=>exact ro he (z _ _ _)
    |outgrown=>exact he
  |halt x I=>
   cases x<;>simp only[S1.uponIn]at h ⊢
   case panic u=>exact ro h (z _ _ _)
 .rename_i hw;simp only[hw]at h;exact⟨λ_ _=>trivial,aY a q _,by rw[<-Act.put_comm a v undef y];exact h.2⟩
def mU(ops:Array S1)(a:Array Nat):Bool:=
 (X9 ops.size).all λj=>(X9 ops.size).all λk=>!((a.getD j 0).testBit k)||
  (match ops[j]? with
   |some o=>o.after.any λe=>Region.binds .any e&&Nat.blt e.on j&&(S7 e.on k||(a.getD e.on 0).testBit k)
   |none=>v6)
def Down(ops:Array S1)(a:Array Bool):Prop:=
 ∀(x:Nat)(o:S1),ops[x]?=σ o->a.getD x v6=v2->∀e∈o.after,Region.binds .any e=v2->a.getD e.on v6=v2
theorem zk{f:Array Nat}(p:mU ops f=v2){k:Nat}(r:j<ops.size)(hk:k<ops.size)(h:(f.getD j 0).testBit k=v2):
  ∃o,ops[j]?=σ o/\∃e∈o.after,Region.binds .any e=v2/\e.on<j/\(e.on=k\/(f.getD e.on 0).testBit k=v2):=by
 simp only[mU,List.all_eq_true,S2]at p;have:=p j r k hk;rw[h]at this;simp only[X3,Bool.false_or]at this;cases q:ops[j]? with
 |none=>rw[q]at this;cases this
 |some o=>
  rw[q]at this;obtain⟨e,he,a⟩:=Array.any_eq_true'.1 this;simp only[U9,Nat.blt_eq,Bool.or_eq_true]at a;exact⟨o,rfl,e,he,a.1.1,a.1.2,a.2.imp (λh=>Nat.eq_of_beq_eq_true h) id⟩
theorem Hb{f:Array Nat}{a:Array Bool}(q:mU ops f=v2)(r:Down ops a):∀(j k:Nat),j<ops.size->k<ops.size->a.getD j v6=v2->
  (f.getD j 0).testBit k=v2->a.getD k v6=v2:=by
 intro j;induction j using Nat.strongRecOn with
 |_ j s=>
  intro k w hk x h;obtain⟨o,y,e,he,z,A,h⟩:=zk q w hk h;have p:=r j o y x e he z;rcases h with rfl|h
  .exact p
  .exact s e.on A k Ω hk p h
theorem zl{f:Array Nat}{a:Array Bool}(p:mU ops f=v2)(w:Down ops a){k:Nat}(hk:k<ops.size)(x:j∈Region.ready .any ops a)(h:(f.getD j 0).testBit k=v2):a.getD k v6=v2:=by
 obtain⟨_,o,q,y⟩:=mem_ready.1 x;have z:=(b8.1 q).1;obtain⟨o',r,e,he,A,B,h⟩:=zk p z hk h;rw[q]at r;cases r;have s:=y e he A;rcases h with rfl|h
 .exact s
 .exact Hb p w e.on k Ω hk s h
theorem Down.set{a:Array Bool}(r:Down ops a){i:Nat}(s:i∈Region.ready .any ops a):Down ops (a.setIfInBounds i v2):=by
 intro x o f h e he j;by_cases p:x=i
 .subst p;obtain⟨_,o',q,w⟩:=mem_ready.1 s;rw[f]at q;cases q;exact getD_set_true (w e he j)
 .rw[getD_set_ne v6 (R7 p)]at h;exact getD_set_true (r x o f h e he j)
theorem vC{a:Array Bool}{k:Nat}(h:a.getD k v2=v6):a.getD k v6=v6:=by
 rcases Nat.lt_or_ge k a.size with aW|aW
 .simpa[aW]using h
 .simp[Array.getElem?_eq_none aW]at h
def nE(ops:Array S1)(i:Nat):Bool:=match ops[i]? with
 |some o=>kg o
 |none=>v6
def nF(a:Array Nat)(e:List (x5×List (Nat×(x5->Prop))))(j:Nat)(I:x5):Prop:=∀g∈e,∀x∈g.2,l0 a j x.1=v2->Ext g.1 I\/x.2 I
theorem vD{e:Array Nat}{j:Nat}{I:x5}:∀{l:List (Nat×(x5->Prop))},pR e j I l->∀x∈l,l0 e j x.1=v2->x.2 I
 |[],_,_,h,_=>by cases h
 |y::l,h,x,a,hu=>by
  unfold pR at h;cases f:l0 e j y.1 with
  |true=>
   rw[f]at h;cases a with
   |head=>exact h.1
   |tail _ a=>exact vD h.2 x a hu
  |false=>
   rw[f]at h;cases a with
   |head=>rw[f]at hu;cases hu
   |tail _ a=>exact vD (show pR e j I l from h) x a hu
theorem zm{e:Array Nat}{j:Nat}:∀{l:List (Nat×(x5->Prop))},qS e j l=v6->∀x∈l,l0 e j x.1=v6
 |[],_,_,h=>by cases h
 |y::l,h,x,a=>by
  simp only[qS,U1]at h;cases a with
  |head=>exact h.1
  |tail _ a=>exact zm h.2 x a
theorem vE{p:Array Nat}{j:Nat}{I:x5}{C:Prop}:∀{w:List (x5×List (Nat×(x5->Prop)))},oz p j I C w->C/\nF p w j I
 |[],h=>⟨h,λg y=>by cases y⟩
 |g::r,h=>by
  unfold oz at h;cases hu:qS p j g.2 with
  |true=>
   rw[hu]at h;obtain⟨h1,q⟩:=vE h.2;refine⟨h1,λs a x f e=>?_⟩;cases a with
   |head=>exact h.1.imp id λh=>vD h x f e
   |tail _ a=>exact q s a x f e
  |false=>
   rw[hu]at h;obtain⟨h1,q⟩:=vE (show oz p j I C r from h);refine⟨h1,λs a x f e=>?_⟩;cases a with
   |head=>rw[zm hu x f]at e;cases e
   |tail _ a=>exact q s a x f e
def vF(ops:Array S1)(a:Array Nat)(e:List (x5×List (Nat×(x5->Prop))))(j:Nat)(w I:x5):Prop:=(nE ops j=v2->Ext w I)/\(nE ops j=v6->nF a e j I)
def jQ(r:Option Nat)(P:V3)(ops:Array S1)(f:Array Nat)(Q:Exit->Act->x5->Prop):Nat->Array Bool->List (x5×List (Nat×(x5->Prop)))->Act->x5->Prop
 |0,e,_,a,w=>Region.ready .any ops e=[]/\Q .normal a w
 |fuel+1,e,h,a,w=>(Region.ready .any ops e=[]->Q .normal a w)/\
  ∀i∈Region.ready .any ops e,wpOpIn (eJ r) 0 P ops Q i (λa' I=>vF ops f h i w I/\jQ r P ops f Q fuel (e.setIfInBounds i v2) h a' I) a w
theorem jQ.any{f:Array Nat}:∀(fuel:Nat)(e:Array Bool)(j:List (x5×List (Nat×(x5->Prop))))(a:Act)(w:x5),jQ r P ops f Q fuel e j a w->wpAnyIn (eJ r) 0 P .any ops Q fuel e a w
 |0,_,_,_,_,h=>h
 |fuel+1,_,_,_,_,h=>⟨h.1,λi hi=>wpOpIn_mono (λa' I aW=>jQ.any fuel _ _ a' I aW.2) (h.2 i hi)⟩
theorem Hc{a:Array Nat}{e:Array Bool}(f:mU ops a=v2)(p:Down ops e){i:Nat}{s:S1}(hi:ops[i]?=σ s)(q:i∈Region.ready .any ops e)(r:j∈Region.ready .any ops e)(w:j≠i):l0 a j i=v2:=by
 have x:=(b8.1 hi).1;obtain⟨y,C,z,_⟩:=mem_ready.1 r;have A:=(b8.1 z).1;have B:=(mem_ready.1 q).1;simp only[l0,U9,Bool.not_eq_true'];refine⟨?_,?_,?_⟩
 .cases h:S7 i j with
  |true=>exact ro (Nat.eq_of_beq_eq_true h).symm w
  |false=>rfl
 .cases h:(a.getD j 0).testBit i with
  |true=>have:=zl f p x r h;rw[vC B]at this;cases this
  |false=>rfl
 .cases h:(a.getD i 0).testBit j with
  |true=>have:=zl f p A q h;rw[vC y]at this;cases this
  |false=>rfl
theorem jQ.take{q:Array Nat}(V:mU ops q=v2)(W:Region.noSelect ops=v2)(X:∀c a w,¬Q (.panic c) a w){i:Nat}{p:S1}(hi:ops[i]?=σ p)(Y:kg p=v2){w0:x5}{B C:List (x5×List (Nat×(x5->Prop)))}(K:∀j I,nF q C j I->nF q B j I){st:x5->Prop}(Z:mT p=v6->∀j I,l0 q j i=v2->nF q C j I->Ext w0 I\/st I):
  ∀(fuel:Nat)(f:Array Bool)(a:Act)(w:x5),Down ops f->
   (∀j z,ops[j]?=σ z->j≠i->f.getD j v2=v6->(∀e∈z.after,Region.binds .any e=v2->e.on≠i)->p.apart ops z=v2)->
   i∈Region.ready .any ops f->jm P ops p v a (nD p w0 st)->nD p w0 st w->
   jQ r P ops q Q fuel (f.setIfInBounds i v2) C (a.put p.dst v) w->jQ r P ops q Q (fuel+1) f B a w:=by
 have L:=Region.noSelect_spec W;have aa:nE ops i=v2:=by simp[nE,hi,Y]
 have iS:∀(fuel:Nat)(f:Array Bool)(a:Act)(w:x5),jQ r P ops q Q fuel f C a w->jQ r P ops q Q fuel f B a w:=by
  intro fuel;induction fuel with
  |zero=>intro f a w h;exact h
  |succ fuel F=>intro f a w h;exact⟨h.1,λj x=>wpOpIn_mono (λa' I aW=>⟨⟨aW.1.1,λG=>K _ _ (aW.1.2 G)⟩,F _ a' I aW.2⟩) (h.2 j x)⟩
 have M:∀w,vF ops q B i w w:=λw=>⟨λ_=>Ext.refl _,λh=>by rw[aa]at h;cases h⟩;intro fuel;induction fuel with
 |zero=>
  intro f a w _ _ y E hw H;refine⟨λh=>(by rw[h]at y;cases y),λj x=>?_⟩;by_cases s:j=i
  .subst s;exact E.go hi hw ⟨M w,iS _ _ _ _ H⟩
  .have:=ready_mono x s;rw[H.1]at this;cases this
 |succ fuel F=>
  intro f a w N O y E hw H;refine⟨λh=>(by rw[h]at y;cases y),λj x=>?_⟩;by_cases s:j=i
  .subst s;exact E.go hi hw ⟨M w,iS _ _ _ _ H⟩
  .have h1:=H.2 j (ready_mono x s);have hu:=Hc V N hi y x s;obtain⟨R,z,J,ab⟩:=mem_ready.1 x;have ac:∀e∈z.after,Region.binds .any e=v2->e.on≠i:=λe he ad ae=>by
    have h1:=ab e he ad;rw[ae,vC (mem_ready.1 y).1]at h1;cases h1
   have af:=Ha J (O j z J s R ac) (λcs b=>L i p cs b hi) (λcs b=>L j z cs b J) X E h1;have ag:∀k ok,ops[k]?=σ ok->k≠i->(f.setIfInBounds j v2).getD k v2=v6->
     (∀e∈ok.after,Region.binds .any e=v2->e.on≠i)->p.apart ops ok=v2:=λk ok hk ah S ai=>by
    refine O k ok hk ah ?_ ai;by_cases T:j=k
    .subst T;exact R
    .rw[getD_set_ne v2 T]at S;exact S
   refine wpOpIn_mono (λa' I A=>⟨⟨A.2.1.1,λG=>K _ _ (A.2.1.2 G)⟩,F (f.setIfInBounds j v2) a' I (N.set x) ag (ready_mono y (R7 s)) A.1 ?_ ?_⟩) af
   .cases hm:mT p with
    |true=>exact .inl hm
    |false=>
     cases U:nE ops j with
     |true=>exact hw.W (A.2.1.1 U)
     |false=>exact .inr ((Z hm j I hu (A.2.1.2 U)).imp id λh=>⟨I,h,Ext.refl _⟩)
   .rw[Array.setIfInBounds_comm _ _ s];exact A.2.2
theorem zn{p:Nat->Prop}:∀{l:List Nat},vA p l->∀i∈l,p i
 |[],_,_,h=>by cases h
 |[i],h,j,a=>by cases a with
  |head=>exact h
  |tail _ h=>cases h
 |i::k::l,h,j,a=>by
  obtain⟨h1,e⟩:=h;cases a with
  |head=>exact h1
  |tail _ a=>exact zn e j a
theorem vG:∀{l:List Nat}{q:Nat},nA ops l=σ q->q∈l/\∃o,ops[q]?=σ o/\kg o=v2
 |[],q,h=>by cases h
 |i::l,q,h=>by
  simp only[nA]at h;cases a:ops[i]? with
  |none=>rw[a]at h;obtain⟨h1,e⟩:=vG h;exact⟨.tail _ h1,e⟩
  |some o=>
   rw[a]at h;simp only at h;cases f:kg o with
   |true=>rw[f]at h;simp only[cond_true,X7]at h;subst h;exact⟨.head _,o,a,f⟩
   |false=>rw[f]at h;obtain⟨h1,e⟩:=vG h;exact⟨.tail _ h1,e⟩
theorem Hd{o:S1}{e:Env}{a:Act}{K:Env->(x5->Prop)->Prop}(h:vz P ops o e w K)(f:R5 N e a)(F:kK N o.dst=v2):
  ∃v st,jm P ops o v a (nD o w st)/\∃p,K p st/\R5 N p (a.put o.dst v):=by
 unfold vz at h;have z:∀{e:Env},R5 N e a->mR P o e w K->Region.wanted o (yielded ops a.tmps)=v2->∃v st,jm P ops o v a (nD o w st)/\∃p,K p st/\R5 N p (a.put o.dst v):=λf h hw=>by
  obtain⟨v,st,h1,G,H,L⟩:=zh h f F;exact⟨v,st,.inl ⟨hw,H,λI A=>A.elim (λhm=>G9 hm (h1 w (Ext.refl w))) λh=>h.elim (h1 I) λ⟨U,M,O⟩=>L U M I O⟩,G⟩
 have skip:∀{e:Env},R5 N e a->K (eh e o.dst .u) (λ_=>True)->Region.wanted o (yielded ops a.tmps)=v6->∃v st,jm P ops o v a (nD o w st)/\∃p,K p st/\R5 N p (a.put o.dst v):=λf h hw=>
  ⟨undef,_,.inr ⟨hw,rfl⟩,_,h,f.put F rfl⟩
 cases q:o.guard with
 |none=>rw[q]at h;exact z f h (by simp[Region.wanted,q])
 |some Q=>
  obtain⟨j,b⟩:=Q;rw[q]at h;simp only at h;cases r:(ops[j]?).bind (·.dst)with
  |none=>rw[r]at h;exact h.elim
  |some s=>
   rw[r]at h;simp only at h;cases J:look e s with
   |none=>rw[J]at h;exact h.elim
   |some x=>
    rw[J]at h;cases x with
    |b c=>
     simp only at h;have hw:=sO f q r J rfl;cases A:xor c b with
     |true=>rw[A]at h hw;exact skip f h hw
     |false=>rw[A]at h hw;exact z f h hw
    |v y=>
     simp only at h;obtain⟨c,rfl,B,C⟩:=h;have hw:=sO f q r J rfl;have E:=f.lit J rfl;cases c with
     |true=>
      have B:=B rfl;cases b with
      |true=>exact z E B hw
      |false=>exact skip E B hw
     |false=>
      have C:=C rfl;cases b with
      |true=>exact skip E C hw
      |false=>exact z E C hw
    |u=>exact skip f h (zi f q r J)
theorem vH:∀{l:List Nat},nA ops l=ν->∀j∈l,nE ops j=v6
 |[],_,_,h=>by cases h
 |i::l,h,j,a=>by
  simp only[nA]at h;cases e:ops[i]? with
  |none=>
   rw[e]at h;cases a with
   |head=>simp[nE,e]
   |tail _ a=>exact vH h j a
  |some o=>
   rw[e]at h;simp only at h;cases f:kg o with
   |true=>rw[f]at h;cases h
   |false=>
    rw[f]at h;cases a with
    |head=>simp[nE,e,f]
    |tail _ a=>exact vH h j a
theorem He{p:Array Nat}{same:Bool}{q:Nat}{st:x5->Prop}{e:List (x5×List (Nat×(x5->Prop)))}(J:same=v2->∃a r,e=(w,a)::r):
  (∀j I,nF p (sN same q w st e) j I->nF p e j I)/\(∀j I,l0 p j q=v2->nF p (sN same q w st e) j I->Ext w I\/st I)/\∃a r,sN same q w st e=(w,a)::r:=by
 cases same with
 |true=>
  obtain⟨a,r,rfl⟩:=J rfl;refine⟨λj I h g f x s hu=>?_,λj I hu h=>h (w,(q,st)::a) (.head _) (q,st) (.head _) hu,_,_,rfl⟩;cases f with
  |head=>exact h (w,(q,st)::a) (.head _) x (.tail _ s) hu
  |tail _ f=>exact h g (.tail _ f) x s hu
 |false=>
  refine⟨λj I h g f x s hu=>h g (.tail _ f) x s hu,λj I hu h=>h (w,[(q,st)]) (.head _) (q,st) (.head _) hu,_,_,rfl⟩
theorem Hf{K:Env->x5->Prop}{z:Array Nat}(W:mU ops z=v2)(X:Region.noSelect ops=v2)(Y:∀c a w,¬Q (.panic c) a w)(M:∀o∈ops.toList,∀t,o.dst=σ t->t∈D)(Z:oA N ops.toList=v2):
  ∀(fuel:Nat)(p:Array Bool)(same:Bool)(s:List (x5×List (Nat×(x5->Prop))))(e:Env)(a:Act)(w:x5),Down ops p->(same=v2->∃ag r,s=(w,ag)::r)->
   nB P free ops z fuel p same s e w K->R5 N e a->
   (∀a' I,nC N free K D a w a' I->Q .normal a' I)->jQ r P ops z Q fuel p s a w:=by
 have F:∀{j:Nat}{o:S1},ops[j]?=σ o->o∈ops.toList:=λh=>by
  rw[<-Q0]at h;exact x7 h
 have ok:∀{j:Nat}{o:S1},ops[j]?=σ o->kK N o.dst=v2:=λh=>by
  simp only[oA,List.all_eq_true]at Z;exact Z _ (F h)
 intro fuel;induction fuel with
 |zero=>
  intro p same s e a w A O h C B;unfold nB at h;cases x:Region.ready .any ops p with
  |nil=>rw[x]at h;exact⟨x,B a w ⟨e,h,C,gN.refl _ _,λ_=>cL.refl _ _⟩⟩
  |cons i l=>rw[x]at h;exact h.elim
 |succ fuel R=>
  intro p same s e a w A O h C B;unfold nB at h;cases x:Region.ready .any ops p with
  |nil=>
   rw[x]at h;refine⟨λ_=>B a w ⟨e,h,C,gN.refl _ _,λ_=>cL.refl _ _⟩,λi hi=>?_⟩;rw[x]at hi;cases hi
  |cons i l=>
   rw[x]at h;simp only at h;cases G:nA ops (i::l)with
   |some q=>
    rw[G]at h;simp only at h;obtain⟨ah,o,f,aa⟩:=vG G;cases H:Region.free .any ops p q with
    |false=>rw[H]at h;exact h.elim
    |true=>
     rw[H,f]at h;simp only[cond_true]at h;obtain⟨v,st,ab,J,y,ad⟩:=Hd h C (ok f);have L:q∈Region.ready .any ops p:=by rw[x];exact ah
     cases hm:mT o with
     |true=>
      rw[hm]at y;refine jQ.take W X Y f aa (λ_ _ h=>h) (λh=>by rw[hm]at h;cases h) fuel p a w A (Region.free_spec f H) L ab (.inr (.inl (Ext.refl _))) ?_;exact R _ same s J _ w (A.set L) O y ad λa' I ac=>B a' I (ac.step (gN.put a v λt E=>M o (F f) t E) λ_=>cL.refl _ _)
     |false=>
      rw[hm]at y;obtain⟨h1,ai,aj⟩:=He O;refine jQ.take W X Y f aa h1 (λ_=>ai) fuel p a w A (Region.free_spec f H) L ab (.inr (.inl (Ext.refl _))) ?_;exact R _ v2 _ J _ w (A.set L) (λ_=>aj) y ad λa' I ac=>B a' I (ac.step (gN.put a v λt E=>M o (F f) t E) λ_=>cL.refl _ _)
   |none=>
    rw[G]at h;simp only at h;refine⟨(λae=>by rw[x]at ae;cases ae),λj af=>?_⟩;have S:=af;rw[x]at S;have ak:=vH G j S;have ac:=zn h j S;cases f:ops[j]? with
    |none=>rw[f]at ac;exact ac.elim
    |some o=>
     rw[f]at ac;simp only at ac;unfold wpOpIn;simp only[f];have next:∀T U,fx N free (λJ I=>oz z j I (nB P free ops z fuel (p.setIfInBounds j v2) v6 s J I K) s) o a w T U->
       vF ops z s j w U/\jQ r P ops z Q fuel (p.setIfInBounds j v2) s T U:=by
      rintro T U ⟨al,v,y,am,rfl,an⟩;obtain⟨y,ao⟩:=vE y;exact⟨⟨λh=>(by rw[ak]at h;cases h),λ_=>ao⟩,
       R _ v6 s al _ U (A.set af) (λh=>by cases h) y am λa' I ac=>B a' I (ac.step (gN.put a v λt E=>M o (F f) t E) an)⟩
     rcases zj ac C (ok f)with⟨hw,V⟩|⟨hw,V⟩
     .rw[ms hw];exact S1.wpIn_mono next V
     .rw[hw];exact⟨λ_ _=>trivial,next _ _ V⟩
theorem Hg(hm:P.follows .mixedOrders=v2){K:Env->x5->Prop}{id:Nat}{e:Env}{a:Act}(p:mU ops (Region.before ops)=v2)(q:∀c a w,¬Q (.panic c) a w)(s:∀o∈ops.toList,∀t,o.dst=σ t->t∈D)(y:oA N ops.toList=v2)(h:∀I,Ext w I->Ext I w->cO w I->vB P free ops e I K)(z:R5 N e a)(A:∀a' I,nC N free K D a w a' I->Q .normal a' I):
  (Code.region id ops v2).wpIn (eJ r) 0 P Q a w:=by
 refine wpIn_region_any hm ?_;have h:=h {w with drawn:=w.drawn+1} (sG w _) ⟨o4 _,λ_ _ h _=>h⟩ (qN w _ (Nat.le_succ _));unfold vB at h;cases f:Region.noSelect ops with
 |false=>rw[f]at h;exact h.elim
 |true=>
  rw[f]at h;refine jQ.any _ _ _ _ _ (Hf p f q s y ops.size _ v6 [] e a _ ?_ (λh=>by cases h) h z λa' I ac=>A a' I (ac.step (gN.refl _ _) λ_=>(qN w _ (Nat.le_succ _)).b));intro x o _ j;rcases Nat.lt_or_ge x ops.size with aW|aW
  .simp[aW]at j
  .simp[aW]at j
end
def kh(t:Nat):List Nat->Bool
 |[]=>v6
 |s::r=>bif S7 s t then v2 else kh t r
theorem vI{t:Nat}:∀{l:List Nat},kh t l=v2↔t∈l
 |[]=>by simp[kh]
 |s::r=>by
  simp only[kh];cases h:S7 s t with
  |true=>simp[Nat.eq_of_beq_eq_true h]
  |false=>
   have:=Nat.ne_of_beq_eq_false h;simp[vI,R7 this]
def oB:List S1->List Nat
 |[]=>[]
 |o::l=>match o.dst with
  |some d=>d::oB l
  |none=>oB l
def tmpsOf:List R4->List Nat
 |[]=>[]
 | .tmp t::l=>t::tmpsOf l
 |_::l=>tmpsOf l
def Hh(ops:Array S1)(o:S1):List Nat:=
 match o.guard with
 |some (j,_)=>match(ops[j]?).bind (·.dst)with
  |some s=>[s]
  |none=>[]
 |none=>[]
def sP(D:List Nat):List Nat->List Nat
 |[]=>[]
 |t::r=>bif kh t D then sP D r else t::sP D r
def vJ(D:List Nat):List Nat->List Nat
 |[]=>[]
 |t::r=>bif kh t D then t::vJ D r else vJ D r
def zo(ops:Array S1):List S1->List Nat->List Nat
 |[],_=>[]
 |o::l,D=>sP D (tmpsOf (opsOf o.op)++Hh ops o)++zo ops l (match o.dst with
  |some d=>d::D
  |none=>D)
def dF:Code->List Nat
 | .region _ ops _=>oB ops.toList
 | .seq a b=>dF a++dF b
 | .cond _ a b=>dF a++dF b
 | .block _ c=>dF c
 | .loop c=>dF c
 | .scope c=>dF c
 |_=>[]
def kL(id:Nat):Code->Nat
 | .seq a b=>kL id a+kL id b
 | .cond _ a b=>kL id a+kL id b
 | .block _ c=>kL id c
 | .loop c=>kL id c
 | .scope c=>kL id c
 | .exit i=>bif S7 i id then 1 else 0
 | .rangeFunc _ _ _ b=>kL id b
 |_=>0
def Hi(ops:Array S1):Bool:=
 let a:=Region.before ops;let e:=λ(i:Nat)=>match ops[i]? with|some o=>!(kg o)|none=>v6
 (X9 ops.size).any λj=>e j&&((X9 j).any λi=>e i&&(!((a.getD j 0).testBit i)&& !((a.getD i 0).testBit j)))
def l1:Code->Nat
 | .region _ ops e=>bif (e&&Hi ops)||ops.any (·.guard.isSome)then 2 else 1
 | .seq a b=>bif S7 (l1 a) 0 then 0 else l1 b
 | .cond _ a b=>l1 a+l1 b
 | .block id c=>l1 c+kL id c
 | .loop _=>0
 | .scope c=>l1 c
 | .exit _=>0
 | .goto _=>0
 | .ret=>0
 | .refuse _=>0
 |_=>1
def mV:Code->List Nat
 | .region _ ops _=>oB ops.toList
 | .seq a b=>mV a++mV b
 | .cond _ a b=>bif S7 (l1 a) 0 then mV b else bif S7 (l1 b) 0 then mV a else vJ (mV a) (mV b)
 | .block id c=>bif S7 (kL id c) 0 then mV c else[]
 | .scope c=>mV c
 |_=>[]
def reads:Code->List Nat
 | .region _ ops _=>zo ops ops.toList []
 | .seq a b=>reads a++sP (mV a) (reads b)
 | .cond c a b=>tmpsOf [c]++(reads a++reads b)
 | .block _ c=>reads c
 | .loop c=>reads c
 | .scope c=>reads c
 | .rangeFunc f _ a b=>tmpsOf [f]++(reads a++reads b)
 |_=>[]
def lr:Code->Bool
 | .seq a b=>lr a||lr b
 | .cond _ a b=>lr a||lr b
 | .block _ c=>lr c
 | .loop c=>lr c
 | .scope c=>lr c
 | .rangeFunc ..=>v2
 |_=>v6
def wf(N:Nat):Code->Bool
 | .region _ ops e=>oA N ops.toList&&(!e||mU ops (Region.before ops))
 | .seq a b=>wf N a&&wf N b
 | .cond _ a b=>wf N a&&wf N b
 | .block _ c=>wf N c
 | .loop c=>wf N c
 | .scope c=>wf N c
 | .rangeFunc _ f a b=>(f.toList.all λt=>Nat.blt t N)&&(wf N a&&wf N b)
 |_=>v2
def oC:Nat->Type->Type
 |0,β=>β
 |n+1,β=>x4->oC n β
def app{β:Type}:(n:Nat)->oC n β->List x4->β
 |0,f,_=>f
 |n+1,f,[]=>app n (f undef) []
 |n+1,f,v::r=>app n (f v) r
def lam{β:Type}:(n:Nat)->(List x4->β)->oC n β
 |0,f=>f []
 |n+1,f=>λv=>lam n λr=>f (v::r)
def sQ:(n:Nat)->oC n Prop->Prop
 |0,p=>p
 |n+1,p=>∀v,sQ n (p v)
theorem sR{β:Type}:∀(n:Nat)(f:List x4->β)(vs:List x4),vs.length=n->app n (lam n f) vs=f vs
 |0,f,[],_=>rfl
 |n+1,f,v::r,h=>by
  simp only[app,lam];exact sR n _ r (by simpa using h)
theorem sS:∀(n:Nat)(p:oC n Prop)(vs:List x4),sQ n p->app n p vs
 |0,_,_,h=>h
 |n+1,_,[],h=>sS n _ [] (h undef)
 |n+1,_,v::r,h=>sS n _ r (h v)
def Hj(n:Nat)(vs:List x4)(w:x5)(B:List x4->x5->(List x4->x5->Prop)->Prop):Prop:=
 ∃(a:oC n (x5->Prop))(e:oC n (x5->Nat)),app n a vs w/\
  sQ n (lam n λus=>∀I,app n a us I->B us I λf h=>app n a f h/\app n e f h<app n e us I)
def Hk(w:x5)(B:x5->(x5->Prop)->Prop):Prop:=
 ∃(a:x5->Prop)(e:x5->Nat),a w/\∀I,a I->B I λf=>a f/\e f<e I
def bW(a:x4)(w:x5)(B:x4->x5->(x4->x5->Prop)->Prop):Prop:=
 ∃(e:x4->x5->Prop)(f:x4->x5->Nat),e a w/\∀a I,e a I->B a I λa' h=>e a' h/\f a' h<f a I
def ch(a b:x4)(w:x5)(B:x4->x4->x5->(x4->x4->x5->Prop)->Prop):Prop:=
 ∃(e:x4->x4->x5->Prop)(f:x4->x4->x5->Nat),e a b w/\∀a b I,e a b I->B a b I λa' h j=>e a' h j/\f a' h j<f a b I
def lu(a b c:x4)(w:x5)(B:x4->x4->x4->x5->(x4->x4->x4->x5->Prop)->Prop):Prop:=
 ∃(e:x4->x4->x4->x5->Prop)(f:x4->x4->x4->x5->Nat),e a b c w/\
  ∀a b c I,e a b c I->B a b c I λa' h j p=>e a' h j p/\f a' h j p<f a b c I
def qT(a b c d:x4)(w:x5)(B:x4->x4->x4->x4->x5->(x4->x4->x4->x4->x5->Prop)->Prop):Prop:=
 ∃(e:x4->x4->x4->x4->x5->Prop)(f:x4->x4->x4->x4->x5->Nat),e a b c d w/\
  ∀a b c d I,e a b c d I->B a b c d I λa' h j p q=>e a' h j p q/\f a' h j p q<f a b c d I
def qU(a b c d e:x4)(w:x5)(B:x4->x4->x4->x4->x4->x5->(x4->x4->x4->x4->x4->x5->Prop)->Prop):Prop:=
 ∃(f:x4->x4->x4->x4->x4->x5->Prop)(h:x4->x4->x4->x4->x4->x5->Nat),f a b c d e w/\∀a b c d e I,f a b c d e I->B a b c d e I λa' j p q r s=>f a' j p q r s/\h a' j p q r s<h a b c d e I
def Hl(a b c d e f:x4)(w:x5)(B:x4->x4->x4->x4->x4->x4->x5->(x4->x4->x4->x4->x4->x4->x5->Prop)->Prop):Prop:=
 ∃(h:x4->x4->x4->x4->x4->x4->x5->Prop)(j:x4->x4->x4->x4->x4->x4->x5->Nat),h a b c d e f w/\∀a b c d e f I,h a b c d e f I->B a b c d e f I λa' p q r s x y=>h a' p q r s x y/\j a' p q r s x y<j a b c d e f I
def cC{α:Type}(ax:α)(B:α->Prop):Prop:=B ax
def vK(n:Nat)(w:x5)(K:x5->Prop):Prop:=∀I,Ext w I->Ext I w/\fI n w I->K I
def Over(n:Nat)(w:x5)(K:x5->Prop):Prop:=∀I,Ext w I->Ext I w/\fI n w I->e8 w I->K I
def ei(w:x5)(K:x5->Prop):Prop:=∀I,Ext w I->Ext I w->cO w I->K I
def lv(e:Env):List Nat->Option (List x4)
 |[]=>σ []
 |t::r=>match look e t with
  |some x=>match lv e r with
   |some vs=>σ (x.val::vs)
   |none=>ν
  |none=>ν
def ki:List Nat->List x4->Env->Env
 |t::r,v::vs,e=>(t,.v v)::ki r vs e
 |_,_,e=>e
def nG(D:List Nat):Env->Env
 |[]=>[]
 |(t,x)::r=>bif kh t D then nG D r else(t,x)::nG D r
def qV(N:Nat)(D R:List Nat):List Nat:=(X9 N).filter λt=>kh t D&&kh t R
def qW(N:Nat)(D R:List Nat)(e:Env):List Nat:=(X9 N).filter λt=>kh t D&&((look e t).isSome&&kh t R)
def kj:Code->Bool
 | .seq a b=>kj a||kj b
 | .cond _ a b=>kj a||kj b
 | .block _ c=>kj c
 | .loop c=>kj c
 | .scope c=>kj c
 | .rangeFunc _ _ a b=>kj a||kj b
 | .ret=>v2
 |_=>v6
def Hm(i:Nat)(l:List Nat):List Nat:=bif kh i l then l else i::l
def sT:List Nat->List Nat->List Nat
 |[],l=>l
 |i::r,l=>Hm i (sT r l)
def vL(i:Nat):List Nat->List Nat
 |[]=>[]
 |j::r=>bif S7 i j then vL i r else j::vL i r
def kM:Code->List Nat
 | .seq a b=>sT (kM a) (kM b)
 | .cond _ a b=>sT (kM a) (kM b)
 | .block id c=>vL id (kM c)
 | .loop c=>kM c
 | .scope c=>kM c
 | .rangeFunc _ _ a b=>sT (kM a) (kM b)
 | .exit i=>[i]
 |_=>[]
def oD:List (Nat×(x5->Prop))->Nat->x5->Prop
 |[],_,_=>False
 |(j,k)::r,i,w=>(i=j/\k w)\/oD r i w
def vM(K:Nat->x5->Prop):List Nat->List (Nat×(x5->Prop))
 |[]=>[]
 |i::r=>(i,λw=>K i w)::vM K r
theorem zp{K:Nat->x5->Prop}:∀{l:List Nat}{i:Nat}{w:x5},oD (vM K l) i w->K i w
 |[],_,_,h=>h.elim
 |j::r,i,w,h=>by
  rcases h with⟨rfl,h⟩|h
  .exact h
  .exact zp h
section
variable(P:V3)
def pS{a:Type}(G:Bool)(g:Q6)(cap:List x4)(p:a)(q:a->Prop)(r:a->List x4->a->x5->Prop)(h:x5->Prop):Prop:=
 Enters P g/\∀(l:Nat)(ax e:a->x5->Prop)(w:x5),
  (∀k U aa,Ext U aa->cL w.heap.size U aa->ax k U->ax k aa)->(∀k U aa,Ext U aa->cL w.heap.size U aa->e k U->e k aa)->
  (∀k j vs I,h I->r k vs j I->ax k I->iR P l vs I λv f=>(v= .bool v2/\h f/\ax j f/\(G=v2->cO I f))\/(v= .bool v6/\e k f))->
  h w->ax p w->gM P g (.func (.yield l) #[] #[]::cap) w λ_ I=>(∃k,q k/\ax k I)\/∃k,e k I
def vN(G:Bool)(g:Q6)(cap:List x4)(n:Nat)(h:Nat->List x4->x5->Prop)(f:x5->Prop):Prop:=
 Enters P g/\∀(l:Nat)(ax a:Nat->x5->Prop)(w:x5),
  (∀k U aa,Ext U aa->cL w.heap.size U aa->ax k U->ax k aa)->(∀k U aa,Ext U aa->cL w.heap.size U aa->a k U->a k aa)->
  (∀k vs I,k<n->f I->h k vs I->ax k I->iR P l vs I λv e=>(v= .bool v2/\f e/\ax (k+1) e/\(G=v2->cO I e))\/(v= .bool v6/\a k e))->
  f w->ax 0 w->gM P g (.func (.yield l) #[] #[]::cap) w λ_ I=>ax n I\/∃k,k<n/\a k I
def qX{e:Type}(o G:Bool)(g:Q6)(cap:List x4)(p:e)(q:e->Prop)(s:e->List x4->e->x5->Prop)(h:(Nat->Prop)->x5->Prop):Prop:=
 Enters P g/\∀(l:Nat)(ax f:(Nat->Prop)->e->x5->Prop)(w:x5),
  (∀D k U aa,af (λr=>o=v2/\w.heap.size<=r/\¬D r) U aa->fI w.heap.size U aa->ax D k U->ax D k aa)->
  (∀D k U aa,af (λr=>o=v2/\w.heap.size<=r/\¬D r) U aa->fI w.heap.size U aa->f D k U->f D k aa)->
  (∀D k j vs I,(∀r,D r->w.heap.size<=r/\r<I.heap.size)->w.heap.size<=I.heap.size->h D I->s k vs j I->ax D k I->iR P l vs I λv a=>
   (v= .bool v2/\(∃D',(∀r,D' r->D r\/I.heap.size<=r/\r<a.heap.size)/\(∀r,D r->D' r)/\h D' a/\ax D' j a)/\(G=v2\/o=v2->cO I a)/\I.heap.size<=a.heap.size/\(o=v2->af (λr=>r<w.heap.size\/D r) I a))\/(o=v6/\v= .bool v6/\f D k a))->
  (h (λ_=>False) w)->ax (λ_=>False) p w->gM P g (.func (.yield l) #[] #[]::cap) w λ_ I=>(∃D k,q k/\ax D k I)\/∃D k,f D k I
abbrev pT(g:Q6)(cap:List x4)(n:Nat)(a:Nat->List x4->x5->Prop)(e:x5->Prop):Prop:=vN P v6 g cap n a e
def Hn(z:x4)(q:Nat)(w:x5)(B:List x4->x5->(Exit->x5->Prop)->Prop)(A C:x5->Prop)(E:List (Nat×(x5->Prop))):Prop:=
 ∃(h:Type)(o G:Bool)(g:Q6)(cap:Array x4)(x:h)(y:h->Prop)(s:h->List x4->h->x5->Prop)(e:(Nat->Prop)->x5->Prop)(f:(Nat->Prop)->h->x5->Prop)(j:(Nat->Prop)->h->Exit->x5->Prop),
  z= .func (.func g) #[] cap/\qX P o G g cap.toList x y s e/\(∀k vs p w,s k vs p w->vs.length=q)/\
  (∀m w I,Ext w I->e m w->e m I)/\(∀m k U aa,af (λr=>o=v2/\w.heap.size<=r/\¬m r) U aa->fI w.heap.size U aa->f m k U->f m k aa)/\(∀m k ex U aa,af (λr=>o=v2/\w.heap.size<=r/\¬m r) U aa->fI w.heap.size U aa->j m k ex U->j m k ex aa)/\
  e (λ_=>False) w/\f (λ_=>False) x w/\
  sQ q (lam q λvs=>∀m k p I,(∀r,m r->w.heap.size<=r/\r<I.heap.size)->w.heap.size<=I.heap.size->e m I->s k vs p I->f m k I->B vs I λex a=>match ex with
   | .normal=>bif o then(∃bP,(∀r,bP r->m r\/I.heap.size<=r/\r<a.heap.size)/\(∀r,m r->bP r)/\e bP a/\f bP p a)/\e8 I a/\af (λr=>r<w.heap.size\/m r) I a else e m a/\f m p a/\(G=v2->e8 I a)
   |ex=>bif o then False else j m k ex a)/\
  (∀m k I,y k->f m k I->A I)/\(∀m k I,j m k .ret I->C I)/\(∀m k i I,j m k (.exit i) I->oD E i I)
def lx(z:x4)(w:x5)(B:x4->x5->(Exit->x5->Prop)->Prop)(A C:x5->Prop)(E:List (Nat×(x5->Prop))):Prop:=
 ∃(j:Type)(o G:Bool)(g:Q6)(cap:Array x4)(x:j)(y:j->Prop)(s:j->List x4->j->x5->Prop)(f:(Nat->Prop)->x5->Prop)(h:(Nat->Prop)->j->x5->Prop)(p:(Nat->Prop)->j->Exit->x5->Prop),
  z= .func (.func g) #[] cap/\qX P o G g cap.toList x y s f/\(∀k vs q w,s k vs q w->vs.length=1)/\
  (∀m w I,Ext w I->f m w->f m I)/\(∀m k U aa,af (λr=>o=v2/\w.heap.size<=r/\¬m r) U aa->fI w.heap.size U aa->h m k U->h m k aa)/\(∀m k ex U aa,af (λr=>o=v2/\w.heap.size<=r/\¬m r) U aa->fI w.heap.size U aa->p m k ex U->p m k ex aa)/\
  f (λ_=>False) w/\h (λ_=>False) x w/\
  (∀a,∀m k q I,(∀r,m r->w.heap.size<=r/\r<I.heap.size)->w.heap.size<=I.heap.size->f m I->s k [a] q I->h m k I->B a I λex e=>match ex with
   | .normal=>bif o then(∃bP,(∀r,bP r->m r\/I.heap.size<=r/\r<e.heap.size)/\(∀r,m r->bP r)/\f bP e/\h bP q e)/\e8 I e/\af (λr=>r<w.heap.size\/m r) I e else f m e/\h m q e/\(G=v2->e8 I e)
   |ex=>bif o then False else p m k ex e)/\
  (∀m k I,y k->h m k I->A I)/\(∀m k I,p m k .ret I->C I)/\(∀m k i I,p m k (.exit i) I->oD E i I)
def pU(z:x4)(w:x5)(B:x4->x4->x5->(Exit->x5->Prop)->Prop)(A C:x5->Prop)(E:List (Nat×(x5->Prop))):Prop:=
 ∃(j:Type)(o G:Bool)(g:Q6)(cap:Array x4)(x:j)(y:j->Prop)(s:j->List x4->j->x5->Prop)(f:(Nat->Prop)->x5->Prop)(h:(Nat->Prop)->j->x5->Prop)(p:(Nat->Prop)->j->Exit->x5->Prop),
  z= .func (.func g) #[] cap/\qX P o G g cap.toList x y s f/\(∀k vs q w,s k vs q w->vs.length=2)/\
  (∀m w I,Ext w I->f m w->f m I)/\(∀m k U aa,af (λr=>o=v2/\w.heap.size<=r/\¬m r) U aa->fI w.heap.size U aa->h m k U->h m k aa)/\(∀m k ex U aa,af (λr=>o=v2/\w.heap.size<=r/\¬m r) U aa->fI w.heap.size U aa->p m k ex U->p m k ex aa)/\
  f (λ_=>False) w/\h (λ_=>False) x w/\
  (∀a b,∀m k q I,(∀r,m r->w.heap.size<=r/\r<I.heap.size)->w.heap.size<=I.heap.size->f m I->s k [a,b] q I->h m k I->B a b I λex e=>match ex with
   | .normal=>bif o then(∃bP,(∀r,bP r->m r\/I.heap.size<=r/\r<e.heap.size)/\(∀r,m r->bP r)/\f bP e/\h bP q e)/\e8 I e/\af (λr=>r<w.heap.size\/m r) I e else f m e/\h m q e/\(G=v2->e8 I e)
   |ex=>bif o then False else p m k ex e)/\
  (∀m k I,y k->h m k I->A I)/\(∀m k I,p m k .ret I->C I)/\(∀m k i I,p m k (.exit i) I->oD E i I)
theorem vN.s{P:V3}{G:Bool}{g:Q6}{cap:List x4}{f:Nat->List x4->x5->Prop}{a:x5->Prop}(h:vN P G g cap n f a):
  pS P G g cap 0 (λk=>k=n) (λk vs j w=>k<n/\j=k+1/\f k vs w) a:=by
 refine⟨h.1,λl ax p w q r x ha y=>?_⟩;have:=h.2 l ax (λk w=>p k w) w q r (λk vs I hk hz A B=>x k (k+1) vs I hz ⟨hk,rfl,A⟩ B) ha y;cases this with
 |code h1 C=>exact .code h1 (C.Y λ_ _ ⟨v,E,e⟩=>⟨v,E,e.elim (λh=>.inl ⟨n,rfl,h⟩) (λ⟨k,_,h⟩=>.inr ⟨k,h⟩)⟩)
 |W v I h1 e=>exact .W v I h1 (e.elim (λh=>.inl ⟨n,rfl,h⟩) (λ⟨k,_,h⟩=>.inr ⟨k,h⟩))
theorem pS.x{P:V3}{s:Type}{G:Bool}{g:Q6}{cap:List x4}{E:s}{F:s->Prop}{H:s->List x4->s->x5->Prop}{y:x5->Prop}(h:pS P G g cap E F H y):qX P v6 G g cap E F H λ_=>y:=by
 refine⟨h.1,λl ax K w L M N hy O=>?_⟩;have:=h.2 l (λk I=>w.heap.size<=I.heap.size/\∃D,(∀r,D r->w.heap.size<=r/\r<I.heap.size)/\ax D k I) (λk I=>∃D,K D k I) w
  (λk U aa f A ⟨J,D,a,j⟩=>⟨X1 J f.size,D,λr z=>⟨(a r z).1,S4 (a r z).2 f.size⟩,L D k U aa (f.V _) A.o j⟩) (λk U aa f A ⟨D,j⟩=>⟨D,M D k U aa (f.V _) A.o j⟩)
  (λk Q vs I hR S ⟨J,D,a,j⟩=>iR.Y (N D k Q vs I a J hR S j) λv W ac=>ac.imp (λ⟨h1,⟨D',d1,_,p,B⟩,q,e,_⟩=>⟨h1,p,⟨X1 J e,D',λr z=>(d1 r z).elim (λh=>⟨(a r h).1,S4 (a r h).2 e⟩) λh=>⟨X1 J h.1,h.2⟩,B⟩,λT=>q (.inl T)⟩) λ⟨_,h1,p⟩=>⟨h1,D,p⟩) hy ⟨o4 _,_,λ_ h=>h.elim,O⟩
 cases this with
 |code h1 p=>exact .code h1 (p.Y λ_ _ ⟨v,B,q⟩=>⟨v,B,q.imp (λ⟨k,e,_,D,_,C⟩=>⟨D,k,e,C⟩) (λ⟨k,D,h⟩=>⟨D,k,h⟩)⟩)
 |W v I h1 q=>exact .W v I h1 (q.imp (λ⟨k,e,_,D,_,C⟩=>⟨D,k,e,C⟩) (λ⟨k,D,h⟩=>⟨D,k,h⟩))
theorem lx.old{P:V3}{C:x4}{B:x4->x5->(Exit->x5->Prop)->Prop}{E F:x5->Prop}{H:List (Nat×(x5->Prop))}(h:∃(f:Type)(G:Bool)(g:Q6)(cap:Array x4)(s:f)(y:f->Prop)(r:f->List x4->f->x5->Prop)(e:x5->Prop)(j:f->x5->Prop)(p:f->Exit->x5->Prop),
  C= .func (.func g) #[] cap/\pS P G g cap.toList s y r e/\(∀k vs q w,r k vs q w->vs.length=1)/\
  (∀w I,Ext w I->e w->e I)/\(∀k w I,Ext w I->j k w->j k I)/\(∀k ex w I,Ext w I->p k ex w->p k ex I)/\
  e w/\j s w/\
  (∀a,∀k q I,e I->r k [a] q I->j k I->B a I λex z=>match ex with
   | .normal=>e z/\j q z/\(G=v2->e8 I z)
   |ex=>p k ex z)/\
  (∀k I,y k->j k I->E I)/\(∀k I,p k .ret I->F I)/\(∀k i I,p k (.exit i) I->oD H i I)):lx P C w B E F H:=by
 obtain⟨f,G,g,cap,s,y,r,e,j,p,h1,J,K,L,M,N,O,Q,R,S,T,V⟩:=h;exact⟨f,v6,G,g,cap,s,y,r,λ_=>e,λ_=>j,λ_=>p,h1,J.x,K,λ_=>L,λ_ k U aa A _=>M k U aa (A.W λ_ _ h=>nomatch h.1),λ_ k ex U aa A _=>N k ex U aa (A.W λ_ _ h=>nomatch h.1),O,Q,
  λa _ k q I _ _ he W X=>R a k q I he W X,λ_=>S,λ_=>T,λ_=>V⟩
theorem pU.old{P:V3}{C:x4}{B:x4->x4->x5->(Exit->x5->Prop)->Prop}{E F:x5->Prop}{H:List (Nat×(x5->Prop))}(h:∃(f:Type)(G:Bool)(g:Q6)(cap:Array x4)(s:f)(y:f->Prop)(r:f->List x4->f->x5->Prop)(e:x5->Prop)(j:f->x5->Prop)(p:f->Exit->x5->Prop),
  C= .func (.func g) #[] cap/\pS P G g cap.toList s y r e/\(∀k vs q w,r k vs q w->vs.length=2)/\
  (∀w I,Ext w I->e w->e I)/\(∀k w I,Ext w I->j k w->j k I)/\(∀k ex w I,Ext w I->p k ex w->p k ex I)/\
  e w/\j s w/\
  (∀a b,∀k q I,e I->r k [a,b] q I->j k I->B a b I λex z=>match ex with
   | .normal=>e z/\j q z/\(G=v2->e8 I z)
   |ex=>p k ex z)/\
  (∀k I,y k->j k I->E I)/\(∀k I,p k .ret I->F I)/\(∀k i I,p k (.exit i) I->oD H i I)):pU P C w B E F H:=by
 obtain⟨f,G,g,cap,s,y,r,e,j,p,h1,J,K,L,M,N,O,Q,R,S,T,V⟩:=h;exact⟨f,v6,G,g,cap,s,y,r,λ_=>e,λ_=>j,λ_=>p,h1,J.x,K,λ_=>L,λ_ k U aa A _=>M k U aa (A.W λ_ _ h=>nomatch h.1),λ_ k ex U aa A _=>N k ex U aa (A.W λ_ _ h=>nomatch h.1),O,Q,
  λa b _ k q I _ _ he W X=>R a b k q I he W X,λ_=>S,λ_=>T,λ_=>V⟩
def eK(N:Nat)(free:fJ):Code->List Nat->Env->x5->(Exit->Env->x5->Prop)->Prop
 | .skip,_,e,w,K=>K .normal e w
 | .label _,_,e,w,K=>K .normal e w
 | .ret,_,e,w,K=>K .ret e w
 | .exit i,_,e,w,K=>K (.exit i) e w
 | .region _ ops p,_,e,w,K=>
  bif p then ei w λI=>vB P free ops e I (K .normal)
  else pQ P free ops ops.toList e w (K .normal)
 | .seq x y,rd,e,w,K=>
  bif Nat.ble 2 (l1 x)then
   cC (lam (qV N (dF x) (reads y++rd)).length λvs=>λI=>eK N free y rd (ki (qV N (dF x) (reads y++rd)) vs (nG (dF x) e)) I K)
    λax=>eK N free x (reads y++rd) e w λex a I=>match ex with
     | .normal=>match lv a (qV N (dF x) (reads y++rd))with
      |some vs=>app (qV N (dF x) (reads y++rd)).length ax vs I
      |none=>False
     |ex=>K ex a I
  else eK N free x (reads y++rd) e w λex a I=>match ex with
   | .normal=>eK N free y rd a I K
   |ex=>K ex a I
 | .cond c x y,rd,e,w,K=>
  match eR e c with
  |some (.b v2)=>eK N free x rd e w K
  |some (.b v6)=>eK N free y rd e w K
  |some (.v v)=>Split v (eK N free x rd e w K) (eK N free y rd e w K)
  |some .u=>False
  |none=>False
 | .block id c,rd,e,w,K=>eK N free c rd e w λex a I=>match ex with
  | .exit i=>bif S7 i id then K .normal a I else K (.exit i) a I
  |ex=>K ex a I
 | .loop c,rd,e,w,K=>
  match lv e (qW N (dF c) (reads c++rd) e)with
  |some vs=>
   Hj (qW N (dF c) (reads c++rd) e).length vs w λus I k=>
    eK N free c (reads c++rd) (ki (qW N (dF c) (reads c++rd) e) us (nG (dF c) e)) I λex a h=>match ex with
     | .normal=>match lv a (qW N (dF c) (reads c++rd) e)with
      |some q=>k q h
      |none=>False
     |ex=>K ex a h
  |none=>False
 | .scope c,rd,e,w,K=>eK N free c rd e w K
 | .rangeFunc f j r body,_,e,w,K=>
  bif free.1 then False else
  match eR e f with
  |some s=>
   Hn P s.val j.size w
    (λvs I k=>eK N free r (reads body) (ki j.toList.reverse vs.reverse e) I λex a h=>match ex with
     | .normal=>Over w.heap.size h λz=>eK N free body [] a z λex _ A=>k ex A
     |_=>False)
    (λI=>K .normal e I) (bif kj body then λI=>K .ret e I else λ_=>False) (vM (λi I=>K (.exit i) e I) (kM body))
  |none=>False
 | .goto _,_,_,_,_=>False
 | .refuse _,_,_,_,_=>False
end
theorem sU{w0:x5}(h:cL n w0 w){l:Nat}(j:w0.heap.size<=l)(o:Obj):cL n w0 (w.putObj l o):=
 ⟨h.os,h.tape,h.output,by simpa using h.size,λr x a J=>by
  have e:=(b8.1 a).1;rw[Q7 Ω];exact h.aY r x a J,λr x f a J=>by
  have e:=(b8.1 a).1;rw[Q7 Ω];exact h.old r x f a J⟩
theorem Ho{w0:x5}(h:e8 w0 w){l:Nat}{a:Obj}(f:w.heap[l]?=σ a)(j:sF a=v6)(o:Obj):e8 w0 (w.putObj l o):=λr x p J=>by
 have h1:=h r x p J;by_cases e:r=l
 .subst e;rw[f]at h1;cases h1;rw[j]at J;cases J
 .rw[Q7 e];exact h1
theorem qY{l:Nat}{e:Obj}(h:w.heap[l]?=σ e)(j:fH e=v6)(o:Obj):Ext w (w.putObj l o):=
 ⟨Ξ,λr x a J=>by
  by_cases f:r=l
  .subst f;rw[h]at a;cases a;rw[j]at J;cases J
  .rw[Q7 f];exact a⟩
theorem zq{l:Nat}{o:Obj}(f:fH o=v6):Ext (w.putObj l o) w:=
 ⟨Ξ,λr x a J=>by
  by_cases e:r=l
  .subst e;rcases Nat.lt_or_ge r w.heap.size with h|h
   .rw[x5.putObj_heap_same h]at a;cases a;rw[f]at J;cases J
   .rw[Array.getElem?_eq_none (by simpa using h)]at a;cases a
  .rw[Q7 e]at a;exact a⟩
theorem pV(w:x5)(o:Obj):Ext w (w.alloc o):=qO w o
theorem pW(w:x5)(o:Obj):cO w (w.alloc o):=qP w o
def ly(D:Nat):Deferred:={target:=.collected D,args:=#[]}
def mW(w:x5)(e:List Deferred):Prop:=∃a:List Nat,e=a.map ly/\a.Nodup/\∀D∈a,w.heap[D]?=σ (.deferred (σ []))
theorem mW.cB{a:List Deferred}(h:mW w a)(e:cL n w I):mW I a:=by
 obtain⟨f,h1,j,p⟩:=h;exact⟨f,h1,j,λD q=>e.aY D _ (p D q) rfl⟩
section
variable{P:V3}{N:Nat}
def Hp(w:x5)(e f:List Deferred):Prop:=∃a:List Nat,f=a.map ly++e/\∀D∈a,w.heap.size<=D
def gO(n:Nat)(w:x5)(e:List Deferred)(I:x5)(a:List Deferred):Prop:=cL n w I/\mW I a/\Hp w e a
theorem gO.refl{a:List Deferred}(h:mW w a):gO n w a w a:=⟨cL.refl _ _,h,[],rfl,λ_ h=>by cases h⟩
theorem gO.F{U:x5}{a e f:List Deferred}(h:gO n w a U e)(k:gO n U e I f):gO n w a I f:=by
 obtain⟨j,A,p,a3,a4⟩:=h;obtain⟨q,r,s,x,y⟩:=k;refine⟨j.F q,r,s++p,by simp[x,a3],λD z=>?_⟩;rcases j9.1 z with h|h
 .exact X1 j.size (y D h)
 .exact a4 D h
theorem gO.same{a:List Deferred}(h:mW w a)(e:cL n w I):gO n w a I a:=⟨e,h.cB e,[],rfl,λ_ h=>by cases h⟩
def l2:Exit->Bool
 | .panic _=>v6
 | .outgrown=>v6
 | .goto _=>v6
 |_=>v2
def nH(N:Nat)(free:fJ)(f:Bool)(K:Exit->Env->x5->Prop)(D:List Nat)(a:Act)(w:x5)(ex:Exit)(a':Act)(I:x5):Prop:=
 l2 ex=v2/\∃e,K ex e I/\R5 N e a'/\(∀t,t∉D->a'.tmps.getD t undef=a.tmps.getD t undef)/\(f=v2->a'.defers=a.defers)/\
  (free.1=v6->gO free.2 w a.defers I a'.defers)
theorem nH.step{free:fJ}{f j:Bool}{K:Exit->Env->x5->Prop}{D':List Nat}{a e a':Act}{U:x5}{ex:Exit}(h:nH N free j K D' e U ex a' I)(q:∀t,t∈D'->t∈D)(hk:∀t,t∉D->e.tmps.getD t undef=a.tmps.getD t undef)(r:f=v2->j=v2)(s:f=v2->e.defers=a.defers)(x:free.1=v6->gO free.2 w a.defers U e.defers):nH N free f K D a w ex a' I:=by
 obtain⟨y,z,h1,A,B,C,E⟩:=h;exact⟨y,z,h1,A,λt p=>(B t λh=>p (q t h)).F (hk t p),λh=>(C (r h)).F (s h),λh=>(x h).F (E h)⟩
theorem sV{D:List Nat}{t:Nat}{x:eI}:∀{e:Env},look (nG D e) t=σ x->look e t=σ x/\t∉D
 |[],h=>by cases h
 |(s,y)::r,h=>by
  simp only[nG]at h;cases hm:kh s D with
  |true=>
   rw[hm]at h;simp only[cond_true]at h;obtain⟨h1,f⟩:=sV h;refine⟨?_,f⟩;simp only[look];cases a:S7 s t with
   |true=>exact ro (vI.1 hm) (by rw[Nat.eq_of_beq_eq_true a];exact f)
   |false=>exact h1
  |false=>
   rw[hm]at h;simp only[cond_false,look]at h ⊢;cases a:S7 s t with
   |true=>
    rw[a]at h;refine⟨h,λj=>?_⟩;rw[<-Nat.eq_of_beq_eq_true a]at j;rw[vI.2 j]at hm;cases hm
   |false=>
    rw[a]at h;exact sV h
theorem vO{a:Act}{e:Env}:∀{S:List Nat}{vs:List x4},R5 N e a->(∀p∈S.zip vs,a.tmps.getD p.1 undef=p.2)->R5 N (ki S vs e) a
 |[],_,h,_=>by simpa[ki]using h
 |t::r,[],h,_=>by simpa[ki]using h
 |t::r,v::vs,h,j=>by
  have q:=vO (S:=r) (vs:=vs) h λp ac=>j p (by simp[ac]);refine⟨q.1,λs x J=>?_⟩;simp only[ki,look]at J;cases f:S7 t s with
  |true=>
   rw[f]at J;simp only[cond_true,X7]at J;subst J;rw[<-Nat.eq_of_beq_eq_true f];exact j (t,v) Ξ
  |false=>rw[f]at J;exact q.2 s x J
theorem sW{e:Env}{a:Act}(q:R5 N e a):∀{S:List Nat}{vs:List x4},lv e S=σ vs->vs.length=S.length/\∀p∈S.zip vs,a.tmps.getD p.1 undef=p.2
 |[],vs,h=>by simp[lv]at h;subst h;simp
 |t::r,vs,h=>by
  simp only[lv]at h;cases f:look e t with
  |none=>rw[f]at h;cases h
  |some x=>
   rw[f]at h;simp only at h;cases j:lv e r with
   |none=>rw[j]at h;cases h
   |some us=>
    rw[j]at h;simp only[X7]at h;subst h;obtain⟨h1,s⟩:=sW q j;refine⟨by simp[h1],λp ac=>?_⟩;simp only[List.zip_cons_cons,V7]at ac;rcases ac with rfl|ac
    .exact q.2 t x f
    .exact s p ac
theorem Hq{a a':Act}{e f:Env}(j:R5 N e a)(p:R5 N f a')(hk:∀t,t∉D->a'.tmps.getD t undef=a.tmps.getD t undef):R5 N (nG D e) a':=
 ⟨p.1,λt x h=>by
  obtain⟨h1,q⟩:=sV h;rw[hk t q];exact j.2 t x h1⟩
theorem Hr{o:S1}{t:Nat}(a:o.dst=σ t)(l:List S1)(hm:o∈l):t∈oB l:=by
 induction l with
 |nil=>cases hm
 |cons o' l e=>
  simp only[oB];rcases V7.1 hm with h|h
  .rw[<-h,a];simp
  .have:=e h;cases o'.dst with
   |none=>exact this
   |some d=>exact .tail _ this
theorem zr{free:fJ}{j:Bool}{K:Exit->Env->x5->Prop}{a a':Act}(p:free.1=v6->mW w a.defers)(h:nC N free (K .normal) D a w a' I):
  nH N free j K D a w .normal a' I:=by
 obtain⟨q,h1,r,e,s⟩:=h;exact⟨rfl,q,h1,r,e.2,λ_=>e.1,λf=>by rw[e.1];exact gO.same (p f) (s f)⟩
theorem zs:∀(a:List Nat)(vs:List x4)(p:Nat)(v:x4)(e:Env),a.length=vs.length->ki (a++[p]) (vs++[v]) e=ki a vs ((p,.v v)::e)
 |[],[],_,_,_,_=>rfl
 |[],_::_,_,_,_,h=>by simp at h
 |_::_,[],_,_,_,h=>by simp at h
 |q::a,u::vs,p,v,e,h=>by
  simp only[List.cons_append,ki];rw[zs a vs p v e (by simpa using h)]
theorem zt:∀(a:List Nat)(vs:List x4)(jR:Array x4)(e:Env),a.length=vs.length->(a.all λt=>Nat.blt t N)=v2->R5 N e {tmps:=jR,defers:=[]}->
  R5 N (ki a.reverse vs.reverse e) {tmps:=(a.zip vs).foldl (λjR (p:Nat×x4)=>jR.setIfInBounds p.1 p.2) jR,defers:=[]}
 |[],[],_,_,_,_,h=>h
 |[],_::_,_,_,h,_,_=>by simp at h
 |_::_,[],_,_,h,_,_=>by simp at h
 |p::a,v::vs,jR,e,q,f,h=>by
  have j:a.length=vs.length:=by simpa using q
  simp only[List.all_cons,U9]at f;simp only[List.zip_cons_cons,V5,List.reverse_cons];rw[zs _ _ _ _ _ (by simpa using j)];exact zt a vs _ _ j f.2 (h.put (d:=σ p) (x:=.v v) (v:=v) f.1 rfl)
def kk(free:fJ)(c:Code):Bool:=free.1|| !lr c
theorem zu:∀f a b:Bool,(f|| !(a||b))=v2->(f|| !a)=v2:=Φ
theorem zv:∀f a b:Bool,(f|| !(a||b))=v2->(f|| !b)=v2:=Φ
def exitCode:Exit->Option Code
 | .ret=>σ .ret
 | .exit id=>σ (.exit id)
 |_=>ν
end
section
variable{P:V3}{N:Nat}
def Sound(P:V3)(N:Nat)(c:Code):Prop:=
 ∀(free:fJ)(r:Option Nat)(rd:List Nat)(e:Env)(a:Act)(w:x5)(K:Exit->Env->x5->Prop)(Q:Exit->Act->x5->Prop),
  wf N c=v2->(∀l,r=σ l->free.1=v6/\∃f,w.heap[l]?=σ (.loop f))->(free.1=v6->mW w a.defers)->
  eK P N free c rd e w K->R5 N e a->(∀ex a' I,nH N free (kk free c) K (dF c) a w ex a' I->Q ex a' I)->(∀h a w,¬Q (.panic h) a w)->
  c.wpIn (eJ r) 0 P Q a w
theorem Hs{x y:Code}(aa:Sound P N x)(ab:Sound P N y):Sound P N (.seq x y):=by
 intro free r rd e a w K Q E M ad h O R S;simp only[wf,U9]at E;have T:∀t,t∈dF x->t∈dF (.seq x y):=λt q=>by simp[dF,q]
 have ae:∀t,t∈dF y->t∈dF (.seq x y):=λt q=>by simp[dF,q]
 have V:kk free (.seq x y)=v2->kk free x=v2:=λh=>zu _ _ _ h;have af:kk free (.seq x y)=v2->kk free y=v2:=λh=>zv _ _ _ h;refine wpIn_seq ?_;have W:∀(f:Env)(j:Act)(U:x5),eK P N free y rd f U K->R5 N f j->(∀t,t∉dF x->j.tmps.getD t undef=a.tmps.getD t undef)->
   (kk free (.seq x y)=v2->j.defers=a.defers)->(free.1=v6->gO free.2 w a.defers U j.defers)->y.wpIn (eJ r) 0 P Q j U:=by
  intro f j U h1 s hk A p;refine ab free r rd f j U K Q E.2 ?_ (λh=>(p h).2.1) h1 s ?_ S
  .intro l ag;obtain⟨X,ah,C⟩:=M l ag;exact⟨X,ah,(p X).1.aY _ _ C rfl⟩
  .intro ex a' I ac;exact R ex a' I (ac.step ae (λt q=>hk t λh=>q (T t h)) af A p)
 have Y:∀(z:Exit->Env->x5->Prop),eK P N free x (reads y++rd) e w z->
   (∀f j U,nH N free (kk free x) z (dF x) a w .normal j U->R5 N f j->z .normal f U->(∀t,t∉dF x->j.tmps.getD t undef=a.tmps.getD t undef)->
    (kk free (.seq x y)=v2->j.defers=a.defers)->(free.1=v6->gO free.2 w a.defers U j.defers)->y.wpIn (eJ r) 0 P Q j U)->
   (∀ex f U,ex≠ .normal->z ex f U->K ex f U)->x.wpIn (eJ r) 0 P (Exit.then (y.wpIn (eJ r) 0 P Q) Q) a w:=by
  intro z B p ai;refine aa free r _ e a w z _ E.1 M ad B O ?_ ?_
  .intro ex j U ac;cases ex with
   |normal=>
    have aj:=ac;obtain⟨C,f,h1,F,G,H,J⟩:=ac;exact p f j U aj F h1 G (λh=>H (V h)) J
   |_=>
    obtain⟨C,f,h1,F,G,H,J⟩:=ac;refine R _ j U ⟨C,f,ai _ f U Ξ h1,F,λt q=>G t λh=>q (T t h),λh=>H (V h),J⟩
  .intro ak a w al;exact S ak a w al
 simp only[eK]at h;cases Z:Nat.ble 2 (l1 x)with
 |false=>
  rw[Z]at h;refine Y _ h (λf j U _ s h1 hk A p=>W f j U h1 s hk A p) ?_;intro ex f U L h1;cases ex<;>first|exact ro rfl L|exact h1
 |true=>
  rw[Z]at h;refine Y _ h (λf j U _ s h1 hk A p=>?_) ?_
  .simp only at h1;cases B:lv f (qV N (dF x) (reads y++rd))with
   |none=>rw[B]at h1;exact h1.elim
   |some vs=>
    rw[B]at h1;obtain⟨am,an⟩:=sW s B;simp only at h1;rw[sR _ _ _ am]at h1;exact W _ j U h1 (vO (Hq O s hk) an) hk A p
  .intro ex f U L h1;cases ex<;>first|exact ro rfl L|exact h1
theorem Ht{c:Code}(ab:Sound P N c):Sound P N (.loop c):=by
 intro free r rd e a w K Q R ad ae h F af ag;simp only[wf]at R;simp only[eK]at h;generalize ax:qW N (dF c) (reads c++rd) e=S at h;cases G:lv e S with
 |none=>rw[G]at h;exact h.elim
 |some vs=>
  rw[G]at h;simp only at h;obtain⟨ah,ai,q,aj⟩:=h;obtain⟨ak,al⟩:=sW F G;let Inv:Act->x5->Prop:=λf U=>∃us,us.length=S.length/\app S.length ah us U/\(∀p∈S.zip us,f.tmps.getD p.1 undef=p.2)/\f.tmps.size=N/\
   (∀t,t∉dF c->f.tmps.getD t undef=a.tmps.getD t undef)/\(kk free c=v2->f.defers=a.defers)/\(free.1=v6->gO free.2 w a.defers U f.defers)
  let s:Act->List x4:=λf=>S.map λt=>f.tmps.getD t undef;have T:∀(f:Act)(us:List x4),us.length=S.length->(∀p∈S.zip us,f.tmps.getD p.1 undef=p.2)->s f=us:=by
   intro f us y z;apply List.ext_getElem
   .simp[s,y]
   .intro i h1 j;have hi:i<S.length:=by simpa[s]using h1
    have am:(S[i],us[i])∈S.zip us:=by
     have:=Q9 (l:=S.zip us) (n:=i) (by simp[List.length_zip,y,hi]);simpa using this
    simpa[s]using z _ am
  refine wpIn_loop Inv (λf U=>app S.length ai (s f) U) ⟨vs,ak,q,al,F.1,λ_ _=>rfl,λ_=>rfl,λA=>gO.refl (ae A)⟩ ?_;rintro f U ⟨us,y,an,z,ao,hk,A,B⟩;have C:=sS S.length _ us aj;rw[sR _ _ _ y]at C;have C:=C U an;have ap:R5 N (ki S us (nG (dF c) e)) f:=by
   refine vO ⟨ao,λt x E=>?_⟩ z;obtain⟨h1,j⟩:=sV E;rw[hk t j];exact F.2 t x h1
  refine ab free r _ _ f U _ _ R ?_ (λh=>(B h).2.1) C ap ?_ ?_
  .intro l aq;obtain⟨V,au,q⟩:=ad l aq;exact⟨V,au,(B V).1.aY _ _ q rfl⟩
  .intro ex H aa ac;have W:∀t,t∉dF c->H.tmps.getD t undef=a.tmps.getD t undef:=by
    obtain⟨_,_,_,_,I,_,_⟩:=ac;exact λt E=>(I t E).F (hk t E)
   cases ex with
   |normal=>
    obtain⟨q,J,h1,j,I,L,M⟩:=ac;simp only at h1;cases O:lv J S with
    |none=>rw[O]at h1;exact h1.elim
    |some X=>
     rw[O]at h1;obtain⟨Y,Z⟩:=sW j O;refine⟨⟨X,Y,h1.1,Z,j.1,W,λh=>(L h).F (A h),λh=>(B h).F (M h)⟩,?_⟩;rw[T f us y z,T H X Y Z];exact h1.2
   |_=>
    obtain⟨q,J,h1,j,I,L,M⟩:=ac;exact af _ H aa ⟨q,J,h1,j,W,λh=>(L h).F (A h),λh=>(B h).F (M h)⟩
  .intro av a w aw;exact ag av a w aw
theorem Hu{o:Obj}(h:fH o=v6):book o=v2\/sF o=v2:=by cases o<;>first|exact .inl rfl|exact .inr rfl|cases h
theorem Hv{l:Nat}{f s h:x5}{w y:Obj}(z:f.heap[l]?=σ w)(a:cL n f s)(e:cL n (s.putObj l y) h)(A:l<h.heap.size)(hi:e8 f h):cO f (h.putObj l w):=
 ⟨e.os.F a.os,kJ.F e.tape a.tape,e.output.F a.output,by have h1:=a.size;have B:=e.size;simp at B ⊢;omega,λr x j J=>by
  by_cases q:r=l
  .subst q;rw[z]at j;cases j;exact x5.putObj_heap_same A
  .rw[Q7 q];rcases Hu J with p|p
   .exact e.aY r x (by rw[Q7 q];exact a.aY r x j p) p
   .exact hi r x j p⟩
theorem Hw{f:R4}{T:Array Tmp}{Y body:Code}(be:Sound P N Y)(aj:Sound P N body):Sound P N (.rangeFunc f T Y body):=by
 intro free r rd e a w K Q aM S ay h ad bf b1;simp only[wf,U9]at aM;obtain⟨bg,bh,bi⟩:=aM;simp only[eK]at h;obtain⟨fr,b⟩:=free;cases fr with
 |true=>exact h.elim
 |false=>
  simp only[cond_false]at h;cases az:eR e f with
  |none=>rw[az]at h;exact h.elim
  |some b2=>
   rw[az]at h;obtain⟨aN,o,G,g,cap,b3,b4,b5,ak,aO,aA,bj,⟨aP,bk⟩,bl,haQ,al,aB,hbm,bn,bo,bp,bq,br⟩:=h;have bs:∀m k ex I,l2 ex=v2->ex≠ .normal->aA m k ex I->K ex e I:=by
    intro m k ex I ae aC am;cases ex with
    |normal=>exact ro rfl aC
    |ret=>
     have:=bq m k I am;cases S:kj body with
     |true=>rw[S]at this;exact this
     |false=>rw[S]at this;exact this.elim
    |exit i=>exact zp (br m k i I am)
    |_=>cases ae
   have bt:a.eval f= .func (.func g) #[] cap:=by rw[ad.eR az];exact bj
   refine wpIn_rangeFunc ?_;intro fn _;obtain⟨D,mark,l,y,z,bu,C,aR,an,M,aS,ao⟩:∃(D:Nat)(mark:List Deferred)(l:Nat)(y:x5)(z:LoopState->Option Code->Loop),
     (Instr.enterLoop fn a.tmps T Y body (eJ r).round).run P w= .ok (l,mark) y/\
     z=(λst bw=>{state:=st,pending:=bw,fn,tmps:=a.tmps,params:=T,assign:=Y,body,defers:=D})/\
     y.heap[l]?=σ (.loop (z .ready ν))/\(mark=[]\/(mark=[ly D]/\y.heap[D]?=σ (.deferred (σ []))/\w.heap.size<=D/\D≠l))/\Ext w y/\cO w y/\w.heap.size<=l:=by
    cases r with
    |none=>
     refine⟨w.heap.size,[ly w.heap.size],w.heap.size+1,_,_,run_enterLoop_outer _ _ _ _ _,rfl,?_,.inr ⟨rfl,?_,o4 _,Ω⟩,?_,?_,Ω⟩
     .have:=x5.alloc_heap_new (w.alloc (.deferred (σ []))) (.loop {state:=.ready,pending:=ν,fn,tmps:=a.tmps,params:=T,assign:=Y,body,defers:=w.heap.size});rwa [x5.size_alloc]at this
     .exact (Below.heap_alloc _ _ _ Ξ).F (x5.alloc_heap_new w _)
     .exact (pV w _).F (pV _ _)
     .exact (pW w _).F (pW _ _)
    |some bx=>
     obtain⟨_,bz,O⟩:=S bx rfl;exact⟨bz.defers,[],w.heap.size,_,_,run_enterLoop_inner O _ _ _ _ _,rfl,x5.alloc_heap_new w _,.inl rfl,pV _ _,pW _ _,o4 _⟩
   let R:x5->Prop:=λj=>mark=[]\/(mark=[ly D]/\j.heap[D]?=σ (.deferred (σ []))/\w.heap.size<=D/\D≠l);have aD:∀{m:Nat}{A B:x5},cL m A B->R A->R B:=λE h=>h.imp id λ⟨h1,q,s⟩=>⟨h1,E.aY _ _ q rfl,s⟩;have ap:∀{A:x5}(o:Obj),R A->R (A.putObj l o):=λo h=>h.imp id λ⟨h1,q,s,H⟩=>⟨h1,(Q7 H).F q,s,H⟩;have bA:cL b w y:=aS.b;have aT:=(b8.1 aR).1;have aU:∀{A B:x5},fI y.heap.size A B->R A->R B:=λE h=>h.imp id λ⟨h1,q,s⟩=>⟨h1,E.old _ _ (by
    rcases an with hm|⟨_,ay,_⟩
    .rw[hm]at h1;cases h1
    .exact (b8.1 ay).1) q rfl,s⟩
   have ag:∀{A:x5}(o:Obj),fI w.heap.size A (A.putObj l o):=λ{A}o=>⟨rfl,.ln,rfl,Ξ,λr x S am _=>by rw[Q7 Ω];exact am⟩;let ax:(Nat->Prop)->aN->x5->Prop:=λm k j=>aO m k j/\j.heap[l]?=σ (.loop (z .ready ν))/\cL b w j/\R j;let aV:(Nat->Prop)->aN->x5->Prop:=λm k j=>∃ex c,l2 ex=v2/\exitCode ex=σ c/\aA m k ex j/\j.heap[l]?=σ (.loop (z .done (σ c)))/\cL b w j/\R j;have own:∀{m:Nat->Prop}{A B:x5},af (λr=>o=v2/\y.heap.size<=r/\¬m r) A B->af (λr=>o=v2/\w.heap.size<=r/\¬m r) A B:=λh=>h.Y λr _ h=>⟨h.1,X1 M.size h.2.1,h.2.2⟩;have aE:=bk l ax aV y (λm k A B he E ⟨h1,q,s,H⟩=>⟨al m k A B (own he) (E.Y M.size) h1,E.old _ _ aT q rfl,s.zc E M.size,aU E H⟩)
    (λm k A B he E ⟨ex,c,O,h1,q,s,H,ah⟩=>⟨ex,c,O,h1,aB m k ex A B (own he) (E.Y M.size) q,E.old _ _ aT s rfl,H.zc E M.size,aU E ah⟩) ?round (haQ _ _ _ M hbm) ⟨al _ _ _ _ (M.V _) aS.o bn,aR,bA,an⟩
   case round=>
    intro m k aq vs j aW bB hak aX ⟨hi,au,bC,bD⟩;have aF:=bl k vs aq j aX;have aZ:=run_yield (P:=P) (args:=vs.toArray) au (by rw[C];simp[aF]);rw[C]at aZ;refine⟨fn,_,Y,body,aZ,roundIn_of_wpIn trivial ?_⟩;have bE:(T.zip vs.toArray).foldl (λtmps x=>match x with|(t,a)=>tmps.setIfInBounds t a) a.tmps=(T.toList.zip vs).foldl (λjR (p:Nat×x4)=>jR.setIfInBounds p.1 p.2) a.tmps:=by
     rw[<-Array.foldl_toList,Array.toList_zip]
    have a1:=zt T.toList vs a.tmps e (by simp[aF]) bg (show R5 N e {tmps:=a.tmps,defers:=[]}from⟨ad.1,ad.2⟩);rw[<-bE]at a1;have bF:=au;refine be (v6,b) (σ l) _ _ _ j _ _ bh (λl' aG=>⟨rfl,by cases aG;exact⟨_,au⟩⟩) (λ_=>⟨[],rfl,List.nodup_nil,λD an=>by cases an⟩) (by have aj:=sS _ _ vs bo;rw[sR _ _ _ aF]at aj;exact aj m k aq j (λr S=>⟨X1 M.size (aW r S).1,(aW r S).2⟩) (X1 M.size bB) hak aX hi) a1 ?_ (λ_ _ _ h=>h);intro ex a2 F ac;obtain⟨O,b6,h1,q,s,H,ah⟩:=ac;obtain⟨U,bG,_⟩:=ah rfl;cases ex with
    |normal=>
     have Z:=U.aY _ _ au rfl;have bH:=(b8.1 Z).1;refine⟨_,run_beginRound Z (by rw[C]),?_⟩;have bI:Ext F (F.putObj l (.loop {z .ready ν with state:=.busy})):=qY Z rfl _;have a6:(F.putObj l (.loop {z .ready ν with state:=.busy})).heap[l]?=σ (.loop {z .ready ν with state:=.busy}):=x5.putObj_heap_same bH;have bJ:mW (F.putObj l (.loop {z .ready ν with state:=.busy})) a2.defers:=by
      obtain⟨av,aa,ab,ai⟩:=bG;refine⟨av,aa,ab,λD' W=>?_⟩;have:=ai D' W;have aC:D'≠l:=λhe=>by rw[he,Z]at this;cases this
      rw[Q7 aC];exact this
     have a7:cL b w (F.putObj l (.loop {z .ready ν with state:=.busy})):=sU (bC.F U) ao _;have a8:=ap (.loop {z .ready ν with state:=.busy}) (aD U bD);have bK:=h1 _ bI ⟨zq rfl,ag _⟩ (Ho (e8.refl _) Z rfl _);refine aj (v6,b) (σ l) _ _ a2 _ _ _ bi (λl' aG=>⟨rfl,by cases aG;exact⟨_,a6⟩⟩) (λ_=>bJ) bK q ?_ (λ_ _ _ h=>h);intro bL b7 J ac;obtain⟨aH,b9,g1,ca,cb,cc,bM⟩:=ac;obtain⟨L,_,_⟩:=bM rfl;have aI:J.heap[l]?=σ (.loop {z .ready ν with state:=.busy}):=L.aY _ _ a6 rfl;have aJ:=(b8.1 aI).1;have ba:=λbN=>run_endRound (P:=P) bN aI;have aw:∀(o:Obj),Ext J (J.putObj l o):=λo=>qY aI rfl o;have bb:∀(ex:Exit)(c:Code),l2 ex=v2->exitCode ex=σ c->(bif o then False else aA m k ex J)->
       ∃v I,(Instr.endRound l (σ c)).run P J= .ok v I/\∃aK,Ending.returned v= .returned aK/\((aK= .bool v2/\(∃bP,(∀r,bP r->m r\/j.heap.size<=r/\r<I.heap.size)/\(∀r,m r->bP r)/\ak bP I/\ax bP aq I)/\(G=v2\/o=v2->cO j I)/\j.heap.size<=I.heap.size/\(o=v2->af (λr=>r<y.heap.size\/m r) j I))\/(o=v6/\aK= .bool v6/\aV m k I)):=by
      intro ex c ae bO bc;cases o with
      |true=>exact bc.elim
      |false=>
       refine⟨_,_,ba (σ c),_,rfl,.inr ⟨rfl,rfl,ex,c,ae,bO,aB m k ex _ _ ((aw _).V _) (ag _) bc,?_,sU (a7.F L) ao _,ap _ (aD L a8)⟩⟩;rw[x5.putObj_heap_same aJ,C];rfl
     cases bL with
     |normal=>
      have bQ:j.heap.size<=J.heap.size:=by
       have h1:=U.size;have q:=L.size;simp at q;omega
      obtain⟨⟨bP,d1,d2,aa,ab⟩,bR,bS⟩:(∃bP,(∀r,bP r->m r\/j.heap.size<=r/\r<J.heap.size)/\(∀r,m r->bP r)/\ak bP J/\aO bP aq J)/\(G=v2\/o=v2->e8 j J)/\(o=v2->af (λr=>r<y.heap.size\/m r) j J):=by
       cases o with
       |true=>exact⟨g1.1,λ_=>g1.2.1,λ_=>g1.2.2.Y λr _ h=>h.imp (λh=>S4 h M.size) id⟩
       |false=>exact⟨⟨m,λr h=>.inl h,λ_ h=>h,g1.1,g1.2.1⟩,λh=>g1.2.2 (h.elim id λh=>nomatch h),λh=>nomatch h⟩
      refine⟨_,_,ba ν,_,rfl,.inl ⟨rfl,⟨bP,by simpa using d1,d2,haQ _ _ _ (aw _) aa,al _ _ _ _ ((aw _).V _) (ag _) ab,?_,sU (a7.F L) ao _,ap _ (aD L a8)⟩,λbT=>?_,?_,λbU=>(bS bU).F ((aw _).V _)⟩⟩
      .rw[x5.putObj_heap_same aJ,C];rfl
      .have:=Hv bF U L aJ (bR bT);subst C;exact this
      .simpa using bQ
     |ret=>exact bb .ret _ rfl rfl g1
     |exit id=>exact bb (.exit id) _ rfl rfl g1
     |goto t=>cases aH
     |panic bV=>cases aH
     |outgrown=>cases aH
    |_=>exact h1.elim
   have aE:=gM.calls P aE aP;refine⟨l,mark,y,{target:=.fn (.func g) cap,args:=#[.func (.yield l) #[] #[]]},y,g,#[.func (.yield l) #[] #[]]++cap,y,bu,?_,λ_ _=>trivial,?_,vu _ _,?_⟩
   .simp only[resolve,bt];simp[go_sem]
   .simp only[invoke];exact aP _ _
   .have bW:(#[.func (.yield l) #[] #[]]++cap:Array x4)=(x4.func (.yield l) #[] #[]::cap.toList).toArray:=by apply Array.toList_inj.1;simp
    rw[bW];refine CallsIn.mono (zd aE) ?_;rintro cd F ⟨v,rfl,bX⟩;have left:∀(X:Loop)(ex:Exit),l2 ex=v2->F.heap[l]?=σ (.loop X)->X.state≠ .busy->cL b w F->R F->K ex e (F.putObj l (.loop {X with state:=.exhausted}))->
      Q ex {a with defers:=mark++a.defers} (F.putObj l (.loop {X with state:=.exhausted})):=by
     intro X ex ae Z ce U bd bY;have L:cL b w (F.putObj l (.loop {X with state:=.exhausted})):=sU U ao _;refine bf ex _ _ ⟨ae,e,bY,⟨ad.1,ad.2⟩,λ_ _=>rfl,(λh=>by simp[kk,lr]at h),λ_=>⟨L,?_,?_⟩⟩
     case refine_2=>
      rcases bd with hm|⟨hm,_,bZ,_⟩
      .exact⟨[],by simp[hm],λ_ h=>by cases h⟩
      .exact⟨[D],by simp[hm],λD' W=>by simp at W;omega⟩
     obtain⟨av,aa,ab,ai⟩:=ay rfl;have aL:=ap (.loop {X with state:=.exhausted}) bd;rcases aL with hm|⟨hm,aL,bZ,_⟩
     .exact⟨av,by simp[hm,aa],ab,λD' W=>L.aY _ _ (ai D' W) rfl⟩
     .refine⟨D::av,by simp[hm,aa],List.nodup_cons.2 ⟨λb0=>?_,ab⟩,λD' W=>?_⟩
      .have:=(b8.1 (ai D b0)).1;omega
      .rcases V7.1 W with h|h
       .rw[h];exact aL
       .exact L.aY _ _ (ai D' h) rfl
    rcases bX with⟨m,k,hk,h1,q,s,H⟩|⟨m,k,ex,c,O,h1,q,s,H,ah⟩
    .refine⟨ν,_,by have:=run_endLoop (P:=P) q (by rw[C];simp);rw[C]at this;exact this,?_⟩;have:=left (z .ready ν) .normal rfl q (by rw[C];simp) s H (bp m _ _ hk (al m _ _ _ ((qY q rfl _).V _) (ag _) h1));rw[C]at this;exact this
    .refine⟨σ c,_,by have:=run_endLoop (P:=P) s (by rw[C];simp);rw[C]at this;exact this,?_⟩;have:=left (z .done (σ c)) ex O s (by rw[C];simp) H ah (bs m k ex _ O (by intro he;rw[he]at h1;cases h1) (aB m _ _ _ _ ((qY s rfl _).V _) (ag _) q));rw[C]at this;cases ex with
     |normal=>cases h1
     |ret=>cases h1;exact wpIn_ret this
     |exit id=>cases h1;exact wpIn_exit this
     |goto t=>cases O
     |panic bV=>cases O
     |outgrown=>cases O
theorem sX{b:Frame}{a:Act}{k:List Item}{cs:List Frame}{c:Code}:
  step P (lone (b.atR a (.code (.scope c)::k)) cs w)= .next (lone (b.atR a (.code c:: .inScope c::k)) cs w):=
 step_lone_go (by simp[stepG,stepG.exec,Frame.atR])
theorem Hx{b:Frame}{a:Act}{k:List Item}{cs:List Frame}{c:Code}:
  step P (lone (b.atR a (.inScope c::k)) cs w)= .next (lone (b.atR a k) cs w):=
 step_lone_go (by simp[stepG,stepG.exec,Frame.atR])
theorem Hy{F:Fence}{c:Code}{Q:Exit->Act->x5->Prop}{a:Act}(h:c.wpIn F n P (λex a' I=>l2 ex=v2/\Q ex a' I) a w):
  (Code.scope c).wpIn F n P Q a w:=by
 intro b k cs A p q;have f:(lone (b.atR a (.code (.scope c)::k)) cs w).fenced P F:=fenced_calm p q rfl;obtain⟨e,r,s,⟨x,y⟩,j⟩:=h b (.inScope c::k) cs A p q;have z:∀id,exitTo id (.inScope c::k)=exitTo id k:=λid=>by simp[exitTo]
 cases e with
 |normal=>exact⟨.normal,r,s,y,.head f sX (StepsIn.trans j (.one (fenced_calm p q rfl) Hx))⟩
 |exit id=>
  exact⟨.exit id,r,s,y,λB hk=>.head f sX (j.1 B (by rw[z];exact hk)),
   λC hk=>let⟨E,h1,G⟩:=j.2 C (by rw[z];exact hk);⟨E,h1,.head f sX G⟩⟩
 |ret=>exact⟨_,r,s,y,.of_steps (.one f sX) j⟩
 |goto l=>cases x
 |panic H=>cases x
 |outgrown=>cases x
theorem sound(hm:P.follows .mixedOrders=v2)(c:Code):Sound P N c:=by
 induction c with
 |skip=>exact λfree r rd e a w K Q _ _ p h j q _=>wpIn_skip (q _ _ _ ⟨rfl,e,h,j,λ_ _=>rfl,λ_=>rfl,λC=>gO.refl (p C)⟩)
 |label l=>exact λfree r rd e a w K Q _ _ p h j q _=>wpIn_label (q _ _ _ ⟨rfl,e,h,j,λ_ _=>rfl,λ_=>rfl,λC=>gO.refl (p C)⟩)
 |ret=>exact λfree r rd e a w K Q _ _ p h j q _=>wpIn_ret (q _ _ _ ⟨rfl,e,h,j,λ_ _=>rfl,λ_=>rfl,λC=>gO.refl (p C)⟩)
 |exit i=>exact λfree r rd e a w K Q _ _ p h j q _=>wpIn_exit (q _ _ _ ⟨rfl,e,h,j,λ_ _=>rfl,λ_=>rfl,λC=>gO.refl (p C)⟩)
 |goto l=>exact λfree r rd e a w K Q _ _ p h j q _=>h.elim
 |refuse s=>exact λfree r rd e a w K Q _ _ p h j q _=>h.elim
 |region id ops aa=>
  intro free r rd e a w K Q A E p h j q F;simp only[wf,U9]at A;have W:∀o∈ops.toList,∀t,o.dst=σ t->t∈oB ops.toList:=λo ab t J=>Hr J _ ab;simp only[eK]at h;cases aa with
  |false=>exact G7 W A.1 h j λa' I ac=>q _ _ _ (zr p ac)
  |true=>
   simp only[X3,Bool.false_or]at A;exact Hg hm A.2 F W A.1 (λI h1 G H=>h I h1 G H) j λa' I ac=>q _ _ _ (zr p ac)
 |seq x y R S=>exact Hs R S
 |cond c x y R S=>
  intro free r rd e a w K Q A E p h j q F;simp only[wf,U9]at A;have X:∀ex a' I,nH N free (kk free x) K (dF x) a w ex a' I->Q ex a' I:=λex a' I ac=>q ex a' I (by
   obtain⟨O,L,h1,G,H,M,T⟩:=ac;exact⟨O,L,h1,G,λt J=>H t λh=>J (by simp[dF,h]),(λh=>M (zu _ _ _ h)),T⟩)
  have Y:∀ex a' I,nH N free (kk free y) K (dF y) a w ex a' I->Q ex a' I:=λex a' I ac=>q ex a' I (by
   obtain⟨O,L,h1,G,H,M,T⟩:=ac;exact⟨O,L,h1,G,λt J=>H t λh=>J (by simp[dF,h]),(λh=>M (zv _ _ _ h)),T⟩)
  simp only[eK]at h;cases B:eR e c with
  |none=>rw[B]at h;exact h.elim
  |some v=>
   rw[B]at h;cases v with
   |b t=>
    cases t with
    |true=>exact wpIn_cond (j.eR B) (R free r rd e a w K Q A.1 E p h j X F)
    |false=>exact wpIn_cond (j.eR B) (S free r rd e a w K Q A.2 E p h j Y F)
   |v z=>
    obtain⟨t,ad,J,C⟩:=h;refine wpIn_cond ((j.eR B).F ad) ?_;cases t with
    |true=>exact R free r rd e a w K Q A.1 E p (J rfl) j X F
    |false=>exact S free r rd e a w K Q A.2 E p (C rfl) j Y F
   |u=>exact h.elim
 |block id c B=>
  intro free r rd e a w K Q A E p h j q F;simp only[wf]at A;simp only[eK]at h;refine wpIn_block (B free r rd e a w _ _ A E p h j ?_ λZ a w U=>F Z a w U);intro ex a' I ac;obtain⟨O,L,h1,G,H,M⟩:=ac;cases ex with
  |exit i=>
   simp only[Exit.inBlock];simp only at h1;by_cases hi:i=id
   .rw[ms hi];rw[hi,Nat.beq_refl]at h1;exact q _ _ _ ⟨rfl,L,h1,G,H,M⟩
   .rw[rc hi];have:S7 i id=v6:=by
     cases V:S7 i id with
     |true=>exact ro (Nat.eq_of_beq_eq_true V) hi
     |false=>rfl
    rw[this]at h1;exact q _ _ _ ⟨rfl,L,h1,G,H,M⟩
  |_=>exact q _ _ _ ⟨O,L,h1,G,H,M⟩
 |loop c B=>exact Ht B
 |scope c B=>
  intro free r rd e a w K Q A E p h j q F;exact Hy (B free r rd e a w K (λex a' I=>l2 ex=v2/\Q ex a' I) A E p h j (λex a' I ac=>⟨ac.1,q ex a' I ac⟩) λZ a w U=>by cases U.1)
 |rangeFunc f af ag body ae V=>exact Hw ae V
def l3:Nat->List x4->Env
 |_,[]=>[]
 |i,v::r=>(i,.v v)::l3 (i+1) r
def oE(P:V3)(e:Env)(w:x5):List ResultVar->(List x4->Prop)->Prop
 |[],K=>K []
 | .tmp t::r,K=>match look e t with
  |some x=>oE P e w r λvs=>K (x.val::vs)
  |none=>False
 | .cell a t::r,K=>match look e a with
  |some x=>ab P (do loadVar t (<-asAddr x.val)) w λv=>oE P e w r λvs=>K (v::vs)
  |none=>False
def sY:List x4->x4
 |[v]=>v
 |vs=>.tuple vs.toArray
def mX(P:V3)(a:List ResultVar)(marks:Bool)(n:Nat)(Q:x4->x5->Prop):Exit->Env->x5->Prop
 | .normal,e,w| .ret,e,w=>oE P e w a λvs=>bif marks then vK n w λI=>Q (sY vs) I else Q (sY vs) w
 |_,_,_=>False
def nI:List ResultVar->List Nat
 |[]=>[]
 | .tmp t::r=>t::nI r
 | .cell a _::r=>a::nI r
theorem zw:∀(vs:List x4)(i t:Nat)(x:eI),look (l3 i vs) t=σ x->∃j v,t=i+j/\vs[j]?=σ v/\x= .v v
 |[],_,_,_,h=>by cases h
 |v::r,i,t,x,h=>by
  simp only[l3,look]at h;cases a:S7 i t with
  |true=>
   rw[a]at h;simp only[cond_true,X7]at h;exact⟨0,v,by rw[Nat.eq_of_beq_eq_true a];rfl,rfl,h.symm⟩
  |false=>
   rw[a]at h;obtain⟨j,u,h1,e,f⟩:=zw r (i+1) t x h;exact⟨j+1,u,Ω,by simpa using e,f⟩
theorem vP(vs:List x4)(h:vs.length<=n):R5 n (l3 0 vs) {tmps:=vs.toArray++Array.replicate (n-vs.toArray.size) undef,defers:=[]}:=by
 refine⟨Θ,λt x e=>?_⟩;obtain⟨j,v,h1,a,rfl⟩:=zw vs 0 t x e;have h1:t=j:=Ω
 subst h1;have f:=(x6.1 a).1;rw[Array.getD_eq_getD_getElem?,Array.getElem?_append_left (by simpa using f)];simp[a,eI.val]
def sZ(jR:Array x4):ResultVar->Sem x4
 | .tmp t=>pure (jR.getD t undef)
 | .cell b t=>do loadVar t (<-asAddr (jR.getD b undef))
theorem Hz(fn:Func)(jR:Array x4):results fn jR=(do let vs <-fn.results.mapM (sZ jR);pure (if h:vs.size=1 then vs[0]else .tuple vs)):=by
 unfold results;congr 2
theorem vQ{e:Env}{a:Act}{w:x5}(j:R5 N e a):∀(p:List ResultVar)(K:List x4->Prop),oE P e w p K->
  ∃vs,K vs/\vs.length=p.length/\∀I,Ext w I->(p.mapM (sZ a.tmps)).run P I= .ok vs I
 |[],K,h=>⟨[],h,rfl,λI _=>by simp[V8]⟩
 | .tmp t::r,K,h=>by
  simp only[oE]at h;cases f:look e t with
  |none=>rw[f]at h;exact h.elim
  |some x=>
   rw[f]at h;obtain⟨vs,h1,q,s⟩:=vQ j r _ h;refine⟨x.val::vs,h1,by simp[q],λI hw=>?_⟩;rw[List.mapM_cons];simp only[sZ,W9,V8,V1,s I hw,j.2 t x f]
 | .cell b t::r,K,h=>by
  simp only[oE]at h;cases f:look e b with
  |none=>rw[f]at h;exact h.elim
  |some x=>
   rw[f]at h;obtain⟨v,y,h⟩:=h;obtain⟨vs,h1,q,s⟩:=vQ j r _ h;refine⟨v::vs,h1,by simp[q],λI hw=>?_⟩;rw[List.mapM_cons];have:=y I hw;rw[<-j.2 b x f]at this;rw[sZ,W9,this];simp only[V1,W9,s I hw,V8]
theorem vR{fn:Func}{e:Env}{a:Act}(j:R5 N e a){K:List x4->Prop}(h:oE P e w fn.results.toList K):
  ∃vs,K vs/\∀I,Ext w I->(results fn a.tmps).run P I= .ok (sY vs) I:=by
 obtain⟨vs,h1,p,f⟩:=vQ j _ _ h;refine⟨vs,h1,λI hw=>?_⟩;have f:=f I hw;rw[Hz,W9,Array.mapM_eq_mapM_toList,map_eq_pure_bind,W9,f];simp only[V1,V8];cases vs with
 |nil=>rfl
 |cons v r=>
  cases r with
  |nil=>rfl
  |cons u r=>simp[sY]
theorem zx{fn:Func}{tmps:Array x4}{R:Ending->x5->Prop}:∀(a:List Nat)(w:x5),a.Nodup->(∀D∈a,w.heap[D]?=σ (.deferred (σ [])))->
  (∀I,Ext w I->Ext I w->I.os=w.os->kJ w I->I.output=w.output->w.heap.size=I.heap.size->
   (∀r,r∉a->I.heap[r]?=w.heap[r]?)->∃v,(results fn tmps).run P I= .ok v I/\R (.returned v) I)->
  LeavesInM Fence.wide 0 P fn tmps R (a.map ly) .returning w
 |[],w,_,_,h=>by
  obtain⟨v,h1,e⟩:=h w (Ext.refl _) (Ext.refl _) rfl .ln rfl rfl λ_ _=>rfl;exact⟨v,h1,e⟩
 |D::a,w,f,j,h=>by
  rw[List.nodup_cons]at f;have p:=j D (.head _);refine⟨Ξ,.inl ⟨D,_,rfl,run_takeDeferred p,?_⟩⟩;refine zx a _ f.2 (λD' q=>?_) λI h1 e x y z A B=>?_
  .rw[Q7 (λhe=>f.1 (by rw[<-he];exact q))];exact j D' (.tail _ q)
  .refine h I ((qY p rfl _).F h1) (e.F (zq rfl)) x y z (by simpa using A) λr s=>?_;rw[B r λhm=>s (.tail _ hm),Q7 λhe=>s (by rw[he];exact .head _)]
theorem al.enter(hm:P.follows .mixedOrders=v2){f:Q6}{fn:Func}{c:Code}(y:P.funcs[f]?=σ fn)(z:fn.body=σ c)(A:(fn.name == "runtime.NumGoroutine")=v6)(O:wf fn.ntmps c=v2){args:List x4}(R:Nat.ble args.length fn.ntmps=v2){w:x5}{Q:x4->x5->Prop}(h:eK P fn.ntmps (v6,w.heap.size) c (nI fn.results.toList) (l3 0 args) w (mX P fn.results.toList v2 w.heap.size Q)):al P f args w Q:=by
 refine .code (Enters.of P y z A) (callsIn_wide (n:=0).1 (callsIn_of_wp_marks y z trivial ?_));have S:=vP (n:=fn.ntmps) args (Nat.le_of_ble_eq_true R);refine wpIn_mono (Q:=λex a' I=>l2 ex=v2/\bodyPostM Fence.wide 0 P fn (λe I=>∃v,e= .returned v/\cO w I/\Q v I) ex a' I) ?_ λ_ _ _ h=>h.2;refine sound hm c (v6,w.heap.size) ν _ _ _ w _ _ O (λl T=>by cases T) (λ_=>⟨[],rfl,List.nodup_nil,λD q=>by cases q⟩) h S ?_ (λ_ _ _ h=>by cases h.1)
 .intro ex a' I ac;obtain⟨U,V,j,W,_,_,J⟩:=ac;obtain⟨a,⟨s,B,X,q⟩,Y,Z,ab⟩:=J rfl;have C:∀D∈s,w.heap.size<=D:=by
   intro D ad;have h1:ly D∈Y.map ly:=by
    have:ly D∈s.map ly:=j5.2 ⟨D,ad,rfl⟩;rw[<-B,Z]at this;simpa using this
   obtain⟨E,x,ae⟩:=j5.1 h1;have:E=D:=by simpa[ly]using ae
   exact this▸ab E x
  have F:mX P fn.results.toList v2 w.heap.size Q .ret V I->LeavesInM Fence.wide 0 P fn a'.tmps (λe G=>∃v,e= .returned v/\cO w G/\Q v G) a'.defers .returning I:=by
   intro j;rw[B];obtain⟨vs,h1,x⟩:=vR W j;refine zx s I X q λaa g1 af H K L M N=>⟨_,x aa g1,_,rfl,?_,h1 aa g1 ⟨af,H,K,L,Nat.le_of_eq M,λr o A p _=>by rw[N r λhm=>by have:=C r hm;omega];exact p⟩⟩;have a:=a.cB (o4 _);refine⟨H.F a.os,K.F a.tape,L.F a.output,by rw[<-M];exact a.size,λr o p ag=>?_⟩;have ah:=(b8.1 p).1;rw[N r λhm=>by have:=C r hm;omega];exact a.aY r o p ag
  cases ex with
  |normal=>exact⟨rfl,F j⟩
  |ret=>exact⟨rfl,F j⟩
  |exit id=>exact j.elim
  |_=>cases U
theorem al.HA(hm:P.follows .mixedOrders=v2){f:Q6}{fn:Func}{c:Code}(j:P.funcs[f]?=σ fn)(p:fn.body=σ c)(s:(fn.name == "runtime.NumGoroutine")=v6)(x:wf fn.ntmps c=v2){args:List x4}(y:Nat.ble args.length fn.ntmps=v2)(au:lr c=v6){w:x5}{Q:x4->x5->Prop}(h:eK P fn.ntmps (v6,w.heap.size) c (nI fn.results.toList) (l3 0 args) w (mX P fn.results.toList v6 0 Q)):al P f args w Q:=by
 refine .code (Enters.of P j p s) (callsIn_wide (n:=0).1 (callsIn_of_wp j p trivial ?_));have z:=vP (n:=fn.ntmps) args (Nat.le_of_ble_eq_true y);refine wpIn_mono (Q:=λex a' I=>l2 ex=v2/\bodyPost P fn (λe I=>∃v,e= .returned v/\cO w I/\Q v I) ex a' I) ?_ λ_ _ _ h=>h.2;refine sound hm c (v6,w.heap.size) ν _ _ _ w _ _ x (λl A=>by cases A) (λ_=>⟨[],rfl,List.nodup_nil,λD B=>by cases B⟩) h z ?_ (λ_ _ _ h=>by cases h.1);intro ex a' I ac;obtain⟨C,E,a,F,_,G,J⟩:=ac;have H:=G (by simp[kk,au]);have q:mX P fn.results.toList v6 0 Q .ret E I->a'.defers=[]/\∃v,(results fn a'.tmps).run P I= .ok v I/\∃r,Ending.returned v= .returned r/\cO w I/\Q r I:=by
  intro a;obtain⟨vs,h1,K⟩:=vR F a;exact⟨H,_,K I (Ext.refl _),_,rfl,(J rfl).1.cB (o4 _),h1⟩
 cases ex with
 |normal=>exact⟨rfl,q a⟩
 |ret=>exact⟨rfl,q a⟩
 |exit id=>exact a.elim
 |_=>cases C
theorem gM.enter(hm:P.follows .mixedOrders=v2){f:Q6}{fn:Func}{c:Code}(j:P.funcs[f]?=σ fn)(p:fn.body=σ c)(s:(fn.name == "runtime.NumGoroutine")=v6)(x:wf fn.ntmps c=v2){args:List x4}(y:Nat.ble args.length fn.ntmps=v2){w:x5}{Q:x4->x5->Prop}(h:eK P fn.ntmps (v2,0) c (nI fn.results.toList) (l3 0 args) w (mX P fn.results.toList v6 0 Q)):gM P f args w Q:=by
 refine .code (Enters.of P j p s) (callsIn_wide (n:=0).1 (callsIn_of_wp j p trivial ?_));have z:=vP (n:=fn.ntmps) args (Nat.le_of_ble_eq_true y);refine wpIn_mono (Q:=λex a' I=>l2 ex=v2/\bodyPost P fn (λe I=>∃v,e= .returned v/\Q v I) ex a' I) ?_ λ_ _ _ h=>h.2;refine sound hm c (v2,0) ν _ _ _ w _ _ x (λl A=>by cases A) (λh=>by cases h) h z ?_ (λ_ _ _ h=>by cases h.1);intro ex a' I ac;obtain⟨B,C,a,E,_,F,J⟩:=ac;have G:=F rfl;have q:mX P fn.results.toList v6 0 Q .ret C I->a'.defers=[]/\∃v,(results fn a'.tmps).run P I= .ok v I/\∃r,Ending.returned v= .returned r/\Q r I:=by
  intro a;obtain⟨vs,h1,H⟩:=vR E a;exact⟨G,_,H I (Ext.refl _),_,rfl,h1⟩
 cases ex with
 |normal=>exact⟨rfl,q a⟩
 |ret=>exact⟨rfl,q a⟩
 |exit id=>exact a.elim
 |_=>cases B
end
def qZ(l:List R4)(d:Nat):Nat:=
 match l with
 |[]=>d
 | .tmp t::r=>qZ r (Nat.lor d (Nat.shiftLeft 1 t))
 |_::r=>qZ r d
def pX:List S1->Nat->Option S1
 |[],_=>ν
 |o::_,0=>σ o
 |_::l,n+1=>pX l n
def zy(a b:Nat):Nat:=Nat.xor a (Nat.land a b)
def q0(m t:Nat):Bool:=S7 (Nat.land (Nat.shiftRight m t) 1) 1
def lz(m t:Nat):Nat:=Nat.lor m (Nat.shiftLeft 1 t)
def HB(ops:List S1)(o:S1):Nat:=
 match o.guard with
 |none=>0
 |some (j,_)=>match pX ops j with
  |some ⟨σ d,_,_,_,_,_⟩=>Nat.shiftLeft 1 d
  |_=>0
def s3:List S1->Nat->Nat
 |[],d=>d
 |⟨σ t,_,_,_,_,_⟩::l,d=>s3 l (lz d t)
 |_::l,d=>s3 l d
def zz(ops:List S1):List S1->Nat->Nat->Nat
 |[],_,r=>r
 |o::l,d,r=>zz ops l (match o.dst with|some t=>lz d t|none=>d) (Nat.lor r (zy (qZ (opsOf o.op) (HB ops o)) d))
def s4:List Nat->Nat->Nat
 |[],_=>0
 |x::_,0=>x
 |_::l,n+1=>s4 l n
def zA(e:Edge):Bool:=
 match e.ground with
 | .textOnly _=>v6
 | .gcOnly _=>v6
 |_=>v2
def zB(a:List Nat):List Edge->Nat->Nat
 |[],s=>s
 |e::r,s=>zB a r (bif zA e then Nat.lor (lz s e.on) (s4 a e.on)else s)
def vS:List S1->List Nat->List Nat
 |[],a=>a
 |o::l,a=>vS l (a++[zB a o.after.toList 0])
def zC:List S1->Bool
 |[]=>v6
 |⟨_,_,_,_,_,σ _⟩::_=>v2
 |_::l=>zC l
def vT(a:List Nat)(j k:Nat):Bool:=!(S7 k j)&&(!(q0 (s4 a j) k)&& !(q0 (s4 a k) j))
def zD(a:List Nat)(j:Nat):Nat->List S1->Bool
 |_,[]=>v6
 |i,o::l=>bif Nat.ble j i then v6 else(!(kg o)&&vT a j i)||zD a j (Nat.succ i) l
def zE(ops:List S1)(a:List Nat):Nat->List S1->Bool
 |_,[]=>v6
 |j,o::l=>(!(kg o)&&zD a j 0 ops)||zE ops a (Nat.succ j) l
def mY:Code->Nat
 | .region _ ops e=>bif (e&&zE ops.toList (vS ops.toList []) 0 ops.toList)||zC ops.toList then 2 else 1
 | .seq a b=>bif S7 (mY a) 0 then 0 else mY b
 | .cond _ a b=>Nat.add (mY a) (mY b)
 | .block id c=>Nat.add (mY c) (kL id c)
 | .loop _=>0
 | .scope c=>mY c
 | .exit _=>0
 | .goto _=>0
 | .ret=>0
 | .refuse _=>0
 |_=>1
def jn:Code->Nat
 | .region _ ops _=>s3 ops.toList 0
 | .seq a b=>Nat.lor (jn a) (jn b)
 | .cond _ a b=>Nat.lor (jn a) (jn b)
 | .block _ c=>jn c
 | .loop c=>jn c
 | .scope c=>jn c
 |_=>0
def mZ:Code->Nat
 | .region _ ops _=>s3 ops.toList 0
 | .seq a b=>Nat.lor (mZ a) (mZ b)
 | .cond _ a b=>bif S7 (mY a) 0 then mZ b else bif S7 (mY b) 0 then mZ a else Nat.land (mZ a) (mZ b)
 | .block id c=>bif S7 (kL id c) 0 then mZ c else 0
 | .scope c=>mZ c
 |_=>0
def gA:Code->Nat
 | .region _ ops _=>zz ops.toList ops.toList 0 0
 | .seq a b=>Nat.lor (gA a) (zy (gA b) (mZ a))
 | .cond c a b=>qZ [c] (Nat.lor (gA a) (gA b))
 | .block _ c=>gA c
 | .loop c=>gA c
 | .scope c=>gA c
 | .rangeFunc f _ a b=>qZ [f] (Nat.lor (gA a) (gA b))
 |_=>0
def nJ:Nat->Nat->Nat->List Nat
 |0,_,_=>[]
 |n+1,k,m=>bif S7 m 0 then[]else bif S7 (Nat.land m 1) 1 then k::nJ n (Nat.succ k) (Nat.shiftRight m 1)else nJ n (Nat.succ k) (Nat.shiftRight m 1)
def q1(e:Env):List Nat->List Nat
 |[]=>[]
 |t::r=>match look e t with
  |some _=>t::q1 e r
  |none=>q1 e r
structure nK(B S aX:Type) where
 l4:{x:x4}->x4
 tup:List x4->x4
 no:B
 l5:B
 and:B->B->B
 or:B->B->B
 W:x5->x5->B
 stays:S->x4->x5->B
 split:x4->B->B->B
 vU:S->x5->(x4->B)->B
 zF:S->x5->(x4->x5->B)->B
 zG:aX->x5->(x5->B)->B
 runN:{fr:Bool}->{n:Nat}->S->x5->(x4->x5->B)->B
 zH:{f:Q6}->List x4->x5->(x4->x5->B)->B
 zI:{f:Q6}->List x4->x5->(x4->x5->B)->B
 zJ:{fr:Bool}->x4->List x4->x5->(x4->x5->B)->B
 drew:x5->(x5->B)->B
 again:{n:Nat}->x5->(x5->B)->B
 over:{n:Nat}->x5->(x5->B)->B
 c7:(x5->B)->((x5->B)->B)->B
 aZ:(x4->x5->B)->((x4->x5->B)->B)->B
 jo:(x4->x4->x5->B)->((x4->x4->x5->B)->B)->B
 zK:(x4->x4->x4->x5->B)->((x4->x4->x4->x5->B)->B)->B
 zL:(x4->x4->x4->x4->x5->B)->((x4->x4->x4->x4->x5->B)->B)->B
 zM:(x4->x4->x4->x4->x4->x5->B)->((x4->x4->x4->x4->x4->x5->B)->B)->B
 zN:x5->(x5->(x5->B)->B)->B
 zO:x4->x5->(x4->x5->(x4->x5->B)->B)->B
 zP:x4->x4->x5->(x4->x4->x5->(x4->x4->x5->B)->B)->B
 zQ:x4->x4->x4->x5->(x4->x4->x4->x5->(x4->x4->x4->x5->B)->B)->B
 zR:x4->x4->x4->x4->x5->(x4->x4->x4->x4->x5->(x4->x4->x4->x4->x5->B)->B)->B
 zS:x4->x4->x4->x4->x4->x5->(x4->x4->x4->x4->x4->x5->(x4->x4->x4->x4->x4->x5->B)->B)->B
 zT:x4->x4->x4->x4->x4->x4->x5->(x4->x4->x4->x4->x4->x4->x5->(x4->x4->x4->x4->x4->x4->x5->B)->B)->B
 zU:x4->x5->(x4->x5->(Exit->x5->B)->B)->(x5->B)->(x5->B)->List (Nat×(x5->B))->B
 zV:x4->x5->(x4->x4->x5->(Exit->x5->B)->B)->(x5->B)->(x5->B)->List (Nat×(x5->B))->B
 loadVar:{t:o5}->x4->S
 alloc:{t:o5}->S
 box:{t:o5}->x4->S
 build:{t:o5}->List (Nat×x4)->S
 buildSlice:{t:o5}->{n:Nat}->List (Nat×x4)->S
 load:{t:o5}->x4->S
 nil:x4->S
 bin:{op:BinOp}->{t:o5}->Bool->Bool->x4->x4->S
 un:{op:UnOp}->x4->S
 conv:{s d:o5}->x4->S
 zW:{t:o5}->x4->S
 zX:{f:Fn}->List x4->List x4->S
 zY:{t:o5}->Option x4->S
 zZ:{t:o5}->x4->x4->S
 slice:{t:o5}->x4->Option x4->Option x4->Option x4->S
 z1:{t:o5}->x4->{f:Nat}->S
 field:{t:o5}->x4->{f:Nat}->S
 z6:{t:o5}->x4->x4->S
 index:{t:o5}->x4->x4->S
 lookup:{t:o5}->x4->x4->{ok:Bool}->S
 z7:{t:o5}->x4->x4->S
 range:{t:o5}->x4->S
 entry:x4->S
 assert:{t a:o5}->x4->{ok:Bool}->S
 extract:x4->{i:Nat}->S
 next:x4->{b:Bool}->S
 append:{ats:Array o5}->{t:o5}->List x4->S
 cap:{ats:Array o5}->{t:o5}->List x4->S
 clear:{ats:Array o5}->{t:o5}->List x4->S
 copy:{ats:Array o5}->{t:o5}->List x4->S
 delete:{ats:Array o5}->{t:o5}->List x4->S
 len:{ats:Array o5}->{t:o5}->List x4->S
 max:{ats:Array o5}->{t:o5}->List x4->S
 min:{ats:Array o5}->{t:o5}->List x4->S
 store:{t:o5}->x4->x4->aX
 vV:{t:o5}->x4->x4->x4->aX
 z8:{t:o5}->x4->x4->x4->aX
section
variable{B S aX:Type}(A:nK B S aX)
def eI.g:eI->x4
 | .v x=>x
 | .b c=>.bool c
 | .u=>A.l4 (x:=undef)
def oF(e:Env):R4->eI
 | .tmp t=>match look e t with
  |some x=>x
  |none=>.u
 | .const (.bool c)=>.b c
 | .const x=>.v (A.l4 (x:=x))
 | .global g=>.v (A.l4 (x:=Γ g))
 | .func f=>.v (A.l4 (x:=.func (.func f) #[] #[]))
def c8(e:Env)(x:R4):x4:=(oF A e x).g A
def oG(e:Env):List R4->List x4
 |[]=>[]
 |x::r=>c8 A e x::oG e r
def s5(e:Env):Option R4->Option x4
 |none=>ν
 |some x=>σ (c8 A e x)
def vW(e:Env):List (Nat×R4)->List (Nat×x4)
 |[]=>[]
 |(i,x)::r=>(i,c8 A e x)::vW e r
def HC(b:Y1)(ats:Array o5)(t:o5)(l:List x4)(K:S->B):B:=
 match b with
 | .append=>K (A.append (ats:=ats) (t:=t) l)
 | .cap=>K (A.cap (ats:=ats) (t:=t) l)
 | .clear=>K (A.clear (ats:=ats) (t:=t) l)
 | .copy=>K (A.copy (ats:=ats) (t:=t) l)
 | .delete=>K (A.delete (ats:=ats) (t:=t) l)
 | .len=>K (A.len (ats:=ats) (t:=t) l)
 | .max=>K (A.max (ats:=ats) (t:=t) l)
 | .min=>K (A.min (ats:=ats) (t:=t) l)
 |_=>A.no
def Aa(e:Env)(t:o5)(K:S->B)(j:aX->B):Op->B
 | .alloc t=>K (A.alloc (t:=t))
 | .box t x=>K (A.box (t:=t) (c8 A e x))
 | .build t p=>K (A.build (t:=t) (vW A e p.toList))
 | .buildSlice t n p=>K (A.buildSlice (t:=t) (n:=n) (vW A e p.toList))
 | .load t x=>K (A.load (t:=t) (c8 A e x))
 | .nilCheck x=>K (A.nil (c8 A e x))
 | .binOp op t x y _=>K (A.bin (op:=op) (t:=t) (pN x) (pN y) (c8 A e x) (c8 A e y))
 | .unOp op _ x=>K (A.un (op:=op) (c8 A e x))
 | .convert s d x=>K (A.conv (s:=s) (d:=d) (c8 A e x))
 | .makeInterface t x=>K (A.zW (t:=t) (c8 A e x))
 | .makeFunc f a b=>K (A.zX (f:=f) (oG A e a.toList) (oG A e b.toList))
 | .makeMap t r=>K (A.zY (t:=t) (s5 A e r))
 | .makeSlice t l c=>K (A.zZ (t:=t) (c8 A e l) (c8 A e c))
 | .slice t x l h m=>K (A.slice (t:=t) (c8 A e x) (s5 A e l) (s5 A e h) (s5 A e m))
 | .fieldAddr t x f=>K (A.z1 (t:=t) (c8 A e x) (f:=f))
 | .field t x f=>K (A.field (t:=t) (c8 A e x) (f:=f))
 | .indexAddr t x i=>K (A.z6 (t:=t) (c8 A e x) (c8 A e i))
 | .index t x i=>K (A.index (t:=t) (c8 A e x) (c8 A e i))
 | .lookup t x i ok=>K (A.lookup (t:=t) (c8 A e x) (c8 A e i) (ok:=ok))
 | .mapEntry t m k=>K (A.z7 (t:=t) (c8 A e m) (c8 A e k))
 | .range t x=>K (A.range (t:=t) (c8 A e x))
 | .entry x=>K (A.entry (c8 A e x))
 | .typeAssert x t a ok=>K (A.assert (t:=t) (a:=a) (c8 A e x) (ok:=ok))
 | .extract x i=>K (A.extract (c8 A e x) (i:=i))
 | .call ⟨.builtin b,args,ats⟩=>HC A b ats t (oG A e args.toList) K
 | .store t a x=>j (A.store (t:=t) (c8 A e a) (c8 A e x))
 | .mapUpdate t m k x=>j (A.vV (t:=t) (c8 A e m) (c8 A e k) (c8 A e x))
 | .insert t m k x=>j (A.vV (t:=t) (c8 A e m) (c8 A e k) (c8 A e x))
 | .entryStore t m k x=>j (A.z8 (t:=t) (c8 A e m) (c8 A e k) (c8 A e x))
 |_=>A.no
def iw(e:Env)(d:Option Tmp)(x:eI):Env:=
 match d with
 |some t=>(t,x)::e
 |none=>e
def Ab(o:S1)(e:Env)(w:x5)(K:Env->(x5->B)->B):B:=
 match o with
 |⟨d,.move x,_,_,_,_⟩=>K (iw e d (oF A e x)) (λ_=>A.l5)
 |⟨d,.assign x,_,_,_,_⟩=>K (iw e d (oF A e x)) (λ_=>A.l5)
 |⟨d,.pick c a b,_,_,_,_⟩=>
  match oF A e c with
  | .b v2=>K (iw e d (oF A e a)) (λ_=>A.l5)
  | .b v6=>K (iw e d (oF A e b)) (λ_=>A.l5)
  | .v x=>A.split x (K (iw e d (.v (c8 A e a))) (λ_=>A.l5)) (K (iw e d (.v (c8 A e b))) (λ_=>A.l5))
  | .u=>A.no
 |⟨d,op,t,_,_,_⟩=>Aa A e t (λs=>A.vU s w λv=>K (iw e d (.v v)) (A.stays s v)) (λ_=>A.no) op
def HD(fr:Bool)(n:Nat)(o:S1)(e:Env)(w:x5)(K:Env->x5->B):B:=
 match o with
 |⟨d,.call ⟨.value (.func f),args,_⟩,_,_,_,_⟩=>
  bif fr then A.zI (f:=f) (oG A e args.toList) w λv I=>K (iw e d (.v v)) I
  else A.zH (f:=f) (oG A e args.toList) w λv I=>K (iw e d (.v v)) I
 |⟨d,.call ⟨.value x,args,_⟩,_,_,_,_⟩=>A.zJ (fr:=fr) (c8 A e x) (oG A e args.toList) w λv I=>K (iw e d (.v v)) I
 |⟨d,.next x b,_,_,_,_⟩=>A.runN (fr:=fr) (n:=n) (A.next (c8 A e x) (b:=b)) w λv I=>K (iw e d (.v v)) I
 |⟨d,op,t,_,_,_⟩=>Aa A e t (λs=>A.zF s w λv I=>K (iw e d (.v v)) I) (λu=>A.zG u w λI=>K (iw e d (.v (A.l4 (x:=undef)))) I) op
def Ac(fr:Bool)(n:Nat)(o:S1)(e:Env)(w:x5)(K:Env->x5->B):B:=
 bif kg o then Ab A o e w (λa _=>K a w)else HD A fr n o e w K
def vX(ops:List S1)(o:S1)(e:Env)(D N:Env->B):B:=
 match o.guard with
 |none=>D e
 |some (j,b)=>
  match pX ops j with
  |some ⟨σ s,_,_,_,_,_⟩=>
   match look e s with
   |some (.b c)=>bif xor c b then N e else D e
   |some (.v x)=>A.split x (bif b then D ((s,.b v2)::e)else N ((s,.b v2)::e)) (bif b then N ((s,.b v6)::e)else D ((s,.b v6)::e))
   |some .u=>N e
   |none=>A.no
  |_=>A.no
def vY(fr:Bool)(n:Nat)(ops:List S1):List S1->Env->x5->(Env->x5->B)->B
 |[],e,w,K=>K e w
 |o::l,e,w,K=>vX A ops o e (λe=>Ac A fr n o e w λa I=>vY fr n ops l a I K) (λe=>vY fr n ops l (iw e o.dst .u) w K)
def Ad:List Edge->Nat->Bool
 |[],_=>v2
 |e::r,a=>(bif zA e then q0 a e.on else v2)&&Ad r a
def s6(a:Nat):Nat->List S1->List Nat
 |_,[]=>[]
 |i,o::l=>bif q0 a i then s6 a (Nat.succ i) l else bif Ad o.after.toList a then i::s6 a (Nat.succ i) l else s6 a (Nat.succ i) l
def Ae(ops:List S1):List Nat->Option Nat
 |[]=>ν
 |i::r=>match pX ops i with
  |some o=>bif kg o then σ i else Ae ops r
  |none=>ν
def Af(p:Nat->B):List Nat->B
 |[]=>A.l5
 |[i]=>p i
 |i::r=>A.and (p i) (Af p r)
def Ag(same:Bool)(q:Nat)(w:x5)(st:x5->B)(a:List (x5×List (Nat×(x5->B)))):List (x5×List (Nat×(x5->B))):=
 match same,a with
 |true,g::r=>(g.1,(q,st)::g.2)::r
 |_,a=>(w,[(q,st)])::a
def Ah(a:List Nat)(j:Nat):List (Nat×(x5->B))->Bool
 |[]=>v6
 |(i,_)::r=>vT a j i||Ah a j r
def vZ(a:List Nat)(j:Nat)(I:x5):List (Nat×(x5->B))->B
 |[]=>A.l5
 |(i,p)::r=>bif vT a j i then A.and (p I) (vZ a j I r)else vZ a j I r
def s7(a:List Nat)(j:Nat)(I:x5)(C:B):List (x5×List (Nat×(x5->B)))->B
 |[]=>C
 |(w,l)::r=>bif Ah a j l then A.and (A.or (A.W w I) (vZ A a j I l)) (s7 a j I C r)else s7 a j I C r
def oH(fr:Bool)(n:Nat)(ops:List S1)(a:List Nat):Nat->Nat->Bool->List (x5×List (Nat×(x5->B)))->Env->x5->(Env->x5->B)->B
 |0,_,_,_,e,w,K=>K e w
 |fuel+1,h,same,f,e,w,K=>
  match s6 h 0 ops with
  |[]=>K e w
  |i::r=>
   match Ae ops (i::r)with
   |some q=>
    match pX ops q with
    |some o=>vX A ops o e
      (λe=>Ab A o e w λp st=>
       bif mT o then oH fr n ops a fuel (lz h q) same f p w K
       else oH fr n ops a fuel (lz h q) v2 (Ag same q w st f) p w K)
      (λe=>bif mT o then oH fr n ops a fuel (lz h q) same f (iw e o.dst .u) w K
       else oH fr n ops a fuel (lz h q) v2 (Ag same q w (λ_=>A.l5) f) (iw e o.dst .u) w K)
    |none=>A.no
   |none=>
    Af A (λj=>match pX ops j with
     |some o=>vX A ops o e (λe=>Ac A fr n o e w λp I=>s7 A a j I (oH fr n ops a fuel (lz h j) v6 f p I K) f)
       (λe=>s7 A a j w (oH fr n ops a fuel (lz h j) v6 f (iw e o.dst .u) w K) f)
     |none=>A.no) (i::r)
def s8(e:Env):List Nat->List x4
 |[]=>[]
 |t::r=>(match look e t with|some x=>x.g A|none=>A.l4 (x:=undef))::s8 e r
def v7(l:List Nat)(vs:List x4)(e:Env):Env:=
 match l,vs with
 |t::r,v::vs=>(t,.v v)::v7 r vs e
 |_,_=>e
def s9(d:Nat):Env->Env
 |[]=>[]
 |(t,x)::r=>bif q0 d t then s9 d r else(t,x)::s9 d r
def HE(l:List Nat)(ax:List x4->x5->B)(X:(List x4->x5->B)->B):B:=
 match l with
 |[]=>A.c7 (λw=>ax [] w) λk=>X λ_ w=>k w
 |[_]=>A.aZ (λa w=>ax [a] w) λk=>X λvs w=>match vs with
  |[a]=>k a w
  |_=>A.no
 |[_,_]=>A.jo (λa b w=>ax [a,b] w) λk=>X λvs w=>match vs with
  |[a,b]=>k a b w
  |_=>A.no
 |[_,_,_]=>A.zK (λa b c w=>ax [a,b,c] w) λk=>X λvs w=>match vs with
  |[a,b,c]=>k a b c w
  |_=>A.no
 |[_,_,_,_]=>A.zL (λa b c d w=>ax [a,b,c,d] w) λk=>X λvs w=>match vs with
  |[a,b,c,d]=>k a b c d w
  |_=>A.no
 |[_,_,_,_,_]=>A.zM (λa b c d f w=>ax [a,b,c,d,f] w) λk=>X λvs w=>match vs with
  |[a,b,c,d,f]=>k a b c d f w
  |_=>A.no
 |_=>A.no
def HF(us:List x4)(w:x5)(X:List x4->x5->(List x4->x5->B)->B):B:=
 match us with
 |[]=>A.zN w λw k=>X [] w λ_ w=>k w
 |[a]=>A.zO a w λa w k=>X [a] w λvs w=>match vs with
  |[a]=>k a w
  |_=>A.no
 |[a,b]=>A.zP a b w λa b w k=>X [a,b] w λvs w=>match vs with
  |[a,b]=>k a b w
  |_=>A.no
 |[a,b,c]=>A.zQ a b c w λa b c w k=>X [a,b,c] w λvs w=>match vs with
  |[a,b,c]=>k a b c w
  |_=>A.no
 |[a,b,c,d]=>A.zR a b c d w λa b c d w k=>X [a,b,c,d] w λvs w=>match vs with
  |[a,b,c,d]=>k a b c d w
  |_=>A.no
 |[a,b,c,d,f]=>A.zS a b c d f w λa b c d f w k=>X [a,b,c,d,f] w λvs w=>match vs with
  |[a,b,c,d,f]=>k a b c d f w
  |_=>A.no
 |[a,b,c,d,f,g]=>A.zT a b c d f g w λa b c d f g w k=>X [a,b,c,d,f,g] w λvs w=>match vs with
  |[a,b,c,d,f,g]=>k a b c d f g w
  |_=>A.no
 |_=>A.no
def wa(K:Nat->x5->B):List Nat->List (Nat×(x5->B))
 |[]=>[]
 |i::r=>(i,λw=>K i w)::wa K r
def iT(fr:Bool)(n:Nat):Code->Nat->Env->x5->(Exit->Env->x5->B)->B
 | .skip,_,e,w,K=>K .normal e w
 | .label _,_,e,w,K=>K .normal e w
 | .ret,_,e,w,K=>K .ret e w
 | .exit i,_,e,w,K=>K (.exit i) e w
 | .region _ ops C,_,e,w,K=>
  bif C then A.drew w λI=>oH A fr n ops.toList (vS ops.toList []) (ops.toList.length) 0 v6 [] e I (K .normal)
  else vY A fr n ops.toList ops.toList e w (K .normal)
 | .seq x y,rd,e,w,K=>
  bif Nat.ble 2 (mY x)then
   HE A (nJ 1000 0 (Nat.land (jn x) (Nat.lor (gA y) rd))) (λvs I=>iT fr n y rd (v7 (nJ 1000 0 (Nat.land (jn x) (Nat.lor (gA y) rd))) vs (s9 (jn x) e)) I K)
    λax=>iT fr n x (Nat.lor (gA y) rd) e w λex h I=>match ex with
     | .normal=>ax (s8 A h (nJ 1000 0 (Nat.land (jn x) (Nat.lor (gA y) rd)))) I
     |ex=>K ex h I
  else iT fr n x (Nat.lor (gA y) rd) e w λex h I=>match ex with
   | .normal=>iT fr n y rd h I K
   |ex=>K ex h I
 | .cond c x y,rd,e,w,K=>
  match oF A e c with
  | .b v2=>iT fr n x rd e w K
  | .b v6=>iT fr n y rd e w K
  | .v v=>A.split v (iT fr n x rd e w K) (iT fr n y rd e w K)
  | .u=>A.no
 | .block id c,rd,e,w,K=>iT fr n c rd e w λex h I=>match ex with
  | .exit i=>bif S7 i id then K .normal h I else K (.exit i) h I
  |ex=>K ex h I
 | .loop c,rd,e,w,K=>
  HF A (s8 A e (q1 e (nJ 1000 0 (Nat.land (jn c) (Nat.lor (gA c) rd))))) w λus I k=>
   iT fr n c (Nat.lor (gA c) rd) (v7 (q1 e (nJ 1000 0 (Nat.land (jn c) (Nat.lor (gA c) rd)))) us (s9 (jn c) e)) I λex h j=>match ex with
    | .normal=>k (s8 A h (q1 e (nJ 1000 0 (Nat.land (jn c) (Nat.lor (gA c) rd))))) j
    |ex=>K ex h j
 | .scope c,rd,e,w,K=>iT fr n c rd e w K
 | .rangeFunc f E z body,_,e,w,K=>
  match E.toList with
  |[p]=>A.zU (c8 A e f) w
    (λa I k=>iT fr n z (gA body) ((p,.v a)::e) I λex h j=>match ex with
     | .normal=>A.over (n:=w.heap.size) j λr=>iT fr n body 0 h r λex _ s=>k ex s
     |_=>A.no)
    (λI=>K .normal e I) (bif kj body then λI=>K .ret e I else λ_=>A.no) (wa (λi I=>K (.exit i) e I) (kM body))
  |[p,q]=>A.zV (c8 A e f) w
    (λa b I k=>iT fr n z (gA body) ((q,.v b)::(p,.v a)::e) I λex h j=>match ex with
     | .normal=>A.over (n:=w.heap.size) j λr=>iT fr n body 0 h r λex _ s=>k ex s
     |_=>A.no)
    (λI=>K .normal e I) (bif kj body then λI=>K .ret e I else λ_=>A.no) (wa (λi I=>K (.exit i) e I) (kM body))
  |_=>A.no
 | .goto _,_,_,_,_=>A.no
 | .refuse _,_,_,_,_=>A.no
def Ai:Nat->List x4->Env
 |_,[]=>[]
 |i,v::r=>(i,.v (A.l4 (x:=v)))::Ai (i+1) r
def ta(e:Env)(w:x5):List ResultVar->(List x4->B)->B
 |[],K=>K []
 | .tmp t::r,K=>ta e w r λvs=>K ((match look e t with|some x=>x.g A|none=>A.l4 (x:=undef))::vs)
 | .cell a t::r,K=>A.vU (A.loadVar (t:=t) (match look e a with|some x=>x.g A|none=>A.l4 (x:=undef))) w λv=>ta e w r λvs=>K (v::vs)
def tb(vs:List x4)(K:x4->B):B:=
 match vs with
 |[v]=>K v
 |vs=>K (A.tup vs)
def wb:List ResultVar->Nat->Nat
 |[],s=>s
 | .tmp t::r,s=>wb r (lz s t)
 | .cell a _::r,s=>wb r (lz s a)
def HG(a:List ResultVar)(marks:Bool)(n:Nat)(Q:x4->x5->B):Exit->Env->x5->B
 | .normal,e,w=>ta A e w a λvs=>bif marks then A.again (n:=n) w λI=>tb A vs λv=>Q v I else tb A vs λv=>Q v w
 | .ret,e,w=>ta A e w a λvs=>bif marks then A.again (n:=n) w λI=>tb A vs λv=>Q v I else tb A vs λv=>Q v w
 |_,_,_=>A.no
def wc(fr marks:Bool)(fn:Func)(c:Code)(args:List x4)(w:x5)(Q:x4->x5->B):B:=
 iT A fr n c (wb fn.results.toList 0) (Ai A 0 args) w (HG A fn.results.toList marks n Q)
end
def pY(P:V3):nK Prop (Sem x4) (Sem Unit) where
 l4 {x}:=x
 tup l:=.tuple l.toArray
 no:=False
 l5:=True
 and:=And
 or:=Or
 W:=Ext
 stays:=b2 P
 split:=Split
 vU:=ab P
 zF:=aF P
 zG u w K:=aF P u w λ_ I=>K I
 runN {fr n}:=sH P (fr,n)
 zH {f}:=al P f
 zI {f}:=gM P f
 zJ {fr}:=sK P fr
 drew:=ei
 again {n}:=vK n
 over {n}:=Over n
 c7:=cC
 aZ:=cC
 jo:=cC
 zK:=cC
 zL:=cC
 zM:=cC
 zN:=Hk
 zO:=bW
 zP:=ch
 zQ:=lu
 zR:=qT
 zS:=qU
 zT:=Hl
 zU:=lx P
 zV:=pU P
 loadVar {t} x:=do loadVar t (<-asAddr x)
 alloc {t}:=Instr.alloc t v2 (.tuple #[])
 box {t} x:=Instr.box t x
 build {t} l:=Instr.build t l.toArray
 buildSlice {t n} l:=X2 t n l.toArray
 load {t} x:=u6 t x
 nil x:=bT x
 bin {op t} a b x y:=aO op t a b x y
 un {op} x:=Op.unary op x
 conv {s d} x:=convert s d x
 zW {t} x:=Instr.makeInterface t x
 zX {f} a b:=Instr.makeFunc f a.toArray b.toArray
 zY {t} x:=Instr.makeMap t x
 zZ {t} l c:=Instr.makeSlice t l c
 slice {t} x l h m:=U4 t x l h m
 z1 {t} x {f}:=u7 t x f
 field {t} x {f}:=Instr.field t x f
 z6 {t} x i:=c9 t x i
 index {t} x i:=Instr.index t x i
 lookup {t} x i {ok}:=Instr.lookup t x i ok
 z7 {t} m k:=Instr.mapEntry t m k
 range {t} x:=Instr.range t x
 entry x:=Instr.entry x
 assert {t a} x {ok}:=Instr.typeAssert x t a ok
 extract x {i}:=Y8 x i
 next x {b}:=Instr.next x b 0
 append {ats t} l:=Z9 ats t l.toArray
 cap {ats t} l:=Y1.cap_ ats t l.toArray
 clear {ats t} l:=Y1.clear_ ats t l.toArray
 copy {ats t} l:=Y1.copy_ ats t l.toArray
 delete {ats t} l:=Y1.delete_ ats t l.toArray
 len {ats t} l:=V0 ats t l.toArray
 max {ats t} l:=Y1.max_ ats t l.toArray
 min {ats t} l:=Y1.min_ ats t l.toArray
 store {t} a x:=l9 t a x
 vV {t} m k x:=Instr.mapUpdate t m k x
 z8 {t} m k x:=Instr.entryStore t m k x
end Go.Vc
namespace Go.Proofs.YtnhkbjhpbbobaaaGreatDoor
open Go Go.Vc Go.RowKit Go.Proofs Go.Proofs.Tryz
set_option maxRecDepth 100000
theorem mixed:v8.follows .mixedOrders=v2:=Ψ
def Aj:Nat:=3
def HH:Nat:=6
def HI:Nat:=7
def HJ:Nat:=8
def HK:Nat:=9
def Ak:Nat:=10
def HL:Nat:=11
def HM:Nat:=12
def HN:Nat:=13
def HO:Nat:=15
def Al:Nat:=21
def HP:Nat:=22
def HQ:Nat:=24
def Am:Nat:=25
def An:Nat:=26
def we:Nat:=27
def HR:Nat:=28
def wg:Nat:=29
def HS:Nat:=30
def HT:Nat:=31
def HU:Nat:=32
def HV:Nat:=33
def Ao:Nat:=34
def Ap:Nat:=35
def wh:Nat:=36
def Aq:Nat:=37
def Ar:Nat:=38
def HW:Nat:=46
def HX:Nat:=48
def HY:Nat:=49
def HZ:Nat:=50
def H0:Nat:=53
def H2:Nat:=54
def H3:Nat:=55
def H4:Nat:=56
def H5:Nat:=58
def H6:Nat:=59
def H7:Nat:=60
def H8:Nat:=61
def As:Nat:=62
def H9:Nat:=63
def Ia:Nat:=64
def Ib:Nat:=65
def Ic:Nat:=66
def Ie:Nat:=67
def If:Nat:=68
def Ig:Nat:=69
def Ih:Nat:=70
def Ii:Nat:=71
def Ij:Nat:=72
def Uk:Nat:=73
def wi:Nat:=74
def Ik:Nat:=75
def Il:Nat:=76
def Im:Nat:=77
def In:Nat:=78
def Io:Nat:=79
def Ip:Nat:=80
def Iq:Nat:=81
def kl:Nat:=82
def Ir:Nat:=83
def Is:Nat:=84
def It:Nat:=85
def Iu:Nat:=86
def Iv:Nat:=87
def Au:Nat:=88
def Iw:Nat:=93
def Ix:Nat:=94
def m4:Nat:=95
def Iy:Nat:=96
def Iz:Nat:=97
def IA:Nat:=98
def IB:Nat:=99
def Av:Nat:=100
def IC:Nat:=101
def ID:Nat:=102
def tc:Nat:=103
def IE:Nat:=104
def IF:Nat:=105
def IG:Nat:=106
def Aw:Nat:=109
def Ax:Nat:=110
def q2:Nat:=111
def oI:Nat:=112
def l6:Nat:=113
def Ay:Nat:=114
def wj:Nat:=115
def oJ:Nat:=116
def Az:Nat:=117
def wk:Nat:=118
def IH:Nat:=119
def II:Nat:=120
def td:Nat:=121
def m7:Nat:=122
def AA:Nat:=123
def oK:Nat:=124
def IJ:Nat:=125
def IK:Nat:=126
def IL:Nat:=127
def IM:Nat:=128
def AB:Nat:=129
def IN:Nat:=130
def IP:Nat:=131
def AC:Nat:=132
def AD:Nat:=133
def IQ:Nat:=134
def IR:Nat:=135
def IS:Nat:=136
def IT:Nat:=137
def IU:Nat:=138
def wm:Nat:=139
def IV:Nat:=140
def IW:Nat:=141
def IX:Nat:=142
def IY:Nat:=143
def IZ:Nat:=144
def I0:Nat:=145
def I1:Nat:=146
def I2:Nat:=147
def I3:Nat:=148
def oL:Nat:=149
def oM:Nat:=150
def I4:Nat:=151
def I5:Nat:=152
def I6:Nat:=153
def I7:Nat:=154
def I8:Nat:=155
def I9:Nat:=156
def Ja:Nat:=157
def Jb:Nat:=158
def Jc:Nat:=160
def Jd:Nat:=161
def Je:Nat:=162
def Jf:Nat:=163
def Jg:Nat:=164
def Jh:Nat:=165
def Ji:Nat:=166
def AE:Nat:=167
def Jj:Nat:=170
def Jk:Nat:=171
def AF:Nat:=172
def Jl:Nat:=173
def Jm:Nat:=174
def Jn:Nat:=175
def Jo:Nat:=176
def Jp:Nat:=177
def pZ:Nat:=178
def Jq:Nat:=179
def Jr:Nat:=180
def te:Nat:=181
def Js:Nat:=182
def Jt:Nat:=183
def AG:Nat:=184
def AH:Nat:=185
def AI:Nat:=186
def Ju:Nat:=187
def q3:Nat:=188
def Jv:Nat:=189
def wn:Nat:=190
def Jw:Nat:=191
def Jx:Nat:=192
def AJ:Nat:=193
def Jy:Nat:=194
def Jz:Nat:=195
def JA:Nat:=196
def JB:Nat:=197
def JC:Nat:=198
def JD:Nat:=199
def JE:Nat:=200
def AK:Nat:=201
def JF:Nat:=202
def JG:Nat:=203
def JH:Nat:=204
def JI:Nat:=205
def JJ:Nat:=206
def AL:Nat:=207
def JK:Nat:=208
def JL:Nat:=209
def JM:Nat:=210
def JN:Nat:=211
def JO:Nat:=212
def AM:Nat:=213
def JP:Nat:=214
def AN:Nat:=215
def JQ:Nat:=216
def JR:Nat:=217
def JS:Nat:=218
def JT:Nat:=219
def AO:Nat:=220
def JU:Nat:=221
def JV:Nat:=222
def wo:Nat:=223
def tf:Nat:=224
def wp:Nat:=225
def JW:Nat:=226
def wq:Nat:=227
def JX:Nat:=228
def JY:Nat:=229
def JZ:Nat:=230
def wr:Nat:=231
def J0:Nat:=232
def J1:Nat:=233
def AP:Nat:=234
def AQ:Nat:=235
def AR:Nat:=236
def J2:Nat:=237
def J3:Nat:=238
def J4:Nat:=239
def J5:Nat:=240
def J6:Nat:=241
def J7:Nat:=242
def J8:Nat:=243
def Ul:Nat:=244
def J9:Nat:=246
def cmp_isNaN_int:Nat:=247
def AS:Nat:=248
def ws:Nat:=249
def tg:Nat:=250
def Ka:Nat:=251
def Kb:Nat:=252
def AT:Nat:=253
def Kc:Nat:=254
def Kd:Nat:=255
def Ke:Nat:=256
def Kf:Nat:=257
def Kg:Nat:=258
def Kh:Nat:=259
def Ki:Nat:=260
def m8:Nat:=261
def oN:Nat:=262
def AU:Nat:=263
def Kj:Nat:=264
def Um:Nat:=265
def Kk:Nat:=266
def Un:Nat:=267
def Kl:Nat:=268
def Km:Nat:=269
def p0:Nat:=270
def Kn:Nat:=271
def Ko:Nat:=272
def Kp:Nat:=273
def Kq:Nat:=283
def Kr:Nat:=284
def th:Nat:=285
def Ks:Nat:=286
def Kt:Nat:=287
def Ku:Nat:=288
def Kv:Nat:=289
def m9:Nat:=290
def Kw:Nat:=291
def Kx:Nat:=292
def Ky:Nat:=293
def Uo:Nat:=294
def Up:Nat:=301
def Kz:Nat:=302
def KA:Nat:=303
def KB:Nat:=305
def KC:Nat:=306
def KD:Nat:=307
def Uq:Nat:=308
def KE:Nat:=309
def Ur:Nat:=310
def Us:Nat:=311
def Ut:Nat:=312
def Uu:Nat:=313
def Uv:Nat:=314
def cmp_Less_int:Nat:=315
def Uw:Nat:=316
def Ux:Nat:=317
def Uy:Nat:=327
def Uz:Nat:=328
abbrev KF:Nat:=0
abbrev av:Nat:=2
abbrev ai:Nat:=3
abbrev dN:Nat:=4
abbrev cN:Nat:=5
abbrev da:Nat:=9
abbrev cT:Nat:=22
abbrev oO:Nat:=23
abbrev eL:Nat:=25
abbrev aq:Nat:=26
abbrev ci:Nat:=27
abbrev jp:Nat:=28
abbrev cZ:Nat:=29
abbrev du:Nat:=30
abbrev oP:Nat:=31
abbrev aI:Nat:=33
abbrev kN:Nat:=38
abbrev aw:Nat:=51
abbrev fK:Nat:=58
abbrev b5:Nat:=60
abbrev db:Nat:=63
abbrev a7:Nat:=70
abbrev c0:Nat:=72
abbrev nL:Nat:=82
abbrev q4:Nat:=83
abbrev gb:Nat:=84
abbrev cV:Nat:=86
abbrev UA:Nat:=87
abbrev wu:Nat:=89
abbrev AV:Nat:=92
abbrev p1:Nat:=94
abbrev bH:Nat:=96
abbrev gd:Nat:=98
abbrev q5:Nat:=103
abbrev wv:Nat:=109
abbrev wx:Nat:=112
abbrev c3:Nat:=119
abbrev dT:Nat:=121
abbrev e0:Nat:=137
abbrev jq:Nat:=138
abbrev oQ:Nat:=139
abbrev ti:Nat:=140
abbrev gB:Nat:=142
abbrev gP:Nat:=153
abbrev na:Nat:=164
abbrev tj:Nat:=166
abbrev e9:Nat:=169
abbrev ix:Nat:=170
abbrev cF:Nat:=172
abbrev km:Nat:=177
abbrev jS:Nat:=178
abbrev cm:Nat:=180
abbrev dO:Nat:=186
abbrev cI:Nat:=188
abbrev e1:Nat:=189
abbrev cM:Nat:=191
abbrev fy:Nat:=193
abbrev dD:Nat:=197
abbrev bI:Nat:=199
abbrev ej:Nat:=201
abbrev cD:Nat:=203
abbrev ek:Nat:=207
abbrev be:Nat:=209
abbrev l7:Nat:=214
abbrev gf:Nat:=216
abbrev fa:Nat:=217
abbrev iy:Nat:=221
abbrev p2:Nat:=228
abbrev UB:Nat:=239
abbrev q6:Nat:=241
abbrev eF:Nat:=249
abbrev dc:Nat:=251
abbrev cz:Nat:=253
abbrev iU:Nat:=258
abbrev kO:Nat:=264
abbrev eu:Nat:=269
abbrev cn:Nat:=273
abbrev gC:Nat:=275
abbrev c4:Nat:=280
abbrev jT:Nat:=293
abbrev fL:Nat:=295
abbrev p3:Nat:=296
abbrev gD:Nat:=299
abbrev c5:Nat:=302
abbrev wy:Nat:=318
abbrev ie:Nat:=321
abbrev gg:Nat:=324
abbrev cJ:Nat:=326
abbrev l8:Nat:=349
abbrev kP:Nat:=351
abbrev UC:Nat:=364
abbrev p4:Nat:=371
abbrev nb:Nat:=372
abbrev nM:Nat:=394
abbrev wz:Nat:=413
abbrev q7:Nat:=436
theorem aB{f:Q6}{fn:Func}{c:Code}{Q:x4->x5->Prop}{Z:{B S aX:Type}->nK B S aX->(x4->x5->B)->B}{X:Prop}(a:v8.funcs[f]?=σ fn)(h:X)(j:fn.body=σ c:=by rfl)(_:∀{B S aX:Type}(A:nK B S aX)(Q:x4->x5->B),wc A v6 v6 (n:=w.heap.size) fn c args w Q=Z A Q:=by intros;conv=>lhs;reduce)(_:Z (pY v8) Q=X:=by dsimp only[pY])(e:X=eK v8 fn.ntmps (v6,w.heap.size) c (nI fn.results.toList) (l3 0 args) w (mX v8 fn.results.toList v6 0 Q):=by kernel_rfl)(hk:(!(fn.name == "runtime.NumGoroutine")&&wf fn.ntmps c&&Nat.ble args.length fn.ntmps&& !lr c)=v2:=by kernel_rfl):al v8 f args w Q:=by
 simp only[U9,Bool.not_eq_true']at hk;exact al.HA mixed a j hk.1.1.1 hk.1.1.2 hk.1.2 hk.2 (e▸h)
theorem jr{f:Q6}{fn:Func}{c:Code}{Q:x4->x5->Prop}{Z:{B S aX:Type}->nK B S aX->(x4->x5->B)->B}{X:Prop}(a:v8.funcs[f]?=σ fn)(h:X)(j:fn.body=σ c:=by rfl)(_:∀{B S aX:Type}(A:nK B S aX)(Q:x4->x5->B),wc A v6 v2 (n:=w.heap.size) fn c args w Q=Z A Q:=by intros;conv=>lhs;reduce)(_:Z (pY v8) Q=X:=by dsimp only[pY])(e:X=eK v8 fn.ntmps (v6,w.heap.size) c (nI fn.results.toList) (l3 0 args) w (mX v8 fn.results.toList v2 w.heap.size Q):=by kernel_rfl)(hk:(!(fn.name == "runtime.NumGoroutine")&&wf fn.ntmps c&&Nat.ble args.length fn.ntmps)=v2:=by kernel_rfl):al v8 f args w Q:=by
 simp only[U9,Bool.not_eq_true']at hk;exact al.enter mixed a j hk.1.1 hk.1.2 hk.2 (e▸h)
theorem q8{f:Q6}{fn:Func}{c:Code}{Q:x4->x5->Prop}{Z:{B S aX:Type}->nK B S aX->(x4->x5->B)->B}{X:Prop}(a:v8.funcs[f]?=σ fn)(h:X)(j:fn.body=σ c:=by rfl)(_:∀{B S aX:Type}(A:nK B S aX)(Q:x4->x5->B),wc A v2 v6 (n:=0) fn c args w Q=Z A Q:=by intros;conv=>lhs;reduce)(_:Z (pY v8) Q=X:=by dsimp only[pY])(e:X=eK v8 fn.ntmps (v2,0) c (nI fn.results.toList) (l3 0 args) w (mX v8 fn.results.toList v6 0 Q):=by kernel_rfl)(hk:(!(fn.name == "runtime.NumGoroutine")&&wf fn.ntmps c&&Nat.ble args.length fn.ntmps)=v2:=by kernel_rfl):gM v8 f args w Q:=by
 simp only[U9,Bool.not_eq_true']at hk;exact gM.enter mixed a j hk.1.1 hk.1.2 hk.2 (e▸h)
theorem kl.enters:Enters v8 kl:=Enters.of v8 (show v8.funcs[kl]?=σ Tryz.f82 from Tryz.func82) rfl Ψ
theorem m4.enters:Enters v8 m4:=Enters.of v8 (show v8.funcs[m4]?=σ Tryz.f95 from Tryz.func95) rfl Ψ
theorem m8.enters:Enters v8 m8:=Enters.of v8 (show v8.funcs[m8]?=σ Tryz.f261 from Tryz.func261) rfl Ψ
theorem p0.enters:Enters v8 p0:=Enters.of v8 (show v8.funcs[p0]?=σ Tryz.f270 from Tryz.func270) rfl Ψ
theorem m9.enters:Enters v8 m9:=Enters.of v8 (show v8.funcs[m9]?=σ Tryz.f290 from Tryz.func290) rfl Ψ
end Go.Proofs.YtnhkbjhpbbobaaaGreatDoor
namespace Go.Vc
open Go Go.RowKit
theorem wA{b o:Nat}(h:w.cell? ⟨b,o,ν⟩=σ v):∃c e f,w.heap[b]?=σ (.cells c e f)/\c[o]?=σ v:=by
 simp only[x5.cell?]at h;split at h
 .rename_i c e f a;exact⟨c,e,f,a,by simpa using h⟩
 .cases h
theorem AW(a:af S w I){b o:Nat}(j:¬S b)(h:w.cell? ⟨b,o,ν⟩=σ v):I.cell? ⟨b,o,ν⟩=σ v:=by
 obtain⟨c,e,f,p,q⟩:=wA h;simp[x5.cell?,a.aY b _ p rfl j,q]
theorem jU(a:Ext w I){b o:Nat}(h:w.cell? ⟨b,o,ν⟩=σ v):I.cell? ⟨b,o,ν⟩=σ v:=
 AW (a.V λ_=>False) (λh=>h) h
theorem oR(a:Ext w I){b o:Nat}(h:w.rangeAt b o cs):I.rangeAt b o cs:=λj v e=>jU a (h j v e)
theorem iz(a:af S w I){b o:Nat}(e:¬S b)(h:w.rangeAt b o cs):I.rangeAt b o cs:=λj v f=>AW a e (h j v f)
def ag(w:x5)(g:Nat)(e:o5)(cs:List x4):Prop:=w.heap[g]?=σ (.cells cs.toArray e (0,0))
theorem ag.W{g:Nat}(h:ag w g e cs)(a:Ext w I):ag I g e cs:=a.aY g _ h rfl
theorem ag.V{g:Nat}(h:ag w g e cs)(a:af S w I)(f:¬S g):ag I g e cs:=a.aY g _ h rfl f
theorem ag.lt{g:Nat}(h:ag w g e cs):g<w.heap.size:=(b8.1 h).1
theorem ag.cell{g:Nat}(h:ag w g e cs){o:Nat}(a:cs[o]?=σ v):w.cell? ⟨g,o,ν⟩=σ v:=by
 unfold ag at h;simp[x5.cell?,h,a]
theorem ag.Qz{w:World}{g:Nat}{e:TypeId}{cs:List Value}{v:Value}(h:ag w g e cs)(I:cs[0]?=σ v):w.cell? ⟨g,0,ν⟩=σ v:=h.cell I
theorem ag.range{g:Nat}(h:ag w g e cs):w.rangeAt g 0 cs:=λj v a=>by rw[X6];exact h.cell a
theorem ag.frozen{g:Nat}(h:ag w g e cs)(o:Nat)(a:Option Nat):w.frozen? ⟨g,o,a⟩=v6:=by
 unfold ag at h;simp[x5.frozen?,h]
def cc(w:x5)(k:Nat)(v:x4)(n:Nat)(cs:List x4):Prop:=
 cs.length=n*k/\∃b o base cap,v= .slice base n cap/\n<=cap/\cap<=maxLen/\(0<n->base=σ ⟨b,o,ν⟩)/\w.rangeAt b o cs
theorem cc.W{k:Nat}(h:cc w k v n cs)(a:Ext w I):cc I k v n cs:=by
 obtain⟨h1,b,o,base,cap,e,f,j,p,q⟩:=h;exact⟨h1,b,o,base,cap,e,f,j,p,oR a q⟩
theorem cc.le{k:Nat}(h:cc w k v n cs):n<=maxLen:=by
 obtain⟨_,_,_,_,_,_,a,e,_⟩:=h;exact X1 a e
theorem cc.nil(w:x5)(k:Nat):cc w k (.slice ν 0 0) 0 []:=⟨Ξ,0,0,ν,0,rfl,o4 _,W0 _,λh=>ro h (Nat.lt_irrefl _),λj v h=>by simp at h⟩
def aR(P:V3)(t:o5)(k b:Nat)(z:x4):Prop:=∃i,P.info? t=σ i/\i.size=k/\i.bytes=b/\i.zero=σ z
theorem aR.of{P:V3}{k b:Nat}(h:(P.info? t).map (λi=>(i.size,i.bytes,i.zero))=σ (k,b,σ z)):aR P t k b z:=by
 cases hi:P.info? t with
 |none=>simp[hi]at h
 |some i=>simp[hi]at h;exact⟨i,hi,h⟩
theorem aR.size{P:V3}{k b:Nat}(h:aR P t k b z):(P.info? t).map (·.size)=σ k:=by
 obtain⟨i,hi,J,_⟩:=h;simp[hi,J]
def bK(P:V3)(t:o5)(pl:List (Nat×Nat)):Prop:=∃a,P.underlying t=σ (.struct a)/\a.toList.map (λf=>(f.offset,((P.info? f.type).map (·.size)).getD 0))=pl
def AX(P:V3)(t:o5):Option (List (Nat×Nat)):=match P.underlying t with
 |some (.struct a)=>σ (a.toList.map λf=>(f.offset,((P.info? f.type).map (·.size)).getD 0))
 |_=>ν
theorem bK.of{P:V3}{pl:List (Nat×Nat)}(h:AX P t=σ pl):bK P t pl:=by
 unfold AX at h;split at h
 .rename_i a hu;exact⟨a,hu,by simpa using h⟩
 .cases h
section
variable{P:V3}{w:x5}
theorem ab.of{s:Sem x4}(h:∀I,Ext w I->s.run P I= .ok v I):ab P s w K=K v:=by
 refine propext ⟨λ⟨a,aW,k⟩=>?_,λk=>⟨v,h,k⟩⟩;have:=aW w (Ext.refl w);rw[h w (Ext.refl w)]at this;cases this;exact k
theorem aF.of{α:Type}{s:Sem α}{v:α}{K:α->x5->Prop}(h:s.run P w= .ok v I)(a:cO w I)(k:K v I):aF P s w K:=⟨v,I,h,a,k⟩
theorem b4{c:Bool}{A B:Prop}:Split (.bool c) A B=((c=v2->A)/\(c=v6->B)):=by
 refine propext ⟨λ⟨e,h,h1,a⟩=>?_,λ⟨h1,a⟩=>⟨c,rfl,h1,a⟩⟩;cases h;exact⟨h1,a⟩
theorem _root_.am{p:Prop}[Decidable p]{A B:Prop}:Split (.bool (decide p)) A B=((p->A)/\(¬p->B)):=by rw[b4];simp
theorem bQ{A B:Prop}:Split (.bool v2) A B=A:=by rw[b4];simp
theorem a6{A B:Prop}:Split (.bool v6) A B=B:=by rw[b4];simp
theorem aP{b:Int}:ab P (aO .add t cx cy (.int k a) (.int k b)) w K=K (.int k (k.wrap (a+b))):=
 ab.of λI _=>by simp[aO,eqGuard,binOp,Op.intArith]
theorem dx{b:Int}:ab P (aO .sub t cx cy (.int k a) (.int k b)) w K=K (.int k (k.wrap (a-b))):=
 ab.of λI _=>by simp[aO,eqGuard,binOp,Op.intArith]
theorem fz{b:Int}:ab P (aO .mul t cx cy (.int k a) (.int k b)) w K=K (.int k (k.wrap (a*b))):=
 ab.of λI _=>by simp[aO,eqGuard,binOp,Op.intArith]
theorem nN{b:Int}(e:b≠0):ab P (aO .quo t cx cy (.int k a) (.int k b)) w K=K (.int k (k.wrap (a.tdiv b))):=
 ab.of λI _=>by simp[aO,eqGuard,binOp,Op.intDiv,e]
theorem q9{b:Int}(e:b≠0):ab P (aO .rem t cx cy (.int k a) (.int k b)) w K=K (.int k (a.tmod b)):=
 ab.of λI _=>by simp[aO,eqGuard,binOp,Op.intDiv,e]
theorem aS{b:Int}:ab P (aO .lss t cx cy (.int k a) (.int k b)) w K=K (.bool (decide (a<b))):=
 ab.of λI _=>by simp[aO,eqGuard,binOp,Op.intCmp]
theorem Υ{k:IntKind}{P:Program}{t:TypeId}{cx cy:Bool}{a b:Int}{w:World}{A B:Prop}(hA:a<b->A)(h:a<b:=by omega):ab P (aO .lss t cx cy (.int k a) (.int k b)) w λv=>Split v A B:=by
 rw[aS,am];exact⟨hA,λe=>ro h e⟩
theorem lA{b:Int}:ab P (aO .leq t cx cy (.int k a) (.int k b)) w K=K (.bool (decide (a<=b))):=
 ab.of λI _=>by simp[aO,eqGuard,binOp,Op.intCmp]
theorem bU{b:Int}:ab P (aO .gtr t cx cy (.int k a) (.int k b)) w K=K (.bool (decide (b<a))):=
 ab.of λI _=>by simp[aO,eqGuard,binOp,Op.intCmp]
theorem cP{b:Int}:ab P (aO .geq t cx cy (.int k a) (.int k b)) w K=K (.bool (decide (b<=a))):=
 ab.of λI _=>by simp[aO,eqGuard,binOp,Op.intCmp]
theorem bm{b:Int}:ab P (aO .eql t cx cy (.int k a) (.int k b)) w K=K (.bool (decide (a=b))):=
 ab.of λI _=>by
  have:(a == b)=decide (a=b):=by by_cases h:a=b<;>simp[h]
  simp[aO,eqGuard,binOp,Op.intCmp,this]
theorem bL{b:Int}:ab P (aO .neq t cx cy (.int k a) (.int k b)) w K=K (.bool (decide (a≠b))):=
 ab.of λI _=>by
  have:(a != b)=decide (a≠b):=by by_cases h:a=b<;>simp[h,bne]
  simp[aO,eqGuard,binOp,Op.intCmp,this]
theorem AY{e:j0}{b:Int}(f:0<=b):ab P (aO .shl t cx cy (.int k a) (.int e b)) w K=K (.int k (k.wrap (a*2 ^ min b.toNat k.bits))):=
 ab.of λI _=>by simp[aO,eqGuard,binOp,Op.shift,show¬b<0 by omega]
theorem bM{c:Bool}:ab P (Op.unary .not (.bool c)) w K=K (.bool !c):=ab.of λI _=>by simp[Op.unary]
theorem nc:ab P (Op.unary .neg (.int k a)) w K=K (.int k (k.wrap (0-a))):=ab.of λI _=>by simp[Op.unary,Op.intArith]
theorem fA{s d:o5}{e:j0}(J:P.underlying s=σ (.int e))(f:P.underlying d=σ (.int k)):
  ab P (convert s d (.int e a)) w K=K (.int k (k.wrap a)):=ab.of λI _=>by simp[convert,run_underlying J,run_underlying f,Conv.intToInt]
theorem AZ{x y:x4}{r:Bool}(a:∀I,(eqGuard .eql t (ba cx) (ba cy) x y).run P I= .ok () I)(e:binOp .eql t x y=(do pure (.bool (<-Op.equal t x y))))(h:∀I,Ext w I->(Op.equal t x y).run P I= .ok r I):ab P (aO .eql t cx cy x y) w K=K (.bool r):=ab.of λI f=>by
 unfold aO;rw[e,W9,a I,Result.andThen_ok,W9,h I f];rfl
theorem KG{x y:x4}{r:Bool}(a:∀I,(eqGuard .neq t (ba cx) (ba cy) x y).run P I= .ok () I)(e:binOp .neq t x y=(do pure (.bool (!(<-Op.equal t x y)))))(h:∀I,Ext w I->(Op.equal t x y).run P I= .ok r I):ab P (aO .neq t cx cy x y) w K=K (.bool !r):=ab.of λI f=>by
 unfold aO;rw[e,W9,a I,Result.andThen_ok,W9,h I f];rfl
theorem A0(w:x5)(d:Nat){p:Option Addr}(h:P.underlying t=σ (.pointer e)):(Op.equalIn (d+1) t (.pointer p) (.pointer ν)).run P w= .ok p.isNone w:=by
 cases p<;>simp[Op.equalIn,run_underlying h]
theorem tk{base:Option Addr}(a:P.underlying t=σ (.slice e)):
  ab P (aO .eql t cx cy (.slice base n c) (.slice ν 0 0)) w K=K (.bool base.isNone):=AZ (λ_=>rfl) rfl λI _=>run_equal_slice_nil I t e base n c a
theorem dg{p:Option Addr}(a:P.underlying t=σ (.pointer e)):
  ab P (aO .eql t cx cy (.pointer p) (.pointer ν)) w K=K (.bool p.isNone):=AZ (λ_=>rfl) rfl λI _=>A0 I 9999 a
theorem wB{p:Option Addr}(a:P.underlying t=σ (.pointer e)):
  ab P (aO .neq t cx cy (.pointer p) (.pointer ν)) w K=K (.bool !p.isNone):=KG (λ_=>rfl) rfl λI _=>A0 I 9999 a
theorem iV{a:o5}{base:Option Addr}(f:P.underlying t=σ (.slice e)):
  ab P (V0 #[t] a #[.slice base n c]) w K=K (Δ n):=ab.of λI _=>by simp[V0,run_underlying f,goInt]
theorem ma{e:Array o5}{f:o5}{b:Int}:
  ab P (Y1.min_ e f #[.int k a,.int k b]) w K=K (.int k (min a b)):=ab.of λI _=>by
 simp only[Y1.min_,List.foldlM,Y1.min2];simp only[W9,V8,Result.andThen_ok,Int.min_def];congr 2;split<;>split<;>omega
theorem tm{e:Array o5}{f:o5}{b:Int}:
  ab P (Y1.max_ e f #[.int k a,.int k b]) w K=K (.int k (max a b)):=ab.of λI _=>by
 simp only[Y1.max_,List.foldlM,Y1.max2];simp only[W9,V8,Result.andThen_ok,Int.max_def];congr 2;split<;>split<;>omega
theorem jV{vs:Array x4}{i:Nat}(h:vs[i]?=σ v):ab P (Y8 (.tuple vs) i) w K=K v:=ab.of λI _=>by simp[Y8,h]
theorem mb{f:Fn}{a b:Array x4}:ab P (Instr.makeFunc f a b) w K=K (.func f a b):=ab.of λ_ _=>rfl
def kQ(P:V3)(t:o5):Bool:=match P.underlying t with
 |some (.struct _)|some (.array _ _)|none=>v6
 |_=>v2
theorem aE{b o:Nat}(a:kQ P t=v2)(h:w.cell? ⟨b,o,ν⟩=σ v):
  ab P (u6 t (.pointer (σ ⟨b,o,ν⟩))) w K=K v:=ab.of λI e=>by
 have aW:=jU e h;unfold kQ at a;cases hu:P.underlying t with
 |none=>rw[hu]at a;cases a
 |some d=>
  rw[hu]at a;cases d<;>first|(cases a;done)|simp[u6,Instr.sureAddr,loadVar,isAgg,run_underlying hu,aW]
theorem A1{d:TypeDesc}{b o k a:Nat}(hu:P.underlying t=σ d)(e:d.isRow=v2)(hi:aR P t k a z)(f:cs.length=k)(h:w.rangeAt b o cs):ab P (u6 t (.pointer (σ ⟨b,o,ν⟩))) w K=K (.agg cs.toArray):=ab.of λI j=>
 run_loadAt_mid I b o t cs d (oR j h) hu e (by rw[hi.size,f])
theorem bC{pl:List (Nat×Nat)}{b o k a:Nat}(hu:bK P t pl)(hi:aR P t k a z)(e:cs.length=k)(h:w.rangeAt b o cs):ab P (u6 t (.pointer (σ ⟨b,o,ν⟩))) w K=K (.agg cs.toArray):=by
 obtain⟨f,hu,_⟩:=hu;exact A1 hu rfl hi e h
theorem aU{pl:List (Nat×Nat)}{i b o p z:Nat}(ac:bK P t pl)(a:pl[i]?=σ (p,z+1)):
  ab P (u7 t (.pointer (σ ⟨b,o,ν⟩)) i) w K=K (.pointer (σ ⟨b,o+p,ν⟩)):=ab.of λI _=>by
 obtain⟨r,hu,rfl⟩:=ac;rw[u4]at a;cases e:r[i]? with
 |none=>rw[Q0,e]at a;cases a
 |some f=>
  rw[Q0,e]at a;simp only[Y3,X7,S8]at a;obtain⟨rfl,q⟩:=a;cases h:P.info? f.type with
  |none=>simp[h]at q
  |some j=>
   have J:j.size=z+1:=by simpa[h]using q
   simp[u7,run_underlying hu,e,Instr.sureAddr,fieldPlace,sizeOf,typeInfo,h,J,T9]
theorem A2{i:Int}{b o z f:Nat}{h:x4}{base:Option Addr}(hu:P.underlying t=σ (.slice e))(p:aR P e z f h)(q:0<=i)(hi:i<n)(a:0<n->base=σ ⟨b,o,ν⟩):
  ab P (c9 t (.slice base n c) (.int k i)) w K=K (.pointer (σ ⟨b,o+i.toNat*z,ν⟩)):=ab.of λI _=>by
 have a:=a Ω;subst a;obtain⟨j,r,J,_⟩:=p;simp[c9,asIntOf,run_underlying hu,q,hi,sizeOf,typeInfo,r,J,T9]
theorem eS{i:Nat}{b o z a:Nat}{f:x4}{base:Option Addr}(hu:P.underlying t=σ (.slice e))(h:aR P e z a f)(hi:i<n)(j:0<n->base=σ ⟨b,o,ν⟩):
  ab P (c9 t (.slice base n c) (.int k (i:Int))) w K=K (.pointer (σ ⟨b,o+i*z,ν⟩)):=by
 rw[A2 hu h Ω Ω j];rfl
theorem KH{i:Int}{b o z a:Nat}{f:x4}(hu:P.underlying t=σ (.array n e))(h:aR P e z a f)(p:0<=i)(hi:i<n):
  ab P (c9 t (.pointer (σ ⟨b,o,ν⟩)) (.int k i)) w K=K (.pointer (σ ⟨b,o+i.toNat*z,ν⟩)):=ab.of λI _=>by
 obtain⟨j,q,J,_⟩:=h;simp[c9,asIntOf,run_underlying hu,Instr.sureAddr,p,hi,sizeOf,typeInfo,q,J,T9]
theorem wC{i:Nat}{b o z a:Nat}{f:x4}(hu:P.underlying t=σ (.array n e))(h:aR P e z a f)(hi:i<n):
  ab P (c9 t (.pointer (σ ⟨b,o,ν⟩)) (.int k (i:Int))) w K=K (.pointer (σ ⟨b,o+i*z,ν⟩)):=by
 rw[KH hu h Ω Ω];rfl
def nd:Option x4->Nat->Prop
 |none,l=>l=0
 |some v,l=>∃k,v= .int k l
def ne:Option x4->Nat->Nat->Prop
 |none,n,h=>h=n
 |some v,_,h=>∃k,v= .int k h
def maxOf:Option x4->Option x4->Nat->Nat->Prop
 |none,_,c,m=>m=c
 |some v,σ _,_,m=>∃k,v= .int k m
 |some _,ν,_,_=>False
theorem ra{l:Nat}:nd (σ (.int k (l:Int))) l:=⟨_,rfl⟩
theorem oS(l:Nat)(x:Int)(h:x=(l:Int)):nd (σ (.int k x)) l:=⟨k,by rw[h]⟩
theorem oT(l:Nat)(x:Int)(h:x=(l:Int)):ne (σ (.int k x)) n l:=⟨k,by rw[h]⟩
theorem jW:nd ν 0:=rfl
theorem oU:ne (σ (.int k (h:Int))) n h:=⟨_,rfl⟩
theorem kR:ne ν n n:=rfl
theorem fh{h:Option x4}:maxOf ν h c c:=by cases h<;>rfl
theorem tn(w:x5){sl:Bool}{l m:Nat}{low high mx:Option x4}(h1:nd low l)(e:ne high n h)(a:maxOf mx high c m)(f:l<=h)(au:h<=m)(hm:m<=c):
  (Instr.sliceBounds sl n c low high mx).run P w= .ok (l,h,m) w:=by
 cases low<;>cases high<;>cases mx<;>simp only[nd,ne,maxOf]at h1 e a<;>(try exact a.elim)<;>(try obtain⟨j,rfl⟩:=h1)<;>(try obtain⟨p,rfl⟩:=e)<;>(try obtain⟨q,rfl⟩:=a)<;>(try subst h1)<;>(try subst e)<;>(try subst a) <;>
  simp[Instr.sliceBounds,Instr.sliceBound,asIntOf,f,au,hm]
theorem ig{z a l m:Nat}{f:x4}{base:Option Addr}{low high mx:Option x4}(hu:P.underlying t=σ (.slice e))(p:aR P e z a f)(h1:nd low l)(q:ne high n h)(r:maxOf mx high c m)(s:l<=h)(au:h<=m)(hm:m<=c):
  ab P (U4 t (.slice base n c) low high mx) w K=K (.slice (if m=l then base else base.map (·.add (l*z))) (h-l) (m-l)):=ab.of λI _=>by
 obtain⟨j,x,J,_⟩:=p;simp[U4,Instr.slice,run_underlying hu,tn I h1 q r s au hm,sizeOf,typeInfo,x,J]
theorem tp{z a l m b o:Nat}{f:x4}{low high mx:Option x4}(hu:P.underlying t=σ (.array n e))(p:aR P e z a f)(h1:nd low l)(q:ne high n h)(r:maxOf mx high n m)(s:l<=h)(au:h<=m)(hm:m<=n):
  ab P (U4 t (.pointer (σ ⟨b,o,ν⟩)) low high mx) w K=K (.slice (σ (if m=l then⟨b,o,ν⟩else⟨b,o+l*z,ν⟩)) (h-l) (m-l)):=ab.of λI _=>by
 obtain⟨j,x,J,_⟩:=p;simp[U4,Instr.sureAddr,run_underlying hu,tn I h1 q r s au hm,sizeOf,typeInfo,x,J,T9]
theorem dm{parts:Array (Nat×x4)}{cs:Array x4}(h:P.built t parts.toList=σ cs):ab P (Instr.build t parts) w K=K (.agg cs):=ab.of λI _=>
 run_build I t parts cs h
end
theorem cc.part{k l m:Nat}{base:Option Addr}(J:cc w k (.slice base n c) n cs)(q:l<=h)(au:h<=n)(hm:h<=m)(r:m<=c):
  cc w k (.slice (if m=l then base else base.map (·.add (l*k))) (h-l) (m-l)) (h-l) ((cs.drop (l*k)).take ((h-l)*k)):=by
 obtain⟨h1,b,o,s,cap,he,x,y,e,f⟩:=J;cases he;have z:h*k<=n*k:=X4 _ au;have A:l*k+(h-l)*k=h*k:=by rw[<-U6];congr 1;omega
 refine⟨by simp[h1];omega,b,o+l*k,_,m-l,rfl,Ω,Ω,λB=>?_,λj v a=>?_⟩
 .rw[e Ω,rc Ω];simp[T9]
 .have p:=(x6.1 a).1;simp at p;rw[Y6 Ω,R3]at a;rw[Q3];exact f _ _ a
section
variable{P:V3}{w:x5}
structure ko(g:Nat)(w I:x5):Prop where
 os:I.os=w.os
 tape:kJ w I
 output:I.output=w.output
 size:I.heap.size=w.heap.size
 aY:∀r,r≠g->I.heap[r]?=w.heap[r]?
theorem ko.refl(g:Nat)(w:x5):ko g w w:=⟨rfl,.ln,rfl,rfl,λ_ _=>rfl⟩
theorem ko.F{g:Nat}{a b c:x5}(h:ko g a b)(k:ko g b c):ko g a c:=
 ⟨k.os.F h.os,k.tape.F h.tape,k.output.F h.output,k.size.F h.size,λr e=>(k.aY r e).F (h.aY r e)⟩
theorem ko.V{g:Nat}{w:x5}(h:ko g w I):af (λr=>r=g) w I:=⟨Nat.le_of_eq h.size.symm,λr o a _ e=>by rw[h.aY r e];exact a⟩
theorem ko.cB{g:Nat}{w:x5}(h:ko g w I)(f:ag w g e cs):cO w I:=
 ⟨h.os,h.tape,h.output,Nat.le_of_eq h.size.symm,λr o a J=>by
  by_cases j:r=g
  .subst j;unfold ag at f;rw[f]at a;cases a;simp[fH]at J
  .rw[h.aY r j];exact a⟩
theorem A3{g:Nat}(h:ag w g e cs)(o:Nat)(v:x4):ag (w.setCell ⟨g,o,ν⟩ v) g e (cs.set o v)/\ko g w (w.setCell ⟨g,o,ν⟩ v):=by
 unfold ag at h;refine⟨?_,rfl,.ln,rfl,by simp[x5.setCell],λr a=>?_⟩
 .simp[ag,x5.setCell,Array.getElem?_modify,h]
 .simp[x5.setCell,Array.getElem?_modify,R7 a]
def over(cs:List x4):Nat->List x4->List x4
 |_,[]=>cs
 |o,v::r=>over (cs.set o v) (o+1) r
theorem nf:∀(vs cs:List x4)(o:Nat),(over cs o vs).length=cs.length
 |[],_,_=>rfl
 |v::r,cs,o=>by simp[over,nf r]
theorem oV:∀(vs cs:List x4)(o:Nat),o+vs.length<=cs.length->∀j,(over cs o vs)[j]?=if o<=j/\j<o+vs.length then vs[j-o]? else cs[j]?
 |[],cs,o,_,j=>by simp[over];intro h1 a;omega
 |v::r,cs,o,h,j=>by
  simp only[Y0]at h;rw[over,oV r (cs.set o v) (o+1) Θ j];simp only[Y0];by_cases h1:o+1<=j/\j<o+1+r.length
  .rw[ms h1,ms Ω];rw[show j-o=(j-(o+1))+1 by omega,List.getElem?_cons_succ]
  .rw[rc h1];by_cases a:j=o
   .subst a;rw[ms Ω,n9 Ω];simp
   .rw[rc Ω,Z6 (R7 a)]
theorem nO{o:Nat}(h:o+vs.length<=cs.length):over cs o vs=cs.take o++vs++cs.drop (o+vs.length):=by
 apply X0;intro j;rw[oV vs cs o h];by_cases h1:j<o
 .rw[rc Ω,Y4 Θ,Y4 Θ,Y6 h1]
 .by_cases a:j<o+vs.length
  .rw[ms Ω,Y4 Θ,Z7 Θ];congr 1;simp;omega
  .rw[rc Ω,Z7 Θ,R3];congr 1;simp;omega
theorem oW{g:Nat}{e:o5}:∀(vs:List x4)(cs:List x4)(o:Nat)(w:x5),ag w g e cs->ag (w.setCells g o vs) g e (over cs o vs)/\ko g w (w.setCells g o vs)
 |[],cs,o,w,h=>⟨h,ko.refl _ _⟩
 |v::r,cs,o,w,h=>by
  obtain⟨h1,a⟩:=A3 h o v;obtain⟨f,j⟩:=oW r (cs.set o v) (o+1) _ h1;exact⟨f,a.F j⟩
theorem tq(w:x5)(c:List x4)(e:o5):ag (w.alloc (.cells c.toArray e)) w.heap.size e c/\Ext w (w.alloc (.cells c.toArray e))/\cO w (w.alloc (.cells c.toArray e)):=
 ⟨heap_alloc_new w _,qO w _,qP w _⟩
theorem bF{k a:Nat}{K:x4->x5->Prop}(hi:aR P t k a z)(h:∀g I,g=w.heap.size->Ext w I->ag I g t z.cells.toList->K (Γ g) I):aF P (Instr.alloc t v2 (.tuple #[])) w K:=by
 obtain⟨i,hi,_,_,e⟩:=hi;obtain⟨h1,f,j⟩:=tq w z.cells.toList t;refine .of ?_ j (h _ _ rfl f h1);simp[Instr.alloc,zeroValue,typeInfo,hi,e,newVar,newRow]
theorem bp{K:x4->x5->Prop}(h:∀g I,g=w.heap.size->Ext w I->ag I g t v.cells.toList->K (Γ g) I):aF P (Instr.box t v) w K:=by
 obtain⟨h1,a,e⟩:=tq w v.cells.toList t;refine .of ?_ e (h _ _ rfl a h1);simp[Instr.box,newVar,newRow]
def dU(z:Array x4)(n:Nat):List x4:=((Array.range n).map (z[·% z.size]!)).toList
theorem p5(z:Array x4)(n:Nat):(dU z n).length=n:=by simp[dU]
theorem kS{k q:Nat}{parts:Array (Nat×x4)}{cs:Array x4}{K:x4->x5->Prop}(p:P.underlying t=σ (.slice e))(hi:aR P e k q z)(A:n*k<=2 ^ 24)(a:Instr.fill (λj=>σ (j*k,k)) ((Array.range (n*k)).map ((if n*k=0 then#[]else z.cells)[·% (if n*k=0 then#[]else z.cells).size]!)) parts.toList=σ cs)(h:∀g I,g=w.heap.size->Ext w I->ag I g e cs.toList->K (.slice (σ ⟨g,0,ν⟩) n n) I):aF P (X2 t n parts) w K:=by
 obtain⟨i,hi,rfl,_,r⟩:=hi;obtain⟨h1,s,x⟩:=tq w cs.toList e;refine .of ?_ x (h _ _ rfl s h1);have y:¬(16777216<n*i.size):=Ω
 by_cases f:n*i.size=0
 .simp only[f,if_true]at a;simp[X2,run_underlying p,sizeOf,typeInfo,hi,f,newRow];simp at a;simp[a]
 .simp only[f,if_false]at a;simp[X2,run_underlying p,sizeOf,typeInfo,hi,y,f,newRow,zeroValue,r,a]
theorem bt{g o:Nat}{K:Unit->x5->Prop}(hi:aR P t 1 j z)(h1:v.cells= #[v])(p:v.oneCell'=v2)(a:ag w g e cs)(q:o<cs.length)(h:∀I,af (λr=>r=g) w I->I.heap.size=w.heap.size->ag I g e (cs.set o v)->K () I):aF P (l9 t (.pointer (σ ⟨g,o,ν⟩)) v) w K:=by
 obtain⟨i,hi,J,_⟩:=hi;obtain⟨s,f⟩:=A3 a o v;refine .of ?_ (f.cB a) (h _ f.V f.size s);have x:=a.cell (x8 q);have y:(⟨g,o,ν⟩:Addr).add 0=⟨g,o,ν⟩:=rfl;simp[l9,Instr.sureAddr,storeVar,sizeOf,typeInfo,hi,J,h1,storeCells,y,run_store P w _ v _ p,x,a.frozen]
theorem A4{k p g o:Nat}{K:Unit->x5->Prop}(hi:aR P t k p z)(q:vs.length=k)(s:∀v∈vs,v.oneCell'=v2)(a:ag w g e cs)(A:o+vs.length<=cs.length)(h:∀I,af (λr=>r=g) w I->I.heap.size=w.heap.size->ag I g e (over cs o vs)->K () I):aF P (l9 t (.pointer (σ ⟨g,o,ν⟩)) (.agg vs.toArray)) w K:=by
 obtain⟨x,f⟩:=oW vs cs o w a;refine .of ?_ (f.cB a) (h _ f.V f.size x);exact run_storeAt_mid w g o t vs.toArray (λj y=>⟨by rw[a.cell (x8 (show o+j<cs.length by simp at y;omega))];rfl,a.frozen _ _⟩) (by rw[hi.size];simp[q]) (by simpa using s)
def b0(w:x5)(g:Nat)(e:o5)(k:Nat)(v:x4)(n:Nat)(xs:List x4):Prop:=
 xs.length=n*k/\((v= .slice ν 0 0/\n=0)\/∃cap cs,v= .slice (σ ⟨g,0,ν⟩) n cap/\ag w g e cs/\n<=cap/\cap<=maxLen/\cs.length=cap*k/\cs.take (n*k)=xs)
theorem b0.nil(w:x5)(g:Nat)(e:o5)(k:Nat):b0 w g e k (.slice ν 0 0) 0 []:=⟨Ξ,.inl ⟨rfl,rfl⟩⟩
theorem b0.full{g:Nat}{k:Nat}(h:ag w g e cs)(a:cs.length=n*k)(f:n<=maxLen):b0 w g e k (.slice (σ ⟨g,0,ν⟩) n n) n cs:=
 ⟨a,.inr ⟨n,cs,rfl,h,o4 _,f,a,by rw[<-a,j4]⟩⟩
theorem b0.V{g:Nat}{k:Nat}(h:b0 w g e k v n xs)(f:af S w I)(j:g<w.heap.size->¬S g):b0 I g e k v n xs:=
 ⟨h.1,h.2.imp id λ⟨cap,cs,h1,a,p⟩=>⟨cap,cs,h1,a.V f (j a.lt),p⟩⟩
theorem b0.W{g:Nat}{k:Nat}(h:b0 w g e k v n xs)(a:Ext w I):b0 I g e k v n xs:=h.V (a.V λ_=>False) (λ_ h=>h)
theorem b0.sl{g:Nat}{k:Nat}(h:b0 w g e k v n xs):cc w k v n xs:=by
 obtain⟨h1,⟨rfl,rfl⟩|⟨cap,cs,rfl,f,p,q,s,r⟩⟩:=h
 .have:xs=[]:=Z5 (by simpa using h1);subst this;exact cc.nil w k
 .refine⟨h1,g,0,_,cap,rfl,p,q,λ_=>rfl,λj v a=>?_⟩;rw[X6];have x:=(x6.1 a).1;rw[<-r,Y6 Ω]at a;exact f.cell a
theorem cc.src{k:Nat}{x:x4}{m:Nat}{a:List x4}{f h:o5}(J:cc w k x m a)(hk:P.underlying f=σ (.slice h))(h1:∀u∈a,u.oneCell'=v2)(p:0<m):Src P k f x m a w:=by
 obtain⟨q,b,o,base,cap,rfl,_,_,e,r⟩:=J;have e:=e p;subst e;exact Src.ofSlice w hk ⟨b,o,ν⟩ m cap a q (λj u hu=>by rw[T9];exact r j u hu) h1
theorem cc.KI{k:Nat}{x:x4}{f:List x4}{h:o5}(J:cc w k x 0 f)(hk:P.underlying e=σ (.slice h)):Src P k e x 0 [] w:=by
 obtain⟨j,b,o,base,cap,rfl,_,_,p,q⟩:=J;cases base with
 |none=>exact Src.ofNil w hk cap
 |some a=>exact Src.ofSlice w hk a 0 cap [] Ξ Ξ Ξ
theorem A5{p s N Y:o5}{k O g m:Nat}{x:x4}{f:List x4}{K:x4->x5->Prop}(B:P.underlying t=σ (.slice e))(C:P.underlying p=σ (.slice Y))(hi:aR P e k O z)(Z:z.cells.size=k)(Q:b0 w g N k v n xs)(J:cc w k x m f)(h1:∀u∈f,u.oneCell'=v2)(aa:(n+m)*O<=140737488355328)(R:n+m<=maxLen)(h:∀E F I G,(F=g/\G=N/\(v=E\/g<w.heap.size/\v≠ .slice ν 0 0)\/F=w.heap.size/\G=e)->b0 I F G k E (n+m) (xs++f)->af (λr=>r=g/\v≠ .slice ν 0 0) w I->K E I):
  aF P (Z9 #[t,p] s #[v,x]) w K:=by
 obtain⟨i,hi,rfl,rfl,ab⟩:=hi;have ac:=Q.sl;obtain⟨a,H⟩:=Q;have q:=J.1;have grow:∀(base:Option Addr)(cap:Nat),v= .slice base n cap->cap<n+m->0<m->(Y1.firstCells i.size n (.slice base n cap)).run P w.drew= .ok xs.toArray w.drew->aF P (Z9 #[t,p] s #[v,x]) w K:=by
  rintro base cap rfl S hm ad;have y:=run_append_grow_src w t p s e i z B hi ab base n cap xs ad x m f (J.src C h1 hm) S (by simp only[maxLen]at R;omega) (growslice_fits S aa);have ae:n+m<=grownCap w (n+m) cap e:=grownCap_ge w _ _ _;have L:=grownCap_le_maxLen w (n+m) cap e R;have ag:Ext w (w.drew.alloc (.cells ((xs++f).toArray++Y1.zeroCells z.cells (grownCap w (n+m) cap e-(n+m))) e)):=(sG w _).F (qO _ _);refine .of y ((qN w _ (Nat.le_succ _)).F (qP _ _)) (h _ w.heap.size _ _ (.inr ⟨rfl,rfl⟩) ⟨by simp[a,q,U6],.inr ⟨_,((xs++f).toArray++Y1.zeroCells z.cells (grownCap w (n+m) cap e-(n+m))).toList,rfl,?_,ae,L,?_,?_⟩⟩ (ag.V _))
  .show _=_;rw[Array.toArray_toList];exact heap_alloc_new w.drew _
  .simp[a,q,size_zeroCells,Z,<-U6];congr 1;omega
  .rw[Array.toList_append,List.toList_toArray,U6,<-a,<-q,<-o9];exact List.take_left
 rcases Q8 m with rfl|hm
 .have ah:=Z5 (by simpa using q);subst ah;have ai:=J.KI C;have T:∀base cap,v= .slice base n cap->n<=cap->aF P (Z9 #[t,p] s #[v,x]) w K:=by
   rintro base cap rfl L;refine .of (run_append_nothing w t p s e i B hi base n cap L x ai) (cO.refl _) (h _ g _ _ (.inl ⟨rfl,rfl,.inl rfl⟩) ?_ (af.refl _ _));rw[Nat.add_zero,U2];exact⟨a,H⟩
  obtain⟨rfl,rfl⟩|⟨cap,cs,rfl,_,U,_⟩:=H
  .exact T _ _ rfl (o4 _)
  .exact T _ _ rfl U
 .obtain⟨rfl,rfl⟩|⟨cap,cs,rfl,A,U,aj,W,ak⟩:=H
  .have al:=Z5 (by simpa using a);subst al;exact grow ν 0 rfl Ω hm (run_firstCells_none w.drew i.size 0 0 0)
  .by_cases M:n+m<=cap
   .have am:n*i.size+f.length<=cs.length:=by rw[q,W,<-U6];exact X4 _ M
    have y:=run_append_room_src w t p s e i B hi g 0 n cap x m f (J.src C h1 hm) M
     (λj au=>by rw[A.cell (x8 (show 0+n*i.size+j<cs.length by omega))];rfl) (λj _=>A.frozen _ _)
    obtain⟨an,X⟩:=oW f cs (n*i.size) w A;rw[X6]at y;refine .of y (X.cB A) (h _ g _ _ (.inl ⟨rfl,rfl,.inr ⟨A.lt,Ξ⟩⟩) ⟨by simp[a,q,U6],.inr ⟨cap,_,rfl,an,M,aj,by rw[nf,W],?_⟩⟩ (X.V.Y λr _ h=>⟨h,Ξ⟩));rw[nO am,ak,U6,<-a,<-q,<-o9];exact List.take_left
   .refine grow _ cap rfl Ω hm (run_firstCells_some w.drew i.size n _ n cap xs a λj u hu=>?_);rw[T9];obtain⟨_,b,o,base,av,he,_,_,ao,y⟩:=ac;cases he;have ap:0<n:=by
     rcases Q8 n with rfl|aq
     .simp at a;subst a;simp at hu
     .exact aq
    have:=ao ap;cases this;simpa using y j u hu
theorem oX{p y A:o5}{k q g m:Nat}{x:x4}{j:List x4}{K:x4->x5->Prop}(B:P.underlying t=σ (.slice e))(C:P.underlying p=σ (.slice A))(hi:aR P e k q z)(E:z.cells.size=k)(F:b0 w g e k v n xs)(J:cc w k x m j)(h1:∀u∈j,u.oneCell'=v2)(G:(n+m)*q<=140737488355328)(H:n+m<=maxLen)(h:∀f a I,(a=g\/w.heap.size<=a)->b0 I a e k f (n+m) (xs++j)->af (λr=>r=g) w I->K f I):
  aF P (Z9 #[t,p] y #[v,x]) w K:=
 A5 B C hi E F J h1 G H λf a I M s hm L=>by
  refine h f a I (s.imp And.left λh=>Nat.le_of_eq h.1.symm) ?_ (L.Y λr _ h=>h.1);obtain⟨_,rfl,_⟩|⟨_,rfl⟩:=s<;>exact hm
theorem A6{f q s:o5}{L g o iW y:Nat}{x:x4}{base:Option Addr}{C:o5}{K:x4->x5->Prop}(E:P.underlying f=σ (.slice e))(hi:aR P e 1 L z)(a:ag w g C cs)(M:0<iW->base=σ ⟨g,o,ν⟩)(X:o+iW<=cs.length)(J:cc w 1 x n xs)(h1:∀u∈xs,u.oneCell'=v2)(h:∀I,af (λr=>r=g) w I->I.heap.size=w.heap.size->ag I g C (over cs o (xs.take iW))->K (Δ (min n iW:Nat)) I):
  aF P (Y1.copy_ #[f,q] s #[.slice base iW y,x]) w K:=by
 obtain⟨A,b,o',N,cap,rfl,_,_,O,Q⟩:=J;simp only[T0]at A;have F:(P.info? e).map (·.size)=σ 1:=hi.size;by_cases p:Nat.min n iW=0
 .have he:=Z5 (by rw[o8,A];rw[Nat.min_comm];exact p);rw[he]at h;refine .of (run_copy_none w f q s e base N iW y n cap E F p) (cO.refl _) ?_;have G:min n iW=0:=p;rw[G]at h;exact h w (af.refl _ _) rfl a
 .have G:min n iW≠0:=p;have R:=O Ω;have S:=M Ω;subst R;subst S;have H:(xs.take iW).length=min n iW:=by rw[o8,A,Nat.min_comm]
  obtain⟨T,B⟩:=oW (xs.take iW) cs o w a;have U:=run_copy_cells w f q s e g o iW y ⟨b,o',ν⟩ n cap (xs.take iW) E F H
   (λj u hu=>by
    rw[T9];have W:=(x6.1 hu).1;rw[Y6 Ω]at hu;exact Q j u hu)
   (λj W=>by rw[a.cell (x8 (show o+j<cs.length by omega))];rfl) (λj _=>a.frozen _ _) (λu hu=>h1 u (T1 hu))
  refine .of U (B.cB a) ?_;rw[H];exact h _ B.V B.size T
theorem al.Y{f:Q6}{K e:x4->x5->Prop}(h:al P f args w K)(j:∀v I,cO w I->K v I->e v I):al P f args w e:=by
 cases h with
 |code h1 a=>exact .code h1 (a.Y λ_ I ⟨v,h1,p,a⟩=>⟨v,h1,p,j v I p a⟩)
 |W v I h1 a q=>exact .W v I h1 a (j v I a q)
theorem gM.Y{f:Q6}{K e:x4->x5->Prop}(h:gM P f args w K)(j:∀v I,K v I->e v I):gM P f args w e:=by
 cases h with
 |code h1 a=>exact .code h1 (a.Y λ_ I ⟨v,h1,a⟩=>⟨v,h1,j v I a⟩)
 |W v I h1 p=>exact .W v I h1 (j v I p)
end
end Go.Vc
namespace Go.Proofs.YtnhkbjhpbbobaaaGreatDoor
open Go Go.Vc Go.RowKit Go.Proofs Go.Proofs.Tryz
set_option maxRecDepth 100000
theorem av.u:v8.underlying av=σ (.int .i64):=Ψ
theorem av.i:aR v8 av 1 8 (Δ 0):=aR.of Ψ
theorem ai.u:v8.underlying ai=σ (.int .i64):=Ψ
theorem ai.i:aR v8 ai 1 8 (Δ 0):=aR.of Ψ
theorem dN.i:aR v8 dN 1 1 (.bool v6):=aR.of Ψ
theorem cN.u:v8.underlying cN=σ (.int .u8):=Ψ
theorem cN.i:aR v8 cN 1 1 (.int .u8 0):=aR.of Ψ
theorem da.u:v8.underlying da=σ .string:=Ψ
theorem da.i:aR v8 da 1 16 (.string ⟨#[]⟩):=aR.of Ψ
theorem cT.u:v8.underlying cT=σ (.slice cN):=Ψ
theorem oO.u:v8.underlying oO=σ (.slice db):=Ψ
theorem eL.u:v8.underlying eL=σ (.pointer cV):=Ψ
theorem aq.u:v8.underlying aq=σ (.slice ai):=Ψ
theorem aq.i:aR v8 aq 1 24 (.slice ν 0 0):=aR.of Ψ
theorem ci.u:v8.underlying ci=σ (.slice aq):=Ψ
theorem ci.i:aR v8 ci 1 24 (.slice ν 0 0):=aR.of Ψ
theorem jp.u:v8.underlying jp=σ (.slice dN):=Ψ
theorem jp.i:aR v8 jp 1 24 (.slice ν 0 0):=aR.of Ψ
theorem cZ.u:v8.underlying cZ=σ (.slice aw):=Ψ
theorem cZ.i:aR v8 cZ 1 24 (.slice ν 0 0):=aR.of Ψ
theorem du.u:v8.underlying du=σ (.slice c0):=Ψ
theorem du.i:aR v8 du 1 24 (.slice ν 0 0):=aR.of Ψ
theorem oP.u:v8.underlying oP=σ (.slice q7):=Ψ
theorem oP.i:aR v8 oP 1 24 (.slice ν 0 0):=aR.of Ψ
theorem aI.p:bK v8 aI [(0,1),(1,1),(2,1),(3,1),(4,1),(5,1),(6,1),(7,1)]:=bK.of Ψ
theorem aI.i:aR v8 aI 8 160 (.agg #[(Δ 0),(.slice ν 0 0),(Δ 0),(.slice ν 0 0),(.slice ν 0 0),(.slice ν 0 0),(.slice ν 0 0),(.slice ν 0 0)]):=aR.of Ψ
theorem kN.i:aR v8 kN 1 8 (Δ 0):=aR.of Ψ
theorem aw.u:v8.underlying aw=σ (.slice av):=Ψ
theorem aw.i:aR v8 aw 1 24 (.slice ν 0 0):=aR.of Ψ
theorem fK.u:v8.underlying fK=σ (.int .u64):=Ψ
theorem fK.i:aR v8 fK 1 8 (.int .u64 0):=aR.of Ψ
theorem b5.p:bK v8 b5 [(0,1),(1,1)]:=bK.of Ψ
theorem b5.i:aR v8 b5 2 16 (.agg #[(.int .u64 0),(Δ 0)]):=aR.of Ψ
theorem db.p:bK v8 db [(0,1),(1,1),(2,1),(3,1),(4,1)]:=bK.of Ψ
theorem db.i:aR v8 db 5 40 (.agg #[(.int .u8 0),(Δ 0),(Δ 0),(Δ 0),(Δ 0)]):=aR.of Ψ
theorem a7.p:bK v8 a7 [(0,1),(1,1),(2,1)]:=bK.of Ψ
theorem a7.i:aR v8 a7 3 72 (.agg #[(.slice ν 0 0),(.slice ν 0 0),(.slice ν 0 0)]):=aR.of Ψ
theorem c0.p:bK v8 c0 [(0,3),(3,1)]:=bK.of Ψ
theorem c0.i:aR v8 c0 4 80 (.agg #[(.slice ν 0 0),(.slice ν 0 0),(.slice ν 0 0),(.bool v6)]):=aR.of Ψ
theorem nL.u:v8.underlying nL=σ (.pointer gf):=Ψ
theorem q4.u:v8.underlying q4=σ (.pointer gB):=Ψ
theorem gb.u:v8.underlying gb=σ (.slice gd):=Ψ
theorem gb.i:aR v8 gb 1 24 (.slice ν 0 0):=aR.of Ψ
theorem cV.p:bK v8 cV [(0,1),(1,1),(2,1),(3,1),(4,1)]:=bK.of Ψ
theorem p1.i:aR v8 p1 1 8 .nilFunc:=aR.of Ψ
theorem bH.p:bK v8 bH [(0,1)]:=bK.of Ψ
theorem bH.i:aR v8 bH 1 24 (.agg #[(.slice ν 0 0)]):=aR.of Ψ
theorem gd.p:bK v8 gd [(0,1),(1,1),(2,1)]:=bK.of Ψ
theorem gd.i:aR v8 gd 3 56 (.agg #[(.slice ν 0 0),(.slice ν 0 0),(Δ 0)]):=aR.of Ψ
theorem q5.u:v8.underlying q5=σ (.pointer dc):=Ψ
theorem wv.u:v8.underlying wv=σ (.pointer cI):=Ψ
theorem wx.u:v8.underlying wx=σ (.pointer ej):=Ψ
theorem c3.u:v8.underlying c3=σ (.slice a7):=Ψ
theorem c3.i:aR v8 c3 1 24 (.slice ν 0 0):=aR.of Ψ
theorem dT.p:bK v8 dT [(0,1),(1,1),(2,1),(3,1),(4,1)]:=bK.of Ψ
theorem dT.i:aR v8 dT 5 88 (.agg #[(Δ 0),(.slice ν 0 0),(Δ 0),(.slice ν 0 0),(.slice ν 0 0)]):=aR.of Ψ
theorem e0.p:bK v8 e0 [(0,1),(1,1)]:=bK.of Ψ
theorem e0.i:aR v8 e0 2 16 (.agg #[(Δ 0),(.int .u64 0)]):=aR.of Ψ
theorem jq.u:v8.underlying jq=σ (.slice e0):=Ψ
theorem jq.i:aR v8 jq 1 24 (.slice ν 0 0):=aR.of Ψ
theorem oQ.u:v8.underlying oQ=σ (.slice na):=Ψ
theorem oQ.i:aR v8 oQ 1 24 (.slice ν 0 0):=aR.of Ψ
theorem ti.u:v8.underlying ti=σ (.slice gP):=Ψ
theorem gB.p:bK v8 gB [(0,1),(1,1),(2,1),(3,1)]:=bK.of Ψ
theorem gP.p:bK v8 gP [(0,1),(1,1),(2,1)]:=bK.of Ψ
theorem gP.i:aR v8 gP 3 24 (.agg #[(Δ 0),(Δ 0),(.int .u64 0)]):=aR.of Ψ
theorem na.i:aR v8 na 3 24 (.agg #[(Δ 0),(Δ 0),(.int .u64 0)]):=aR.of Ψ
theorem tj.u:v8.underlying tj=σ (.pointer iU):=Ψ
theorem e9.p:bK v8 e9 [(0,1),(1,1),(2,1),(3,1)]:=bK.of Ψ
theorem ix.u:v8.underlying ix=σ (.slice kO):=Ψ
theorem ix.i:aR v8 ix 1 24 (.slice ν 0 0):=aR.of Ψ
theorem cF.p:bK v8 cF [(0,1),(1,4),(5,1),(6,1)]:=bK.of Ψ
theorem km.u:v8.underlying km=σ (.slice cm):=Ψ
theorem jS.u:v8.underlying jS=σ (.slice eu):=Ψ
theorem jS.i:aR v8 jS 1 24 (.slice ν 0 0):=aR.of Ψ
theorem cm.p:bK v8 cm [(0,1),(1,1),(2,1),(3,1)]:=bK.of Ψ
theorem cm.i:aR v8 cm 4 80 (.agg #[(.slice ν 0 0),(.slice ν 0 0),(Δ 0),(.slice ν 0 0)]):=aR.of Ψ
theorem dO.u:v8.underlying dO=σ (.slice cM):=Ψ
theorem dO.i:aR v8 dO 1 24 (.slice ν 0 0):=aR.of Ψ
theorem cI.p:bK v8 cI [(0,1),(1,1),(2,1),(3,1)]:=bK.of Ψ
theorem e1.u:v8.underlying e1=σ (.pointer fL):=Ψ
theorem e1.i:aR v8 e1 1 8 (.pointer ν):=aR.of Ψ
theorem cM.p:bK v8 cM [(0,1),(1,1)]:=bK.of Ψ
theorem cM.i:aR v8 cM 2 32 (.agg #[(.slice ν 0 0),(.pointer ν)]):=aR.of Ψ
theorem fy.u:v8.underlying fy=σ (.slice cD):=Ψ
theorem fy.i:aR v8 fy 1 24 (.slice ν 0 0):=aR.of Ψ
theorem dD.u:v8.underlying dD=σ (.slice be):=Ψ
theorem dD.i:aR v8 dD 1 24 (.slice ν 0 0):=aR.of Ψ
theorem bI.p:bK v8 bI [(0,1),(1,1),(2,1),(3,1),(4,1),(5,1),(6,1),(7,1),(8,1)]:=bK.of Ψ
theorem ej.p:bK v8 ej [(0,1),(1,1),(2,1),(3,1)]:=bK.of Ψ
theorem cD.p:bK v8 cD [(0,1),(1,1)]:=bK.of Ψ
theorem cD.i:aR v8 cD 2 24 (.agg #[(.string ⟨#[]⟩),(Δ 0)]):=aR.of Ψ
theorem ek.u:v8.underlying ek=σ (.slice cn):=Ψ
theorem ek.i:aR v8 ek 1 24 (.slice ν 0 0):=aR.of Ψ
theorem be.p:bK v8 be [(0,1),(1,1),(2,1),(3,1)]:=bK.of Ψ
theorem be.i:aR v8 be 4 80 (.agg #[(.slice ν 0 0),(.slice ν 0 0),(Δ 0),(.slice ν 0 0)]):=aR.of Ψ
theorem l7.u:v8.underlying l7=σ (.slice iy):=Ψ
theorem l7.i:aR v8 l7 1 24 (.slice ν 0 0):=aR.of Ψ
theorem gf.p:bK v8 gf [(0,1),(1,1),(2,1),(3,1)]:=bK.of Ψ
theorem fa.u:v8.underlying fa=σ (.pointer c5):=Ψ
theorem fa.i:aR v8 fa 1 8 (.pointer ν):=aR.of Ψ
theorem iy.p:bK v8 iy [(0,1),(1,1)]:=bK.of Ψ
theorem iy.i:aR v8 iy 2 32 (.agg #[(.slice ν 0 0),(.pointer ν)]):=aR.of Ψ
theorem p2.u:v8.underlying p2=σ (.int .u64):=Ψ
theorem q6.p:bK v8 q6 [(0,1),(1,1)]:=bK.of Ψ
theorem eF.u:v8.underlying eF=σ (.slice cz):=Ψ
theorem eF.i:aR v8 eF 1 24 (.slice ν 0 0):=aR.of Ψ
theorem dc.p:bK v8 dc [(0,1),(1,1)]:=bK.of Ψ
theorem cz.p:bK v8 cz [(0,1),(1,1)]:=bK.of Ψ
theorem cz.i:aR v8 cz 2 16 (.agg #[(Δ 0),(Δ 0)]):=aR.of Ψ
theorem iU.p:bK v8 iU [(0,1),(1,1),(2,1)]:=bK.of Ψ
theorem kO.p:bK v8 kO [(0,1),(1,1)]:=bK.of Ψ
theorem kO.i:aR v8 kO 2 48 (.agg #[(.slice ν 0 0),(.slice ν 0 0)]):=aR.of Ψ
theorem eu.p:bK v8 eu [(0,1),(1,1)]:=bK.of Ψ
theorem eu.i:aR v8 eu 2 32 (.agg #[(.slice ν 0 0),(Δ 0)]):=aR.of Ψ
theorem cn.p:bK v8 cn [(0,1),(1,1)]:=bK.of Ψ
theorem cn.i:aR v8 cn 2 32 (.agg #[(.slice ν 0 0),(Δ 0)]):=aR.of Ψ
theorem gC.u:v8.underlying gC=σ (.slice c4):=Ψ
theorem c4.p:bK v8 c4 [(0,1),(1,1)]:=bK.of Ψ
theorem c4.i:aR v8 c4 2 32 (.agg #[(.slice ν 0 0),(.pointer ν)]):=aR.of Ψ
theorem jT.u:v8.underlying jT=σ (.map cJ av):=Ψ
theorem fL.p:bK v8 fL [(0,1),(1,1),(2,1),(3,1)]:=bK.of Ψ
theorem p3.u:v8.underlying p3=σ (.slice gD):=Ψ
theorem gD.p:bK v8 gD [(0,1),(1,1)]:=bK.of Ψ
theorem gD.i:aR v8 gD 2 32 (.agg #[(.slice ν 0 0),(Δ 0)]):=aR.of Ψ
theorem c5.p:bK v8 c5 [(0,1),(1,1),(2,1)]:=bK.of Ψ
theorem wy.u:v8.underlying wy=σ (.array 64 cN):=Ψ
theorem ie.u:v8.underlying ie=σ (.map da ai):=Ψ
theorem gg.u:v8.underlying gg=σ (.int .i8):=Ψ
theorem gg.i:aR v8 gg 1 1 (.int .i8 0):=aR.of Ψ
theorem cJ.u:v8.underlying cJ=σ (.array 6 gg):=Ψ
theorem cJ.i:aR v8 cJ 6 6 (.agg #[(.int .i8 0),(.int .i8 0),(.int .i8 0),(.int .i8 0),(.int .i8 0),(.int .i8 0)]):=aR.of Ψ
theorem l8.u:v8.underlying l8=σ (.slice gg):=Ψ
theorem kP.u:v8.underlying kP=σ (.slice cJ):=Ψ
theorem kP.i:aR v8 kP 1 24 (.slice ν 0 0):=aR.of Ψ
theorem p4.u:v8.underlying p4=σ (.int .u32):=Ψ
theorem nb.u:v8.underlying nb=σ (.map av ai):=Ψ
theorem nM.u:v8.underlying nM=σ (.array 24 cN):=Ψ
theorem nM.i:aR v8 nM 24 24 (.agg #[(.int .u8 0),(.int .u8 0),(.int .u8 0),(.int .u8 0),(.int .u8 0),(.int .u8 0),(.int .u8 0),(.int .u8 0),(.int .u8 0),(.int .u8 0),(.int .u8 0),(.int .u8 0),(.int .u8 0),(.int .u8 0),(.int .u8 0),(.int .u8 0),(.int .u8 0),(.int .u8 0),(.int .u8 0),(.int .u8 0),(.int .u8 0),(.int .u8 0),(.int .u8 0),(.int .u8 0)]):=aR.of Ψ
theorem wz.u:v8.underlying wz=σ (.array 20 fK):=Ψ
theorem q7.i:aR v8 q7 3 56 (.agg #[(Δ 0),(.slice ν 0 0),(.slice ν 0 0)]):=aR.of Ψ
end Go.Proofs.YtnhkbjhpbbobaaaGreatDoor
namespace Go.Vc
open Go Go.RowKit
def bX:x4->Int
 | .int _ i=>i
 |_=>0
theorem m1{x:Int}(h1: -9223372036854775808<=x)(a:x<9223372036854775808):W5.wrap x=x:=by
 simp only[j0.wrap,j0.bits,j0.signed];simp;omega
theorem wrap_u8{x:Int}(h1:0<=x)(a:x<256):j0.u8.wrap x=x:=by
 simp only[j0.wrap,j0.bits,j0.signed];simp;omega
theorem KJ{x:Int}(h1: -128<=x)(a:x<128):j0.i8.wrap x=x:=by
 simp only[j0.wrap,j0.bits,j0.signed];simp;omega
theorem m2{x:Int}(h1:0<=x)(a:x<18446744073709551616):T7.wrap x=x:=by
 simp only[j0.wrap,j0.bits,j0.signed];simp;omega
abbrev ints(k:j0)(l:Λ):List x4:=l.map (U3 k)
theorem rb(k:j0)(l:Λ):∀u∈ints k l,u.oneCell'=v2:=by
 intro u hu;obtain⟨x,_,rfl⟩:=j5.1 hu;rfl
theorem mc{i:Nat}{x:Int}(h:l[i]?=σ x):(ints k l)[i]?=σ (.int k x):=by simp[ints,h]
theorem wD{α:Type}{a b:List α}{i:Nat}{x y:α}(h:a.take i=b.take i)(e:a[i]?=σ x)(f:b[i]?=σ y)(j:x=y):a.take (i+1)=b.take (i+1):=by
 rw[r9,r9,h,e,f,j]
theorem c7{ax:x5->Prop}{B:(x5->Prop)->Prop}(G:x5->Prop)(h1:∀w,G w->ax w)(e:∀a:x5->Prop,(∀w,G w->a w)->B a):cC ax B:=e ax h1
theorem aZ{ax:x4->x5->Prop}{B:(x4->x5->Prop)->Prop}(G:x4->x5->Prop)(h1:∀v w,G v w->ax v w)(e:∀a:x4->x5->Prop,(∀v w,G v w->a v w)->B a):cC ax B:=e ax h1
theorem jo{ax:x4->x4->x5->Prop}{B:(x4->x4->x5->Prop)->Prop}(G:x4->x4->x5->Prop)(h1:∀u v w,G u v w->ax u v w)(e:∀a:x4->x4->x5->Prop,(∀u v w,G u v w->a u v w)->B a):cC ax B:=e ax h1
theorem al.calls{P:V3}{f:Q6}{K:x4->x5->Prop}(h:al P f args w K)(a:Enters P f):Calls P f args.toArray w λe I=>∃v,e= .returned v/\cO w I/\K v I:=by
 cases h with
 |code _ h=>exact h
 |W v I h1=>rw[a]at h1;cases h1
theorem KK(f:Ext w I)(a:cO w I):Below w.heap.size w I:=
 ⟨a.os,a.tape.1,a.output,f.size,λk hk=>by
  have e:=Array.getElem?_eq_getElem hk;rw[e];cases J:fH w.heap[k]with
  |true=>exact f.aY k _ e J
  |false=>exact a.aY k _ e J⟩
theorem wE{x:Addr}(h:w.cell? x=σ v):x=⟨x.block,x.off,ν⟩:=by
 obtain⟨b,o,s⟩:=x;cases s with
 |none=>rfl
 |some s=>
  unfold x5.cell? at h;split at h<;>simp at h
theorem KL{a:Option Addr}{len cap:Nat}{e:Λ}(h:(a=ν/\len=0/\cap=0/\e=[])\/
   ∃x,a=σ x/\len<=cap/\cap<=maxLen/\e.length=cap/\(∀i,i<e.length->w.cell? (x.add i)=σ (.int k (e.getD i 0)))/\∀n∈e,(Lit.int k n).wf=v2):
  cc w 1 (.slice a len cap) len (ints k (e.take len))/\∀n∈e.take len,k.min<=n/\n<=k.max:=by
 rcases h with⟨rfl,rfl,rfl,rfl⟩|⟨x,rfl,h1,r,s,f,y⟩
 .exact⟨cc.nil _ _,Ξ⟩
 .refine⟨⟨by simp[s,h1],x.block,x.off,σ x,cap,rfl,h1,r,λC=>?_,λj v p=>?_⟩,λn z=>?_⟩
  .have:=f 0 Ω;exact congrArg σ (wE this)
  .have A:=(x6.1 p).1;rw[r8,o8]at A;have B:x=⟨x.block,x.off,ν⟩:=wE (v:=.int k (e.getD 0 0)) (f 0 Ω);have q:=f j Ω;rw[B,T9]at q;rw[q,<-p,ints,u4,Y6 Ω,u5,x8 Ω];rfl
  .have:=y n (T1 z);simpa[Lit.wf]using this
def aN(k:j0)(w:x5)(v:x4)(l:Λ):Prop:=cc w 1 v l.length (ints k l)
def aA(k:j0)(e:o5)(w:x5)(g:Nat)(v:x4)(l:Λ):Prop:=b0 w g e 1 v l.length (ints k l)
theorem aN.W(h:aN k w v l)(a:Ext w I):aN k I v l:=cc.W h a
theorem aA.W{g:Nat}(h:aA k e w g v l)(a:Ext w I):aA k e I g v l:=b0.W h a
theorem aA.V{g:Nat}(h:aA k e w g v l)(a:af S w I)(f:g<w.heap.size->¬S g):aA k e I g v l:=b0.V h a f
theorem aA.ls{g:Nat}(h:aA k e w g v l):aN k w v l:=b0.sl h
theorem aN.of(h:cc w 1 v n (ints k l)):aN k w v l:=by
 have:l.length=n:=by simpa using h.1
 unfold aN;rw[this];exact h
theorem aA.of{g:Nat}(h:b0 w g e 1 v n (ints k l)):aA k e w g v l:=by
 have:l.length=n:=by simpa using h.1
 unfold aA;rw[this];exact h
theorem aN.le(h:aN k w v l):l.length<=9223372036854775807:=by
 have:=cc.le h;simpa[maxLen]using this
theorem aN.cells(h:aN k w v l):v.cells= #[v]/\v.oneCell'=v2:=by
 obtain⟨_,_,_,_,_,rfl,_⟩:=h;exact⟨rfl,rfl⟩
theorem aA.nil(k:j0)(e:o5)(w:x5)(g:Nat):aA k e w g (.slice ν 0 0) []:=b0.nil w g e 1
section
variable{P:V3}{w:x5}
theorem a1{a:o5}(f:P.underlying t=σ (.slice e))(h:aN k w v l):
  ab P (V0 #[t] a #[v]) w K=K (Δ l.length):=by
 obtain⟨_,_,_,_,_,rfl,_⟩:=h;exact iV f
theorem bk{b:Nat}{i:Nat}{x:Int}(j:P.underlying t=σ (.slice e))(hi:aR P e 1 b z)(h1:kQ P e=v2)(h:aN k w v l)(a:l[i]?=σ x):ab P (c9 t v (.int f (i:Int))) w (λp=>ab P (u6 e p) w K)=K (.int k x):=by
 have q:=(x6.1 a).1;obtain⟨_,_,_,_,_,rfl,_,_,r,s⟩:=h;rw[eS j hi q r,T0,aE h1 (s i _ (mc a))]
theorem fM{a:j0}{b:Nat}{i:Nat}{x:Int}(f:y=(i:Int))(j:P.underlying t=σ (.slice e))(hi:aR P e 1 b z)(h1:kQ P e=v2)(h:aN k w v l)(q:l[i]?=σ x):ab P (c9 t v (.int a y)) w (λp=>ab P (u6 e p) w K)=K (.int k x):=by
 subst f;exact bk j hi h1 h q
theorem kp{p:o5}{b g:Nat}{x:x4}{m:Λ}{K:x4->x5->Prop}(j:P.underlying t=σ (.slice e))(hi:aR P e 1 b z)(q:z.cells.size=1)(h:aA k e w g v l)(s:aN k w x m)(y:(l.length+m.length)*b<=140737488355328)(A:l.length+m.length<=9223372036854775807)(B:∀f a I,(a=g\/w.heap.size<=a)->aA k e I a f (l++m)->af (λr=>r=g) w I->K f I):aF P (Z9 #[t,t] p #[v,x]) w K:=
 oX j j hi q h s (rb _ _) y (by simpa[maxLen]using A) λf a I h1 C E=>B f a I h1 (aA.of (by rw[ints,Z3];exact C)) E
theorem eT{b:Nat}{x:Int}{K:x4->x5->Prop}(j:P.underlying t=σ (.slice e))(hi:aR P e 1 b z)(s:z.cells.size=1)(h:∀v g I,g=w.heap.size->Ext w I->aA k e I g v [x]->K v I):aF P (X2 t 1 #[(0,.int k x)]) w K:=
 kS j hi Ω (cs:=#[.int k x]) (by
   have J:∀(a:Array x4),a.size=1->a.setIfInBounds 0 (.int k x)= #[.int k x]:=λa f=>by
    apply Array.ext
    .simp[f]
    .intro i h1 y;have:i=0:=by simp[f]at h1;exact h1
     subst this;simp
   simp only[Instr.fill,x4.cells,List.zipIdx];simp;exact J _ Ξ) λg I p q r=>h _ g I p q (aA.of (b0.full r rfl (by simp[maxLen])))
theorem al.free{f:Q6}{K:x4->x5->Prop}(h:al P f args w K):gM P f args w λv I=>cO w I/\K v I:=by
 cases h with
 |code h1 a=>exact .code h1 (a.Y λ_ I ⟨v,h1,e,a⟩=>⟨v,h1,e,a⟩)
 |W v I h1 a j=>exact .W v I h1 ⟨a,j⟩
theorem bY{a:Addr}:ab P (bT (.pointer (σ a))) w K=K (.pointer (σ a)):=ab.of λ_ _=>by
 simp[bT,sI,execOp]
theorem aL{u:o5}{pl:List (Nat×Nat)}{b a z:Nat}{K:x4->x4->Prop}(ac:bK P t pl)(i:Nat)(j:ag w b e cs)(f:cs[(pl[i]?.getD (0,0)).1]?=σ v)(h:pl[i]?=σ (a,z+1):=by rfl)(p:kQ P u=v2:=by kernel_rfl):
  ab P (u7 t (Γ b) i) w (λx=>ab P (u6 u x) w (K x))=K (.pointer (σ ⟨b,0+a,ν⟩)) v:=by
 rw[h]at f;rw[aU ac h,aE p (j.cell (by rw[X6];exact f))]
theorem aK{u:o5}{pl:List (Nat×Nat)}{b a z:Nat}{K:x4->x4->x4->Prop}(ac:bK P t pl)(i:Nat)(f:ag w b e cs)(h:cs[(pl[i]?.getD (0,0)).1]?=σ v)(j:pl[i]?=σ (a,z+1):=by rfl)(p:kQ P u=v2:=by kernel_rfl):
  ab P (bT (Γ b)) w (λy=>ab P (u7 t y i) w (λx=>ab P (u6 u x) w (K y x)))=K (Γ b) (.pointer (σ ⟨b,0+a,ν⟩)) v:=by
 rw[bY,aL ac i f h j p]
theorem A7{a:j0}{k:Nat}{K:x4->x5->Prop}(q:P.underlying t=σ (.slice e))(hi:aR P e k j z)(A:n*j<=281474976710656)(B:n<=9223372036854775807)(h:∀g I,g=w.heap.size->Ext w I->ag I g e (dU z.cells (n*k))->K (.slice (σ ⟨g,0,ν⟩) n n) I):aF P (Instr.makeSlice t (.int a (n:Int)) (.int f (n:Int))) w K:=by
 obtain⟨i,hi,rfl,rfl,r⟩:=hi;have s:(i.bytes:Int)*(n:Int)<=281474976710656:=by
  rw[Int.mul_comm];have h:((n*i.bytes:Nat):Int)<=281474976710656:=Ω
  rwa [Int.natCast_mul]at h
 have p:=run_make w t e i z q hi r a f n n Ω (S0 _) s Ω;have hm:madeCells z.cells ((n:Int).toNat*i.size)=(dU z.cells (n*i.size)).toArray:=by rw[dU,Array.toArray_toList];rfl
 rw[hm]at p;obtain⟨h1,x,y⟩:=tq w (dU z.cells (n*i.size)) e;exact .of p y (h _ _ rfl x h1)
theorem KM(v:x4)(n:Nat):dU #[v] n=o6 n v:=by
 apply List.ext_getElem
 .simp[dU]
 .intro i h1 a;simp[dU,Nat.mod_one]
theorem kq{j:j0}{a:Nat}{K:x4->x5->Prop}(p:P.underlying t=σ (.slice e))(hi:aR P e 1 a (.int k 0))(q:n*a<=281474976710656)(r:n<=9223372036854775807)(h:∀g I,g=w.heap.size->Ext w I->ag I g e (ints k (o6 n 0))->K (.slice (σ ⟨g,0,ν⟩) n n) I):aF P (Instr.makeSlice t (.int f (n:Int)) (.int j (n:Int))) w K:=
 A7 p hi q r λg I s x y=>h g I s x (by
  have e:dU (U3 k 0).cells (n*1)=ints k (o6 n 0):=by rw[T0];show dU #[_] n=_;rw[KM];simp[ints]
  rw[<-e];exact y)
theorem fi{pl:List (Nat×Nat)}{b o k a:Nat}(hu:bK P t pl)(hi:aR P t k a z)(e:cs.length=k)(h:w.rangeAt b o cs):ab P (do loadVar t (<-asAddr (.pointer (σ ⟨b,o,ν⟩)))) w K=K (.agg cs.toArray):=ab.of λI f=>by
 obtain⟨j,hu,_⟩:=hu;have:=run_loadVar_mid I b o t cs (.struct j) (oR f h) hu rfl (by rw[hi.size,e]);simp only[asAddr,W9,V8,Result.andThen_ok,this]
theorem KN(h:vs.length=cs.length):over cs 0 vs=vs:=by
 rw[nO Ω];simp[h]
theorem b6{k f g:Nat}{K:Unit->x5->Prop}(hi:aR P t k f z)(j:vs.length=k)(x:cs.length=k)(p:∀v∈vs,v.oneCell'=v2)(q:ag w g e cs)(h:∀I,af (λr=>r=g) w I->I.heap.size=w.heap.size->ag I g e vs->K () I):aF P (l9 t (Γ g) (.agg vs.toArray)) w K:=
 A4 hi j p q Ω λI h1 s a=>h I h1 s (by rw[KN Ω]at a;exact a)
end
section
variable{P:V3}{w I aa:x5}{t:o5}{cx cy:Bool}{k:j0}{a b:Int}{A B:Prop}{x y z:x4}{K:x4->Prop}
theorem bx:ab P (Y8 (.tuple #[x,y]) 0) w K=K x:=jV rfl
theorem bz:ab P (Y8 (.tuple #[x,y]) 1) w K=K y:=jV rfl
theorem fN:ab P (Y8 (.tuple #[x,y,z]) 0) w K=K x:=jV rfl
theorem fO:ab P (Y8 (.tuple #[x,y,z]) 1) w K=K y:=jV rfl
theorem fP:ab P (Y8 (.tuple #[x,y,z]) 2) w K=K z:=jV rfl
theorem bG(h:a<b)(e:A):ab P (aO .lss t cx cy (.int k a) (.int k b)) w λv=>Split v A B:=by
 rw[aS,am];exact⟨λ_=>e,λf=>ro h f⟩
theorem cd(h:¬a<b)(e:B):ab P (aO .lss t cx cy (.int k a) (.int k b)) w λv=>Split v A B:=by
 rw[aS,am];exact⟨λf=>ro f h,λ_=>e⟩
theorem Ext.put{g:Nat}(a:Ext w I)(e:af (λr=>r=g) I aa)(h:w.heap.size<=g):Ext w aa:=a.then e λr f he=>by
 have he:r=g:=he;omega
theorem aD{α:Type}{l:List α}{i:Nat}(h:i<l.length):∃x,l[i]?=σ x:=⟨_,x8 h⟩
end
abbrev ah:=Nat->Prop
def lB(S:ah)(w:x5)(k:Nat)(v:x4)(n:Nat)(cs:List x4):Prop:=
 cs.length=n*k/\∃b o base cap,v= .slice base n cap/\n<=cap/\cap<=maxLen/\(0<n->base=σ ⟨b,o,ν⟩)/\(0<cs.length->S b)/\w.rangeAt b o cs
theorem lB.sl{S:ah}{k:Nat}(h:lB S w k v n cs):cc w k v n cs:=by
 obtain⟨h1,b,o,base,cap,a,e,f,j,_,p⟩:=h;exact⟨h1,b,o,base,cap,a,e,f,j,p⟩
theorem A8{b o:Nat}(h:w.rangeAt b o cs)(a:0<cs.length):b<w.heap.size:=by
 have:=h 0 cs[0] (x8 a);obtain⟨c,e,f,j,_⟩:=wA this;exact(b8.1 j).1
theorem lB.V{S T:ah}{k:Nat}(h:lB S w k v n cs)(p:af T w I)(q:∀r,r<w.heap.size->S r->¬T r):lB S I k v n cs:=by
 obtain⟨h1,b,o,base,cap,s,x,y,z,e,f⟩:=h;refine⟨h1,b,o,base,cap,s,x,y,z,e,?_⟩;rcases Q8 cs.length with a|a
 .intro j v A;have:=(x6.1 A).1;omega
 .exact iz p (q b (A8 f a) (e a)) f
theorem lB.Y{S T:ah}{k:Nat}(h:lB S w k v n cs)(f:∀r,r<w.heap.size->S r->T r):lB T w k v n cs:=by
 obtain⟨h1,b,o,base,cap,j,p,q,s,x,a⟩:=h;exact⟨h1,b,o,base,cap,j,p,q,s,λe=>f b (A8 a e) (x e),a⟩
class an(α:Type) where
 n:Nat
 rep:Bool->ah->ah->x5->List x4->α->Prop
 len:∀{m S R w cs a},rep m S R w cs a->cs.length=n
 one:∀{m S R w cs a},rep m S R w cs a->∀u∈cs,u.oneCell'=v2
 V:∀{m S R T w I cs a},rep m S R w cs a->af T w I->(∀r,r<w.heap.size->S r\/R r->¬T r)->rep m S R I cs a
 Y:∀{m S S' R R' w cs a},rep m S R w cs a->(∀r,r<w.heap.size->S r->S' r)->(∀r,r<w.heap.size->R r->R' r)->rep m S' R' w cs a
 iS:∀{m S R w cs a},rep m S R w cs a->rep v6 (λ_=>False) (λr=>S r\/R r) w cs a
section
variable{α β:Type}[an α][an β]{m:Bool}{S R T:ah}{w I:x5}
abbrev bq(S R:ah)(w:x5)(cs:List x4)(a:α):Prop:=an.rep v2 S R w cs a
abbrev Seen(R:ah)(w:x5)(cs:List x4)(a:α):Prop:=an.rep v6 (λ_=>False) R w cs a
abbrev fj:ah:=λ_=>True
theorem bu{a:α}(h:an.rep m S R w cs a)(e:Ext w I):an.rep m S R I cs a:=an.V h (e.V λ_=>False) λ_ _ _ h=>h
theorem ng{a:α}(h:an.rep m S R w cs a):an.rep m (λr=>S r/\r<w.heap.size) R w cs a:=an.Y h (λ_ h1 e=>⟨e,h1⟩) λ_ _ h=>h
theorem js{a:α}(h:an.rep m S R w cs a):Seen fj w cs a:=an.Y (an.iS h) (λ_ _ h=>h.elim) λ_ _ _=>trivial
theorem p6{a:α}{Q:ah}(h:an.rep m S R w cs a)(e:∀r,r<w.heap.size->S r\/R r->Q r):Seen Q w cs a:=an.Y (an.iS h) (λ_ _ h=>h.elim) e
instance:an Int where
 n:=1
 rep _ _ _ _ cs a:=cs=[Δ a]
 len h:=by subst h;rfl
 one h:=by subst h;intro u hu;simp at hu;subst hu;rfl
 V h _ _:=h
 Y h _ _:=h
 iS h:=h
instance:an Bool where
 n:=1
 rep _ _ _ _ cs a:=cs=[.bool a]
 len h:=by subst h;rfl
 one h:=by subst h;intro u hu;simp at hu;subst hu;rfl
 V h _ _:=h
 Y h _ _:=h
 iS h:=h
instance:an ByteArray where
 n:=1
 rep _ _ _ _ cs a:=cs=[.string a]
 len h:=by subst h;rfl
 one h:=by subst h;intro u hu;simp at hu;subst hu;rfl
 V h _ _:=h
 Y h _ _:=h
 iS h:=h
def nh(_:j0):Type:=Int
instance (k:j0):an (nh k) where
 n:=1
 rep _ _ _ _ cs a:=cs=[.int k a]
 len h:=by subst h;rfl
 one h:=by subst h;intro u hu;simp at hu;subst hu;rfl
 V h _ _:=h
 Y h _ _:=h
 iS h:=h
def Rd(α:Type):Type:=α
instance UD:an (Rd α) where
 n:=an.n α
 rep _ _ R w cs a:=an.rep (α:=α) v6 (λ_=>False) R w cs a
 len h:=an.len (α:=α) h
 one h:=an.one (α:=α) h
 V h e f:=an.V (α:=α) h e λr j h=>f r j (.inr (h.elim False.elim id))
 Y h _ p:=an.Y (α:=α) h (λ_ _ h=>h) p
 iS h:=an.Y (α:=α) h (λ_ _ h=>h) λ_ _ h=>.inr h
instance UE:an (α×β) where
 n:=an.n α+an.n β
 rep m S R w cs a:=∃c d A B,cs=c++d/\(∀r,A r->S r)/\(∀r,B r->S r)/\(m=v2->∀r,A r->¬B r)/\an.rep m A R w c a.1/\an.rep m B R w d a.2
 len:=by
  rintro m S R w cs a ⟨c,d,A,B,rfl,_,_,_,h1,e⟩;simp[an.len h1,an.len e]
 one:=by
  rintro m S R w cs a ⟨c,d,A,B,rfl,_,_,_,h1,e⟩ u hu;rcases j9.1 hu with hu|hu
  .exact an.one h1 u hu
  .exact an.one e u hu
 V:=by
  rintro m S R T w I cs a ⟨c,d,A,B,rfl,j,p,s,h1,e⟩ x q;exact⟨c,d,A,B,rfl,j,p,s,an.V h1 x λr f h=>q r f (h.imp (j r) id),an.V e x λr f h=>q r f (h.imp (p r) id)⟩
 Y:=by
  rintro m S S' R R' w cs a ⟨c,d,A,B,rfl,j,p,s,h1,e⟩ q y;exact⟨c,d,λr=>A r/\r<w.heap.size,λr=>B r/\r<w.heap.size,rfl,λr h=>q r h.2 (j r h.1),λr h=>q r h.2 (p r h.1),λhm r h k=>s hm r h.1 k.1,
   an.Y h1 (λr f h=>⟨h,f⟩) y,an.Y e (λr f h=>⟨h,f⟩) y⟩
 iS:=by
  rintro m S R w cs a ⟨c,d,A,B,rfl,j,p,s,h1,e⟩;exact⟨c,d,λ_=>False,λ_=>False,rfl,λ_ h=>h.elim,λ_ h=>h.elim,(λh=>by cases h),an.Y (an.iS h1) (λ_ _ h=>h) λr _ h=>h.imp (j r) id,
   an.Y (an.iS e) (λ_ _ h=>h) λr _ h=>h.imp (p r) id⟩
def nP(m:Bool)(R:ah)(F:Nat->ah)(w:x5)(vs:List (List x4))(l:List α):Prop:=
 vs.length=l.length/\∀(i:Nat)(c:List x4)(a:α),vs[i]?=σ c->l[i]?=σ a->an.rep m (F i) R w c a
structure Ba(m:Bool)(S:ah)(g:Nat)(F:Nat->ah):Prop where
 sub:∀i r,F i r->S r
 top:m=v2->∀i,¬F i g
 gQ:m=v2->∀i j r,i≠j->F i r->¬F j r
theorem nP.len{F:Nat->ah}{vs:List (List x4)}{l:List α}(h:nP m R F w vs l):∀c∈vs,c.length=an.n α:=by
 intro c a;obtain⟨i,hi,rfl⟩:=List.mem_iff_getElem.1 a;exact an.len (h.2 i _ _ (x8 hi) (x8 (h.1▸hi)))
theorem nP.one{F:Nat->ah}{vs:List (List x4)}{l:List α}(h:nP m R F w vs l):∀u∈vs.flatten,u.oneCell'=v2:=by
 intro u hu;obtain⟨c,a,hu⟩:=List.mem_flatten.1 hu;obtain⟨i,hi,rfl⟩:=List.mem_iff_getElem.1 a;exact an.one (h.2 i _ _ (x8 hi) (x8 (h.1▸hi))) u hu
theorem re{k:Nat}:∀{vs:List (List x4)},(∀c∈vs,c.length=k)->vs.flatten.length=vs.length*k
 |[],_=>Ξ
 |c::r,h=>by
  have:=re λx a=>h x (.tail _ a);simp only[List.flatten_cons,o9,this,h c (.head _),Y0,U6];omega
theorem oY{k:Nat}:∀{vs:List (List x4)},(∀c∈vs,c.length=k)->∀{i j:Nat}{c:List x4},vs[i]?=σ c->j<k->vs.flatten[i*k+j]?=c[j]?
 |fk::r,h,0,j,c,a,e=>by
  simp only[List.getElem?_cons_zero,X7]at a;subst a;rw[List.flatten_cons,Y4 (by rw[h _ (.head _)];omega)];simp
 |fk::r,h,i+1,j,c,a,e=>by
  simp only[List.getElem?_cons_succ]at a;have f:=h fk (.head _);rw[List.flatten_cons,Z7 (by rw[f,U6];omega),f,U6,show i*k+1*k+j-k=i*k+j by omega];exact oY (λx p=>h x (.tail _ p)) a e
 |[],_,i,_,c,a,_=>by simp at a
instance instList:an (List α) where
 n:=1
 rep m S R w cs l:=∃v,cs=[v]/\∃(vs:List (List x4))(g:Nat)(F:Nat->ah),Ba m S g F/\nP m R F w vs l/\lB (λr=>S r\/R r) w (an.n α) v l.length vs.flatten/\
  (m=v2->(v= .slice ν 0 0\/S g)/\∃e,b0 w g e (an.n α) v l.length vs.flatten)
 len:=by rintro m S R w cs a ⟨v,rfl,_⟩;rfl
 one:=by
  rintro m S R w cs a ⟨v,rfl,vs,g,F,_,_,⟨_,_,_,_,_,rfl,_⟩,_⟩ u hu;simp at hu;subst hu;rfl
 V:=by
  rintro m S R T w I cs a ⟨v,rfl,vs,g,F,ac,he,J,hm⟩ z q;refine⟨v,rfl,vs,g,F,ac,⟨he.1,λi c a x y=>an.V (he.2 i c a x y) z λr p h=>q r p (h.imp (ac.sub i r) id)⟩,J.V z q,λh=>?_⟩;obtain⟨h1,e,f⟩:=hm h;refine⟨h1,e,?_⟩;rcases h1 with rfl|h1
  .obtain⟨B,⟨_,s⟩|⟨_,_,s,_⟩⟩:=f
   .exact⟨B,.inl ⟨rfl,s⟩⟩
   .cases s
  .exact f.V z λp=>q g p (.inl h1)
 Y:=by
  rintro m S S' R R' w cs a ⟨v,rfl,vs,g,F,ac,he,J,hm⟩ q A;refine⟨v,rfl,vs,g,λi r=>F i r/\r<w.heap.size,⟨λi r h=>q r h.2 (ac.sub i r h.1),λh i f=>ac.top h i f.1,λh i j r C h1 f=>ac.gQ h i j r C h1.1 f.1⟩,
   ⟨he.1,λi c a x y=>an.Y (he.2 i c a x y) (λr p h=>⟨h,p⟩) A⟩,J.Y λr p h=>h.imp (q r p) (A r p),λh=>?_⟩
  obtain⟨h1,e,f⟩:=hm h;refine⟨?_,e,f⟩;obtain⟨_,⟨s,_⟩|⟨_,_,s,E,_⟩⟩:=f
  .exact .inl s
  .rcases h1 with h1|h1
   .exact .inl h1
   .exact .inr (q g E.lt h1)
 iS:=by
  rintro m S R w cs a ⟨v,rfl,vs,g,F,ac,he,J,hm⟩;exact⟨v,rfl,vs,g,λ_ _=>False,⟨λ_ _ h=>h,(λh=>by cases h),λh=>by cases h⟩,
   ⟨he.1,λi c a x y=>an.Y (an.iS (he.2 i c a x y)) (λ_ _ h=>h) λr _ h=>h.imp (ac.sub i r) id⟩,J.Y λr _ h=>.inr h,λh=>by cases h⟩
end
section
variable{P:V3}{w:x5}{α β:Type}[an α][an β]{m:Bool}{S R:ah}
theorem jt{l:List α}(h:an.rep m S R w [v] l):∃(vs:List (List x4))(g:Nat)(F:Nat->ah),Ba m S g F/\nP m R F w vs l/\lB (λr=>S r\/R r) w (an.n α) v l.length vs.flatten/\
  (m=v2->(v= .slice ν 0 0\/S g)/\∃e,b0 w g e (an.n α) v l.length vs.flatten):=by
 obtain⟨_,a,h⟩:=h;cases a;exact h
theorem iX{a:α}(h:an.rep m S R w [v] a):v.oneCell'=v2:=an.one h v (.head _)
theorem lC{l:List α}(h:an.rep m S R w [v] l):v.cells= #[v]:=by
 obtain⟨_,_,_,_,_,⟨_,_,_,_,_,rfl,_⟩,_⟩:=jt h;rfl
theorem oZ{l:List α}(h:an.rep m S R w [v] l):l.length<=9223372036854775807:=by
 obtain⟨_,_,_,_,_,h,_⟩:=jt h;have:=h.sl.le;simpa[maxLen]using this
theorem gh:an.rep m S R w [.slice ν 0 0] ([]:List α):=
 ⟨_,rfl,[],0,λ_ _=>False,⟨λ_ _ h=>h.elim,λ_ _ h=>h,λ_ _ _ _ _ h=>h.elim⟩,⟨rfl,λi c a e=>by simp at e⟩,
  ⟨Ξ,0,0,ν,0,rfl,o4 _,W0 _,λh=>ro h (Nat.lt_irrefl _),λh=>by simp at h,λj v h=>by simp at h⟩,
  λ_=>⟨.inl rfl,0,b0.nil w 0 0 _⟩⟩
theorem Bb{F:Nat->ah}{vs:List (List x4)}(h:nP m R F w vs l):vs.flatten=ints .i64 l:=by
 have:vs=l.map λx=>[U3 .i64 x]:=by
  apply List.ext_getElem
  .simp[h.1]
  .intro i h1 a;have e:i<l.length:=by simpa using a
   have:=h.2 i _ _ (x8 h1) (x8 e);rw[List.getElem_map];exact this
 subst this;clear h;induction l with
 |nil=>rfl
 |cons x l f=>simp only[T3,List.flatten_cons,f];rfl
theorem en(h:an.rep m S R w [v] l):aN .i64 w v l:=by
 obtain⟨vs,g,F,_,he,J,_⟩:=jt h;have:=J.sl;rw[Bb he]at this;exact this
theorem gR{a:o5}{l:List α}(f:P.underlying t=σ (.slice e))(h:an.rep m S R w [v] l):
  ab P (V0 #[t] a #[v]) w K=K (Δ l.length):=by
 obtain⟨_,_,_,_,_,⟨_,_,_,_,_,rfl,_⟩,_⟩:=jt h;exact iV f
theorem kT{x:j0}{i b:Nat}{l:List α}{a:α}(A:y=(i:Int))(B:P.underlying t=σ (.slice e))(hi:aR P e (an.n α) b z)(h:an.rep m S R w [v] l)(f:l[i]?=σ a)(C:∀b o cs,w.rangeAt b o cs->an.rep m S R w cs a->K (.pointer (σ ⟨b,o,ν⟩))):ab P (c9 t v (.int x y)) w K:=by
 subst A;obtain⟨vs,g,F,ac,he,⟨_,b,o,base,cap,rfl,_,_,E,_,G⟩,_⟩:=jt h;have p:=(x6.1 f).1;rw[eS B hi p E];obtain⟨c,q⟩:∃c,vs[i]?=σ c:=⟨_,x8 (by rw[he.1];exact p)⟩;have s:=he.2 i c a q f;have H:=an.len s;refine C _ _ c (λj u hu=>?_) (an.Y s (λr _ h=>ac.sub i r h) λ_ _ h=>h);have I:=(x6.1 hu).1;rw[Q3];refine G (i*an.n α+j) u ?_;rw[oY he.len q Ω];exact hu
theorem jX{q:j0}{i b:Nat}{l:List α}{a:α}(r:an.n α=1)(s:y=(i:Int))(x:P.underlying t=σ (.slice e))(hi:aR P e (an.n α) b z)(h1:kQ P e=v2)(h:an.rep m S R w [v] l)(A:l[i]?=σ a)(B:∀u,an.rep m S R w [u] a->K u):
  ab P (c9 t v (.int q y)) w λp=>ab P (u6 e p) w K:=by
 refine kT s x hi h A λb o cs C f=>?_;have j:=an.len f;rw[r]at j;obtain⟨u,rfl⟩:=V4.1 j;rw[aE h1 (by have:=C 0 u rfl;simpa using this)];exact B u f
theorem ni{pl:List (Nat×Nat)}{j:j0}{i b:Nat}{l:List α}{a:α}(hu:bK P e pl)(q:y=(i:Int))(r:P.underlying t=σ (.slice e))(hi:aR P e (an.n α) b z)(h:an.rep m S R w [v] l)(s:l[i]?=σ a)(x:∀cs,an.rep m S R w cs a->K (.agg cs.toArray)):
  ab P (c9 t v (.int j y)) w λp=>ab P (u6 e p) w K:=by
 refine kT q r hi h s λb o cs A f=>?_;rw[bC hu hi (an.len f) A];exact x cs f
theorem o0{g:Nat}{k:Nat}(h:b0 w g e k v n xs)(f:v= .slice ν 0 0\/S g):lB S w k v n xs:=by
 obtain⟨h1,⟨rfl,rfl⟩|⟨cap,cs,rfl,p,q,r,x,s⟩⟩:=h
 .have:xs=[]:=Z5 (by simpa using h1);subst this;exact⟨Ξ,0,0,ν,0,rfl,o4 _,W0 _,λh=>ro h (Nat.lt_irrefl _),λh=>by simp at h,λj v h=>by simp at h⟩
 .refine⟨h1,g,0,_,cap,rfl,q,r,λ_=>rfl,λ_=>f.resolve_left Ξ,λj v a=>?_⟩;rw[X6];have y:=(x6.1 a).1;rw[<-s,Y6 Ω]at a;exact p.cell a
open Classical in
theorem Bc{U Y Z:o5}{b:Nat}{x:x4}{us:List (List x4)}{l l':List α}{G:Nat->ah}{K:x4->x5->Prop}(aa:P.underlying t=σ (.slice e))(ab:P.underlying U=σ (.slice Y))(hi:aR P e (an.n α) b z)(ad:z.cells.size=an.n α)(h:bq S R w [v] l)(ae:cc w (an.n α) x l'.length us.flatten)(L:nP v2 R G w us l')(ag:∀i j r,i≠j->G i r->¬G j r)(C:∀r,r<w.heap.size->S r->(∀i,¬G i r)/\¬R r)(ai:(l.length+l'.length)*b<=140737488355328)(aj:l.length+l'.length<=9223372036854775807)(ak:∀p I,bq (λr=>S r\/(∃i,G i r)\/w.heap.size<=r) R I [p] (l++l')->af S w I->K p I):aF P (Z9 #[t,U] Z #[v,x]) w K:=by
 obtain⟨vs,g,F,ac,he,J,hm⟩:=jt h;obtain⟨M,aq,W⟩:=hm rfl;refine A5 aa ab hi ad W ae L.one ai (by simpa[maxLen]using aj) ?_;intro p E I al am N O;have Q:∀r,r=g/\v≠ .slice ν 0 0->S r:=λr ⟨h1,f⟩=>h1▸M.resolve_left f;have ao:=W;have T:(p= .slice ν 0 0)\/(E=g/\S g/\g<w.heap.size)\/E=w.heap.size:=by
  rcases am with⟨h1,_,f|f⟩|⟨h1,_⟩
  .rcases M with s|s
   .exact .inl (f▸s)
   .obtain⟨_,⟨y,_⟩|⟨_,_,_,y,_⟩⟩:=ao
    .exact .inl (f▸y)
    .exact .inr (.inl ⟨h1,s,y.lt⟩)
  .exact .inr (.inl ⟨h1,M.resolve_left f.2,f.1⟩)
  .exact .inr (.inr h1)
 refine ak p I ⟨p,rfl,vs++us,if p= .slice ν 0 0 then w.heap.size else E,λi r=>if i<l.length then F i r/\r<w.heap.size else G (i-l.length) r/\r<w.heap.size,⟨λi r h=>?_,λ_ i h=>?_,λ_ i j r ap h1 f=>?_⟩,⟨by simp[he.1,L.1],λi c a hi H=>?_⟩,?_,λ_=>⟨?_,al,?_⟩⟩ (O.Y λr _ h=>Q r h)
 .split at h
  .exact .inl (ac.sub i r h.1)
  .exact .inr (.inl ⟨_,h.1⟩)
 .have A:(if p= .slice ν 0 0 then w.heap.size else E)<w.heap.size:=by split at h<;>exact h.2
  split at A
  .omega
  .rename_i q;rw[rc q]at h;rcases T with h1|⟨rfl,f,s⟩|h1
   .exact q h1
   .split at h
    .exact ac.top rfl i h.1
    .exact (C _ s f).1 _ h.1
   .omega
 .split at h1<;>split at f
  .exact ac.gQ rfl i j r ap h1.1 f.1
  .exact (C r h1.2 (ac.sub i r h1.1)).1 _ f.1
  .exact (C r h1.2 (ac.sub j r f.1)).1 _ h1.1
  .exact ag (i-l.length) (j-l.length) r Ω h1.1 f.1
 .have X:∀r,r<w.heap.size->R r->¬(r=g/\v≠ .slice ν 0 0):=λr B h1 f=>(C r B (Q r f)).2 h1;by_cases A:i<l.length
  .rw[Y4 (by rw[he.1];exact A)]at hi;rw[Y4 A]at H;simp only[ms A];refine an.V (ng (he.2 i c a hi H)) O λr B h1 f=>?_;rcases h1 with h1|h1
   .exact ac.top rfl i (f.1▸h1.1)
   .exact X r B h1 f
  .rw[Z7 (by rw[he.1];omega),he.1]at hi;rw[Z7 Ω]at H;simp only[rc A];refine an.V (ng (L.2 _ c a hi H)) O λr B h1 f=>?_;rcases h1 with h1|h1
   .exact (C r B (Q r f)).1 _ h1.1
   .exact X r B h1 f
 .rw[o9,List.flatten_append];refine o0 N ?_;rcases T with h1|⟨rfl,f,_⟩|rfl
  .exact .inl h1
  .exact .inr (.inl (.inl f))
  .exact .inr (.inl (.inr (.inr (o4 _))))
 .rcases T with h1|⟨rfl,f,_⟩|rfl
  .exact .inl h1
  .by_cases q:p= .slice ν 0 0
   .exact .inl q
   .rw[rc q];exact .inr (.inl f)
  .split
   .exact .inr (.inr (.inr (o4 _)))
   .exact .inr (.inr (.inr (o4 _)))
 .rw[o9,List.flatten_append];by_cases q:p= .slice ν 0 0
  .subst q;obtain⟨s,⟨_,y⟩|⟨_,_,y,_⟩⟩:=N
   .exact⟨s,.inl ⟨rfl,y⟩⟩
   .cases y
  .rw[rc q];exact N
theorem nQ{F:o5}{b:Nat}{x:x4}{l:List α}{a:α}{A:ah}{K:x4->x5->Prop}(B:P.underlying t=σ (.slice e))(hi:aR P e (an.n α) b z)(H:z.cells.size=an.n α)(h:bq S R w [v] l)(L:cc w (an.n α) x 1 cs)(M:bq A R w cs a)(C:∀r,r<w.heap.size->S r->¬(A r\/R r))(f:(l.length+1)*b<=140737488355328)(N:l.length+1<=9223372036854775807)(O:∀p I,bq (λr=>S r\/A r\/w.heap.size<=r) R I [p] (l++[a])->af S w I->K p I):aF P (Z9 #[t,t] F #[v,x]) w K:=by
 refine Bc (us:=[cs]) (G:=λi r=>i=0/\A r) B B hi H h (by simpa using L) ⟨rfl,λi c b q f=>?_⟩ (λi j r Q h1 s=>Q (h1.1.F s.1.symm)) (λr E J=>⟨λi h=>C r E J (.inl h.2),λh=>C r E J (.inr h)⟩) (by simpa using f) (by simpa using N)
  λp I h1 s=>O p I (an.Y h1 (λr _ h=>h.imp id (Or.imp (λ⟨_,h⟩=>h.2) id)) λ_ _ h=>h) s
 have y:=(x6.1 q).1;have y:i=0:=by simpa using y
 subst y;simp at q f;subst q f;exact an.Y M (λr _ h=>⟨rfl,h⟩) λ_ _ h=>h
end
theorem Bd:∀(c:List x4)(i:Nat)(z:Array x4),(i+c.length<=z.size)->((c.zipIdx i).foldl (λcs (x:x4×Nat)=>cs.setIfInBounds x.2 x.1) z).toList=z.toList.take i++c++z.toList.drop (i+c.length)
 |[],i,z,h=>Ξ
 |x::r,i,z,h=>by
  simp only[Y0]at h;rw[List.zipIdx_cons,V5,Bd r (i+1) _ Θ];simp only[Array.toList_setIfInBounds,Y0];rw[List.drop_set_of_lt Ω,List.take_set,r9,x8 Θ];simp only[j6];rw[T4 _ _ Θ];have e:i-(z.toList.take i).length=0:=Θ
  rw[e,show i+1+r.length=i+(r.length+1) by omega];simp
theorem Be{k:Nat}{z:Array x4}(a:z.size=k)(e:v.cells.size=k):Instr.fill (λj=>σ (j*k,k)) z [(0,v)]=σ v.cells:=by
 have h:=Bd v.cells.toList 0 z Θ;simp only[Instr.fill,Nat.zero_mul,X6];rw[rc Θ];congr 1;apply Array.toList_inj.1;rw[<-Array.foldl_toList,Array.toList_zipIdx,h];simp;omega
section
variable{P:V3}{w:x5}{α β:Type}[an α][an β]{m:Bool}{S R:ah}
theorem ju{b:Nat}{x:x4}{a:α}{A:ah}{K:x4->x5->Prop}(C:P.underlying t=σ (.slice e))(hi:aR P e (an.n α) b z)(M:an.n α<=100000)(q:x.cells=cs.toArray)(s:bq A R w cs a)(E:∀v I,Ext w I->bq (λr=>A r\/w.heap.size<=r) R I [v] [a]->cc I (an.n α) v 1 cs->K v I):aF P (X2 t 1 #[(0,x)]) w K:=by
 have F:=an.len s;refine kS C hi Ω (cs:=x.cells) (Be Ξ (by rw[q];simpa using F)) λg I N y f=>?_;have f:ag I g e cs:=by rw[q]at f;simpa using f
 have hm:b0 I g e (an.n α) (.slice (σ ⟨g,0,ν⟩) 1 1) 1 cs:=b0.full f Ω (by simp[maxLen]);refine E _ I y ⟨_,rfl,[cs],g,λi r=>i=0/\A r/\r<w.heap.size,⟨λi r h=>.inl h.2.1,λ_ i h=>Ω,λ_ i j r G h1 H=>G (h1.1.F H.1.symm)⟩,⟨rfl,λi c a' p B=>?_⟩,?_,λ_=>⟨.inr (.inr Ω),e,by simpa using hm⟩⟩ hm.sl
 .have J:i=0:=by simpa using(x6.1 p).1
  subst J;simp at p B;subst p B;exact bu (an.Y s (λr L h=>⟨rfl,h,L⟩) λ_ _ h=>h) y
 .have:=o0 (S:=λr=>(A r\/w.heap.size<=r)\/R r) hm (.inr (.inl (.inr Ω)));simpa using this
end
theorem bW.range{B:x4->x5->(x4->x5->Prop)->Prop}(n:Nat)(a:Nat->x5->Prop)(q:n<=9223372036854775807)(f:a 0 w)(j:∀(i:Nat)(w:x5)(k:x4->x5->Prop),i<n->a i w->(∀I,a (i+1) I->k (Δ (W5.wrap ((i:Int)+1))) I)->B (Δ (i:Int)) w k)(p:∀(w:x5)(k:x4->x5->Prop),a n w->B (Δ (n:Int)) w k):bW (Δ 0) w B:=by
 refine⟨λt w=>∃i:Nat,t=Δ (i:Int)/\i<=n/\a i w,λt _=>n-(bX t).toNat,⟨0,rfl,W0 _,f⟩,?_⟩;rintro _ w ⟨i,rfl,hi,h⟩;by_cases e:i<n
 .refine j i w _ e h λI aW=>⟨⟨i+1,?_,e,aW⟩,?_⟩
  .rw[m1 Ω Ω];rfl
  .rw[m1 Ω Ω];simp only[bX];omega
 .have:i=n:=Ω
  subst this;exact p w _ h
theorem ch.range{a:x4}{B:x4->x4->x5->(x4->x4->x5->Prop)->Prop}(n:Nat)(e:Nat->x4->x5->Prop)(r:n<=9223372036854775807)(j:e 0 a w)(p:∀(i:Nat)(a:x4)(w:x5)(k:x4->x4->x5->Prop),i<n->e i a w->(∀a' I,e (i+1) a' I->k a' (Δ (W5.wrap ((i:Int)+1))) I)->B a (Δ (i:Int)) w k)(q:∀(a:x4)(w:x5)(k:x4->x4->x5->Prop),e n a w->B a (Δ (n:Int)) w k):ch a (Δ 0) w B:=by
 refine⟨λa t w=>∃i:Nat,t=Δ (i:Int)/\i<=n/\e i a w,λa t _=>n-(bX t).toNat,⟨0,rfl,W0 _,j⟩,?_⟩;rintro a _ w ⟨i,rfl,hi,h⟩;by_cases f:i<n
 .refine p i a w _ f h λa' I aW=>⟨⟨i+1,?_,f,aW⟩,?_⟩
  .rw[m1 Ω Ω];rfl
  .rw[m1 Ω Ω];simp only[bX];omega
 .have:i=n:=Ω
  subst this;exact q a w _ h
theorem lu.range{a b:x4}{B:x4->x4->x4->x5->(x4->x4->x4->x5->Prop)->Prop}(n:Nat)(e:Nat->x4->x4->x5->Prop)(s:n<=9223372036854775807)(p:e 0 a b w)(q:∀(i:Nat)(a b:x4)(w:x5)(k:x4->x4->x4->x5->Prop),i<n->e i a b w->(∀a' f I,e (i+1) a' f I->k a' f (Δ (W5.wrap ((i:Int)+1))) I)->B a b (Δ (i:Int)) w k)(r:∀(a b:x4)(w:x5)(k:x4->x4->x4->x5->Prop),e n a b w->B a b (Δ (n:Int)) w k):lu a b (Δ 0) w B:=by
 refine⟨λa b t w=>∃i:Nat,t=Δ (i:Int)/\i<=n/\e i a b w,λa b t _=>n-(bX t).toNat,⟨0,rfl,W0 _,p⟩,?_⟩;rintro a b _ w ⟨i,rfl,hi,h⟩;by_cases j:i<n
 .refine q i a b w _ j h λa' f I aW=>⟨⟨i+1,?_,j,aW⟩,?_⟩
  .rw[m1 Ω Ω];rfl
  .rw[m1 Ω Ω];simp only[bX];omega
 .have:i=n:=Ω
  subst this;exact r a b w _ h
theorem qT.range{a b c:x4}{B:x4->x4->x4->x4->x5->(x4->x4->x4->x4->x5->Prop)->Prop}(n:Nat)(e:Nat->x4->x4->x4->x5->Prop)(x:n<=9223372036854775807)(q:e 0 a b c w)(r:∀(i:Nat)(a b c:x4)(w:x5)(k:x4->x4->x4->x4->x5->Prop),i<n->e i a b c w->(∀a' f j I,e (i+1) a' f j I->k a' f j (Δ (W5.wrap ((i:Int)+1))) I)->B a b c (Δ (i:Int)) w k)(s:∀(a b c:x4)(w:x5)(k:x4->x4->x4->x4->x5->Prop),e n a b c w->B a b c (Δ (n:Int)) w k):qT a b c (Δ 0) w B:=by
 refine⟨λa b c t w=>∃i:Nat,t=Δ (i:Int)/\i<=n/\e i a b c w,λa b c t _=>n-(bX t).toNat,⟨0,rfl,W0 _,q⟩,?_⟩;rintro a b c _ w ⟨i,rfl,hi,h⟩;by_cases p:i<n
 .refine r i a b c w _ p h λa' f j I aW=>⟨⟨i+1,?_,p,aW⟩,?_⟩
  .rw[m1 Ω Ω];rfl
  .rw[m1 Ω Ω];simp only[bX];omega
 .have:i=n:=Ω
  subst this;exact s a b c w _ h
theorem qU.range{a b c d:x4}{B:x4->x4->x4->x4->x4->x5->(x4->x4->x4->x4->x4->x5->Prop)->Prop}(n:Nat)(e:Nat->x4->x4->x4->x4->x5->Prop)(y:n<=9223372036854775807)(r:e 0 a b c d w)(s:∀(i:Nat)(a b c d:x4)(w:x5)(k:x4->x4->x4->x4->x4->x5->Prop),i<n->e i a b c d w->(∀a' f j p I,e (i+1) a' f j p I->k a' f j p (Δ (W5.wrap ((i:Int)+1))) I)->B a b c d (Δ (i:Int)) w k)(x:∀(a b c d:x4)(w:x5)(k:x4->x4->x4->x4->x4->x5->Prop),e n a b c d w->B a b c d (Δ (n:Int)) w k):qU a b c d (Δ 0) w B:=by
 refine⟨λa b c d t w=>∃i:Nat,t=Δ (i:Int)/\i<=n/\e i a b c d w,λa b c d t _=>n-(bX t).toNat,⟨0,rfl,W0 _,r⟩,?_⟩;rintro a b c d _ w ⟨i,rfl,hi,h⟩;by_cases q:i<n
 .refine s i a b c d w _ q h λa' f j p I aW=>⟨⟨i+1,?_,q,aW⟩,?_⟩
  .rw[m1 Ω Ω];rfl
  .rw[m1 Ω Ω];simp only[bX];omega
 .have:i=n:=Ω
  subst this;exact x a b c d w _ h
section
variable{P:V3}{w:x5}{m:Bool}{S R:ah}
theorem KO(l:Λ):(l.map λx=>[U3 k x]).flatten=ints k l:=by
 induction l with
 |nil=>rfl
 |cons x l a=>simp only[T3,List.flatten_cons,a];rfl
theorem md{g:Nat}(h:aA .i64 e w g v l):bq (λr=>r=g) R w [v] l:=by
 have j:(l.map λx=>[U3 .i64 x]).flatten=ints .i64 l:=KO l;refine⟨v,rfl,l.map λx=>[Δ x],g,λ_ _=>False,⟨λ_ _ h=>h.elim,λ_ _ h=>h,λ_ _ _ _ _ h=>h.elim⟩,⟨Ξ,λi c a f p=>?_⟩,?_,λ_=>⟨.inr rfl,e,?_⟩⟩
 .rw[u4,p]at f;simp at f;exact f.symm
 .rw[j];exact o0 h (.inr (.inl rfl))
 .rw[j];exact h
def nh.val(x:nh k):Int:=x
theorem Bf(h:bq S R w [v] l):∃g e,aA .i64 e w g v l/\(v= .slice ν 0 0\/S g):=by
 obtain⟨vs,g,F,_,he,J,hm⟩:=jt h;obtain⟨h1,e,a⟩:=hm rfl;rw[Bb he]at a;exact⟨g,e,a,h1⟩
end
end Go.Vc
namespace Go.Proofs.YtnhkbjhpbbobaaaGreatDoor
open Go Go.Vc Go.RowKit Go.Proofs Go.Proofs.Tryz
set_option maxRecDepth 100000
def right(k:Int):Prop:=1<=k/\k<=2147483648
def cG(a k:Int):Prop:=right k/\0<=a/\a<=k
instance (k:Int):Decidable (right k):=by unfold right;infer_instance
instance (a k:Int):Decidable (cG a k):=by unfold cG;infer_instance
theorem Bg{k:Int}:al v8 JY [Δ k] w λv I=>v= .bool (decide (right k))/\Ext w I:=by
 refine aB func229 ?_;simp only[cC,cP,lA,am];refine⟨λh=>⟨?_,Ext.refl _⟩,λh=>⟨?_,Ext.refl _⟩⟩
 .congr 1;simp[right,h]
 .rw[s2];intro a;exact h a.1
theorem kU{k:Int}:al v8 JO [Δ a,Δ k] w λv I=>v= .bool (decide (cG a k))/\Ext w I:=by
 refine aB func212 ?_;simp only[cC];refine Bg.Y ?_;rintro _ U _ ⟨rfl,e⟩;simp only[cP,lA,am];refine⟨λh=>⟨λf=>⟨?_,e⟩,λf=>⟨?_,e⟩⟩,λh=>⟨?_,e⟩⟩
 .congr 1;simp[cG,h,f]
 .rw[s2];intro j;exact f j.2.1
 .rw[s2];intro j;exact h j.1
theorem KP{k:Int}:al v8 JM [Δ k] w λv I=>v= .bool (decide (right k))/\Ext w I:=by
 refine aB func210 ?_;simp only[cC,bU,lA,am];refine⟨λh=>⟨?_,Ext.refl _⟩,λh=>⟨?_,Ext.refl _⟩⟩
 .congr 1;have aW:1<=k:=Ω
  simp[right,aW]
 .rw[s2];intro a;have:=a.1;omega
theorem Bh{k:Int}:al v8 IW [Δ a,Δ k] w λv I=>v= .bool (decide (cG a k))/\Ext w I:=by
 refine aB func141 ?_;simp only[cC];refine KP.Y ?_;rintro _ U _ ⟨rfl,e⟩;simp only[cP,lA,am];refine⟨λh=>⟨λf=>⟨?_,e⟩,λf=>⟨?_,e⟩⟩,λh=>⟨?_,e⟩⟩
 .congr 1;simp[cG,h,f]
 .rw[s2];intro j;exact f j.2.1
 .rw[s2];intro j;exact h j.1
def aQ:Λ->Int
 |[]=>1
 |x::r=>x*aQ r
theorem Bi:∀(a b:Λ),aQ (a++b)=aQ a*aQ b
 |[],b=>by simp[aQ]
 |x::a,b=>by simp[aQ,Bi a b,Int.mul_assoc]
theorem p7{i:Nat}{x:Int}(h:l[i]?=σ x):aQ (l.take (i+1))=aQ (l.take i)*x:=by
 rw[r9,h,Bi];simp[aQ]
def cg(l:Λ):Prop:=l.length<=6/\∀x∈l,1<=x/\x<=32
theorem cg.take(h:cg l)(i:Nat):cg (l.take i):=⟨by rw[o8];have:=h.1;omega,λx a=>h.2 x (T1 a)⟩
theorem cg.drop(h:cg l)(i:Nat):cg (l.drop i):=⟨by rw[List.length_drop];have:=h.1;omega,λx a=>h.2 x (List.mem_of_mem_drop a)⟩
theorem me:∀(l:Λ),(∀x∈l,1<=x/\x<=32)->1<=aQ l/\aQ l<=32 ^ l.length
 |[],_=>by simp[aQ]
 |x::r,h=>by
  obtain⟨h1,a⟩:=me r λy e=>h y (.tail _ e);obtain⟨f,j⟩:=h x (.head _);simp only[aQ,Y0];constructor
  .have:=Int.mul_le_mul f h1 Ω Ω;simpa using this
  .have:=Int.mul_le_mul j a Ω Ω;rw[Int.pow_succ];rw[Int.mul_comm (32 ^ r.length) 32];exact this
theorem prod_bound(h:cg l):1<=aQ l/\aQ l<=1073741824:=by
 obtain⟨h1,a⟩:=me l h.2;refine⟨h1,Int.le_trans a ?_⟩;have:(32:Int) ^ l.length<=32 ^ 6:=by
  have e:=h.1
  match l.length,e with
  |0,_=>decide
  |1,_=>decide
  |2,_=>decide
  |3,_=>decide
  |4,_=>decide
  |5,_=>decide
  |6,_=>decide
 simpa using this
def cp:Λ->Λ->Int->Option Int
 |[],[],n=>σ n
 |k::s,v::t,n=>if 0<=v/\v<k then cp s t (n*k+v)else ν
 |_,_,_=>ν
theorem wF:∀(s t:Λ)(n:Int),s.length≠t.length->cp s t n=ν
 |[],[],_,h=>ro rfl h
 |[],_::_,_,_=>rfl
 |_::_,[],_,_=>rfl
 |k::s,v::t,n,h=>by
  unfold cp;split
  .exact wF s t _ (by simpa using h)
  .rfl
def dn:Λ->Int->Λ
 |[],_=>[]
 |k::s,n=>(n / aQ s) % k::dn s n
theorem kr:∀(s:Λ)(n:Int),(dn s n).length=s.length
 |[],_=>rfl
 |_::s,n=>by simp[dn,kr s n]
theorem Bj:∀{s:Λ}{n:Int}{i:Nat}{k:Int},s[i]?=σ k->(dn s n)[i]?=σ ((n / aQ (s.drop (i+1))) % k)
 |a::s,n,0,k,h=>by simp at h;subst h;simp[dn]
 |a::s,n,i+1,k,h=>by
  simp only[List.getElem?_cons_succ]at h;simp only[dn,List.getElem?_cons_succ,List.drop_succ_cons];exact Bj h
theorem mf:∀{s t:Λ}{m n:Int},(∀x∈s,1<=x/\x<=32)->cp s t m=σ n->m*aQ s<=n/\n<(m+1)*aQ s
 |[],[],m,n,_,h=>by simp[cp]at h;subst h;simp[aQ];omega
 |k::s,v::t,m,n,J,h=>by
  unfold cp at h;split at h
  .rename_i p;have e:=mf (λx a=>J x (.tail _ a)) h;have ac:=(me s λx a=>J x (.tail _ a)).1;simp only[aQ];have f:m*(k*aQ s)=m*k*aQ s:=(Int.mul_assoc _ _ _).symm;have j:(m+1)*(k*aQ s)=(m*k+k)*aQ s:=by rw[<-Int.mul_assoc,Int.add_mul,Int.one_mul]
   rw[f,j];constructor
   .refine Int.le_trans ?_ e.1;exact Int.mul_le_mul_of_nonneg_right Ω Ω
   .refine Int.lt_of_lt_of_le e.2 ?_;exact Int.mul_le_mul_of_nonneg_right Ω Ω
  .cases h
 |[],_::_,_,_,_,h=>by cases h
 |_::_,[],_,_,_,h=>by cases h
def bo:Λ->List (Λ)
 |[]=>[[]]
 |k::s=>(X9 k.toNat).flatMap λ(v:Nat)=>(bo s).map λt=>(v:Int)::t
theorem ks:∀{s:Λ},(∀x∈s,1<=x/\x<=32)->(bo s).length=(aQ s).toNat
 |[],_=>rfl
 |k::s,h=>by
  have e:=ks λx a=>h x (.tail _ a);have hk:=h k (.head _);have ac:=(me s λx a=>h x (.tail _ a)).1;simp only[bo,aQ,List.length_flatMap,r8,e];rw[List.map_const',List.length_range,List.sum_replicate_nat,Int.toNat_mul Ω Ω]
theorem tr:∀{s x:Λ},x∈bo s->x.length=s.length
 |[],x,h=>by simp[bo]at h;subst h;rfl
 |k::s,x,h=>by
  simp only[bo,List.mem_flatMap,j5]at h;obtain⟨v,_,t,a,rfl⟩:=h;simp[tr a]
theorem Bk{s x:Λ}(h:(bo s)[j]?=σ x):x.length=s.length:=tr (x7 h)
theorem p8(h:aN .i64 w sv l)(J:cg l):
  al v8 Iy [.agg #[sv]] w λv I=>v=Δ (aQ l)/\Ext w I:=by
 refine aB func96 ?_;refine bp λg w0 q f j=>?_;rw[aL bH.p 0 j rfl,a1 aq.u (h.W f)];refine⟨λn t U=>Ext w U/\∃i:Nat,t=Δ i/\i<=l.length/\n=Δ (aQ (l.take i)),λ_ t _=>l.length-(bX t).toNat,⟨f,0,rfl,W0 _,rfl⟩,?_⟩;rintro _ _ U ⟨a,i,rfl,hi,rfl⟩;have r:=J.1;simp only[aS,am];refine⟨λs=>?_,λy=>⟨?_,a⟩⟩
 .obtain⟨x,e⟩:=aD (l:=l) (i:=i) Ω;rw[bk aq.u ai.i Ψ (h.W a) e];have ac:=prod_bound (J.take (i+1));rw[p7 e]at ac;simp only[fz,aP];rw[m1 Ω Ω,m1 Ω Ω,<-p7 e];refine⟨⟨a,i+1,rfl,Ω,rfl⟩,?_⟩;simp only[bX];omega
 .have:i=l.length:=Ω
  rw[this,j4]
theorem KQ{i:Nat}(h:aN .i64 w sv l)(J:cg l)(hi:i<l.length):
  al v8 Jc [.agg #[sv],Δ i] w λv I=>v=Δ (aQ (l.drop (i+1)))/\Ext w I:=by
 have A:=J.1;refine aB func160 ?_;refine bp λg w0 B e f=>?_;have a:=h.W e;simp only[cC,aS,am];refine⟨λC=>Ω,λ_=>?_⟩;rw[aL bH.p 0 f rfl,a1 aq.u a];simp only[cP,am];refine⟨λE=>Ω,λ_=>?_⟩;rw[aL bH.p 0 f rfl];simp only[aP];have j:W5.wrap ((i:Int)+1)=((i+1:Nat):Int):=by rw[m1 Ω Ω];omega
 rw[j];have r:=a;obtain⟨_,b,o,base,cap,rfl,G,H,K,L⟩:=id a;rw[ig aq.u ai.i ra kR fh Ω Ω Ω];have ac:=cc.part (l:=i+1) (h:=l.length) (m:=cap) r Ω Ω Ω Ω;generalize s:(x4.slice (if cap=i+1 then base else U7 (λx=>x.add ((i+1)*1)) base) (l.length-(i+1)) (cap-(i+1)))=q at ac ⊢;have y:((ints .i64 l).drop ((i+1)*1)).take ((l.length-(i+1))*1)=ints .i64 (l.drop (i+1)):=by
  rw[Z0 Ξ,T0,ints,<-List.map_drop]
 rw[y]at ac;rw[dm (cs:=#[q]) (by subst s;kernel_rfl)];refine(p8 (aN.of ac) (J.drop (i+1))).Y ?_;rintro _ aa _ ⟨rfl,z⟩;exact⟨rfl,e.F z⟩
def mg(s t:Λ):x4:=match cp s t 0 with
 |some n=>.tuple #[Δ n,Δ 0]
 |none=>.tuple #[Δ 0,Δ 3]
theorem Bl{s t:Λ}(h:aN .i64 w sv s)(q:aN .i64 w aT t)(J:cg s):
  al v8 Ja [.agg #[sv],aT] w λv I=>v=mg s t/\Ext w I:=by
 have H:=J.1;refine aB func157 ?_;refine bp λg w0 K e r=>?_;rw[a1 aq.u (q.W e),aL bH.p 0 r rfl,a1 aq.u (h.W e)];simp only[bL,am];refine⟨λL=>⟨?_,e⟩,λz=>?_⟩
 .unfold mg;rw[wF _ _ _ Ω]
 .have z:s.length=t.length:=Ω
  rw[a1 aq.u (q.W e)];refine⟨λ_ _ n c U=>Ext w0 U/\∃(i:Nat)(m:Int),c=Δ i/\i<=t.length/\n=Δ m/\0<=m/\m<aQ (s.take i)/\cp s t 0=cp (s.drop i) (t.drop i) m,λ_ _ _ c _=>t.length-(bX c).toNat,
   ⟨Ext.refl _,0,0,rfl,W0 _,rfl,S0 _,by simp[aQ],rfl⟩,?_⟩
  rintro _ _ _ _ U ⟨j,i,m,rfl,hi,rfl,A,M,f⟩;have a:=e.F j;simp only[aS,am];refine⟨λN=>?_,λO=>⟨?_,a⟩⟩
  .obtain⟨v,B,C⟩:∃v,t[i]?=σ v/\t.drop i=v::t.drop (i+1):=⟨t[i],x8 Ω,W3 Ω⟩;obtain⟨k,hk,E⟩:∃k,s[i]?=σ k/\s.drop i=k::s.drop (i+1):=⟨s[i],x8 Ω,W3 Ω⟩;rw[C,E]at f;have ac:=prod_bound (J.take (i+1));have P:=prod_bound (J.take i);have Q:=J.2 k (x7 hk);rw[p7 hk]at ac;have y:¬(0<=v/\v<k)->mg s t= .tuple #[Δ 0,Δ 3]:=λG=>by unfold mg;rw[f];simp[cp,G]
   rw[bk aq.u ai.i Ψ (q.W a) B];simp only[cC,aS,am,bQ];refine⟨λR=>⟨(y Ω).symm,a⟩,λS=>?_⟩;rw[aL bH.p 0 (r.W j) rfl,bk aq.u ai.i Ψ (h.W a) hk];simp only[cP,am];refine⟨λV=>⟨(y Ω).symm,a⟩,λW=>?_⟩;rw[aL bH.p 0 (r.W j) rfl,bk aq.u ai.i Ψ (h.W a) hk];have X:0<=m*k/\m*k+k<=aQ (s.take i)*k:=by
    constructor
    .exact Int.mul_nonneg A Ω
    .have:=Int.mul_le_mul_of_nonneg_right (show m+1<=aQ (s.take i) by omega) (show 0<=k by omega);rw[Int.add_mul,Int.one_mul]at this;exact this
   simp only[fz,aP];rw[m1 (x:=m*k) Ω Ω,m1 (x:=m*k+v) Ω Ω,m1 Ω Ω];refine⟨⟨j,i+1,m*k+v,rfl,Ω,rfl,Ω,by rw[p7 hk];omega,?_⟩,?_⟩
   .rw[f];simp[cp,show 0<=v/\v<k from⟨Ω,Ω⟩]
   .simp only[bX];omega
  .have:i=t.length:=Ω
   rw[this,List.drop_of_length_le Ω,List.drop_of_length_le Ω]at f;unfold mg;rw[f];rfl
theorem KR{e:Nat}{a b:Λ}(h1:cc w 1 s1 e (ints .i64 a))(A:cc w 1 z j (ints .i64 b)):
  al v8 AI [s1,z] w λv I=>v= .bool (decide (a=b))/\Ext w I:=by
 have P:a.length=e:=by simpa using h1.1
 have Q:b.length=j:=by simpa using A.1
 have B:=h1.le;obtain⟨_,R,S,V,W,rfl,X,Y,G,H⟩:=h1;obtain⟨_,Z,ab,ac,ad,rfl,ae,af,J,K⟩:=A;refine aB func186 ?_;simp only[iV aq.u,bL,am];refine⟨λC=>⟨?_,Ext.refl _⟩,λE=>?_⟩
 .rw[s2];rintro rfl;omega
 .have E:e=j:=Ω
  refine⟨λt4 p U=>Ext w U/\∃i:Nat,p=Δ i/\i<=e/\a.take i=b.take i,λ_ p _=>e-(bX p).toNat,⟨Ext.refl _,0,rfl,W0 _,rfl⟩,?_⟩;rintro t4 _ U ⟨f,i,rfl,hi,q⟩;simp only[aS,am,ei];refine⟨λr aa L _ _=>?_,λag=>⟨?_,f⟩⟩
  .have r:i<e:=Ω
   have f:=f.F L;obtain⟨x,s⟩:=aD (l:=a) (i:=i) Ω;obtain⟨y,h⟩:=aD (l:=b) (i:=i) Ω;have M:=jU f (H i _ (mc s));have N:=jU f (K i _ (mc h));rw[eS aq.u ai.i r G,T0,aE Ψ M,eS aq.u ai.i (E▸r) J,T0,aE Ψ N];simp only[bL,am,aP];refine⟨λC=>⟨?_,f⟩,λah=>⟨⟨f,i+1,?_,Ω,wD q s h Ω⟩,?_⟩⟩
   .rw[s2];rintro rfl;rw[s]at h;cases h;exact C rfl
   .rw[m1 Ω (by simp only[maxLen]at B;omega)];rfl
   .rw[m1 Ω (by simp only[maxLen]at B;omega)];simp only[bX];omega
  .have O:i=e:=Ω
   subst O;rw[rs];rw[Z0 Ω,Z0 Ω]at q;exact q
theorem KS{s:x4}{a:Λ}(h1:cc w 1 s n (ints .i64 a))(B:n<=1000000):
  al v8 Au [s] w λv I=>Ext w I/\∃g,w.heap.size<=g/\b0 I g ai 1 v n (ints .i64 a):=by
 have j:=h1;obtain⟨p,C,E,G,H,rfl,J,K,q,L⟩:=h1;refine aB func88 ?_;simp only[tk aq.u,b4];refine⟨λf=>⟨Ext.refl _,w.heap.size,o4 _,?_⟩,λ_=>?_⟩
 .have:n=0:=by
   rcases Q8 n with h|h
   .exact h
   .rw[q h]at f;cases f
  subst this;have:ints .i64 a=[]:=Z5 (by simpa using p);rw[this];exact b0.nil _ _ _ _
 .refine kS aq.u ai.i Ω (cs:=#[]) Ψ ?_;intro g U M e x;refine oX aq.u aq.u ai.i rfl (b0.full x rfl Ω) (j.W e) (rb _ _) Ω (by simp only[maxLen];omega) ?_;intro N y aa O z A;refine⟨e.then A (by rintro r P rfl;omega),y,?_,?_⟩
  .have:=e.size;omega
  .simpa using z
theorem KT{e:Nat}{a b:Λ}(h1:cc w 1 s1 e (ints .i64 a))(A:cc w 1 z j (ints .i64 b)):
  al v8 Al [s1,z] w λv I=>v= .bool (decide (a=b))/\Ext w I:=by
 have P:a.length=e:=by simpa using h1.1
 have Q:b.length=j:=by simpa using A.1
 have B:=h1.le;obtain⟨_,R,S,V,W,rfl,X,Y,G,H⟩:=h1;obtain⟨_,Z,ab,ac,ad,rfl,ae,af,J,K⟩:=A;refine aB func21 ?_;simp only[iV aw.u,bL,am];refine⟨λC=>⟨?_,Ext.refl _⟩,λE=>?_⟩
 .rw[s2];rintro rfl;omega
 .have E:e=j:=Ω
  refine⟨λt4 p U=>Ext w U/\∃i:Nat,p=Δ i/\i<=e/\a.take i=b.take i,λ_ p _=>e-(bX p).toNat,⟨Ext.refl _,0,rfl,W0 _,rfl⟩,?_⟩;rintro t4 _ U ⟨f,i,rfl,hi,q⟩;simp only[aS,am,ei];refine⟨λr aa L _ _=>?_,λag=>⟨?_,f⟩⟩
  .have r:i<e:=Ω
   have f:=f.F L;obtain⟨x,s⟩:=aD (l:=a) (i:=i) Ω;obtain⟨y,h⟩:=aD (l:=b) (i:=i) Ω;have M:=jU f (H i _ (mc s));have N:=jU f (K i _ (mc h));rw[eS aw.u av.i r G,T0,aE Ψ M,eS aw.u av.i (E▸r) J,T0,aE Ψ N];simp only[bL,am,aP];refine⟨λC=>⟨?_,f⟩,λah=>⟨⟨f,i+1,?_,Ω,wD q s h Ω⟩,?_⟩⟩
   .rw[s2];rintro rfl;rw[s]at h;cases h;exact C rfl
   .rw[m1 Ω (by simp only[maxLen]at B;omega)];rfl
   .rw[m1 Ω (by simp only[maxLen]at B;omega)];simp only[bX];omega
  .have O:i=e:=Ω
   subst O;rw[rs];rw[Z0 Ω,Z0 Ω]at q;exact q
theorem KU{s:x4}{a:Λ}(h1:cc w 1 s n (ints .i64 a))(B:n<=1000000):
  al v8 AK [s] w λv I=>Ext w I/\∃g,w.heap.size<=g/\b0 I g av 1 v n (ints .i64 a):=by
 have j:=h1;obtain⟨p,C,E,G,H,rfl,J,K,q,L⟩:=h1;refine aB func201 ?_;simp only[tk aw.u,b4];refine⟨λf=>⟨Ext.refl _,w.heap.size,o4 _,?_⟩,λ_=>?_⟩
 .have:n=0:=by
   rcases Q8 n with h|h
   .exact h
   .rw[q h]at f;cases f
  subst this;have:ints .i64 a=[]:=Z5 (by simpa using p);rw[this];exact b0.nil _ _ _ _
 .refine kS aw.u av.i Ω (cs:=#[]) Ψ ?_;intro g U M e x;refine oX aw.u aw.u av.i rfl (b0.full x rfl Ω) (j.W e) (rb _ _) Ω (by simp only[maxLen];omega) ?_;intro N y aa O z A;refine⟨e.then A (by rintro r P rfl;omega),y,?_,?_⟩
  .have:=e.size;omega
  .simpa using z
theorem KV{e:x4}{a b:Λ}(h1:aN .i64 w s1 a)(f:aN .i64 w e b):
  al v8 AI [s1,e] w λv I=>v= .bool (decide (a=b))/\Ext w I:=KR h1 f
theorem mh{s:x4}{a:Λ}(h1:aN .i64 w s a)(e:a.length<=1000000):
  al v8 Au [s] w λv I=>Ext w I/\∃g,w.heap.size<=g/\aA .i64 ai I g v a:=KS h1 e
theorem KW{e:x4}{a b:Λ}(h1:aN .i64 w s1 a)(f:aN .i64 w e b):
  al v8 Al [s1,e] w λv I=>v= .bool (decide (a=b))/\Ext w I:=KT h1 f
theorem wG{s:x4}{a:Λ}(h1:aN .i64 w s a)(e:a.length<=1000000):
  al v8 AK [s] w λv I=>Ext w I/\∃g,w.heap.size<=g/\aA .i64 av I g v a:=KU h1 e
theorem KX{n:Int}(h:aN .i64 w sv l)(J:cg l)(x:0<=n)(X:n<aQ l):
  al v8 Iz [.agg #[sv],Δ n] w λv I=>Ext w I/\∃aT g,v= .tuple #[aT,Δ 0]/\w.heap.size<=g/\aA .i64 ai I g aT (dn l n):=by
 have Y:=J.1;have Z:=prod_bound J;refine aB func97 ?_;refine bp λg w0 ab y a=>?_;have ac:=h.cells;simp only[cC,aS,am];refine⟨λad=>Ω,λ_=>?_⟩;rw[bC bH.p bH.i rfl a.range];refine(p8 (h.W y) J).Y ?_;rintro _ U _ ⟨rfl,f⟩;simp only[cP,am];refine⟨λae=>Ω,λ_=>?_⟩;have j:=y.F f;rw[aL bH.p 0 (a.W f) rfl,a1 aq.u (h.W j)];refine kq aq.u ai.i Ω Ω ?_;intro E aa af z L;simp only[iV aq.u];have M:=j.F z;have s0:=y.size;have s1:=f.size;have ah:=a.lt;refine⟨λt q=>Ext w q/\Ext w0 q/\∃i:Nat,t=Δ i/\i<=l.length/\ag q E ai (ints .i64 ((dn l n).take i++o6 (l.length-i) 0)),λt _=>l.length-(bX t).toNat,
  ⟨M,f.F z,0,rfl,W0 _,by simpa using L⟩,?_⟩
 rintro _ q ⟨A,B,i,rfl,hi,G⟩;simp only[aS,am];refine⟨λC=>?_,λaj=>?_⟩
 .have C:i<l.length:=Ω
  rw[bC bH.p bH.i rfl (a.W B).range];refine(KQ (h.W A) J C).Y ?_;rintro _ ak _ ⟨rfl,N⟩;simp only[ei];intro an O _ _;have s:=N.F O;have H:=A.F s;obtain⟨k,hk⟩:∃k,l[i]?=σ k:=⟨l[i],x8 Ω⟩;have ao:=J.2 k (x7 hk);have ap:=prod_bound (J.drop (i+1));have P:0<=n / aQ (l.drop (i+1)):=Int.ediv_nonneg x Ω;have au:n / aQ (l.drop (i+1))<=n:=Int.ediv_le_self _ x;rw[nN Ω,Int.tdiv_eq_ediv_of_nonneg x,m1 Ω Ω,
   aL bH.p 0 ((a.W B).W s) rfl,bk aq.u ai.i Ψ (h.W H) hk,
   q9 Ω,Int.tmod_eq_emod_of_nonneg P,eS aq.u ai.i C (λ_=>rfl),T0]
  refine bt ai.i rfl rfl (G.W s) (by simp[kr];omega) ?_;intro av K aw Q;simp only[aP];rw[m1 Ω Ω];have ax:=z.size;have ay:=j.size;refine⟨⟨H.then K (by rintro r R rfl;omega),(B.F s).then K (by rintro r R rfl;omega),i+1,rfl,Ω,?_⟩,?_⟩
  .have S:=Bj (n:=n) hk;have e:(ints .i64 ((dn l n).take i++o6 (l.length-i) 0)).set (0+i) (Δ (n / aQ (l.drop (i+1)) % k))=ints .i64 ((dn l n).take (i+1)++o6 (l.length-(i+1)) 0):=by
    have V:((dn l n).take i).length=i:=by rw[o8,kr];omega
    rw[X6,ints,<-T2];congr 1;rw[List.set_append,rc Ω,V,V2,show l.length-i=(l.length-(i+1))+1 by omega,List.replicate_succ,List.set_cons_zero,r9,S];simp
   rw[<-e];exact Q
  .simp only[bX];omega
 .have W:i=l.length:=Ω
  subst W;refine⟨A,_,E,rfl,by have:=j.size;omega,aA.of (b0.full ?_ (by simp[ints,kr]) (by simp[maxLen];omega))⟩;have e:(dn l n).take l.length++o6 (l.length-l.length) 0=dn l n:=by rw[V2,Z0 (by rw[kr];omega)];simp
  rw[<-e];exact G
def jv(x:Int):Prop:=1<=x/\x<=32
instance (x:Int):Decidable (jv x):=by unfold jv;infer_instance
theorem KY{x:Int}:al v8 th [Δ x] w λv I=>v= .bool (decide (¬jv x))/\Ext w I:=by
 refine aB func285 ?_;simp only[cC,aS,bU,am];refine⟨λh=>⟨?_,Ext.refl _⟩,λh=>⟨?_,Ext.refl _⟩⟩
 .rw[rs];intro a;have:=a.1;omega
 .congr 1;have:(32<x)=(¬jv x):=propext ⟨λe a=>by have:=a.2;omega,λe=>by
   by_cases f:32<x
   .exact f
   .exact ro ⟨Ω,Ω⟩ e⟩
  simp only[this]
theorem KZ(h:aN .i64 w sv l):
  al v8 wm [sv,.func (.func th) #[] #[]] w λv I=>Ext w I/\∃n:Int,v=Δ n/\((0<=n)=¬∀x∈l,jv x):=by
 have z:=h.le;refine aB func139 ?_;rw[a1 aq.u h];refine⟨λ_ t U=>Ext w U/\∃i:Nat,t=Δ i/\i<=l.length/\∀x∈l.take i,jv x,λ_ t _=>l.length-(bX t).toNat,⟨Ext.refl _,0,rfl,W0 _,Ξ⟩,?_⟩;rintro _ _ U ⟨e,i,rfl,hi,f⟩;simp only[aS,am];refine⟨λA=>?_,λB=>⟨e,-1,rfl,?_⟩⟩
 .obtain⟨x,j⟩:=aD (l:=l) (i:=i) Ω;rw[bk aq.u ai.i Ψ (h.W e) j];show al v8 th [Δ x] U _;refine KY.Y ?_;rintro _ aa _ ⟨rfl,p⟩;simp only[am,aP];refine⟨λq=>⟨e.F p,i,rfl,?_⟩,λr=>?_⟩
  .exact propext ⟨λ_ s=>q (s x (x7 j)),λ_=>Ω⟩
  .rw[m1 Ω Ω];refine⟨⟨e.F p,i+1,rfl,Ω,λy a=>?_⟩,?_⟩
   .rw[r9,j]at a;rcases j9.1 a with a|a
    .exact f y a
    .simp at a;subst a;exact X5.1 r
   .simp only[bX];omega
 .have:i=l.length:=Ω
  rw[this,j4]at f;exact propext ⟨λh=>Ω,λh=>ro f h⟩
theorem K0(h:aN .i64 w sv l):
  al v8 wp [sv,.func (.func th) #[] #[]] w λv I=>v= .bool (decide (¬∀x∈l,jv x))/\Ext w I:=by
 refine aB func225 ?_;refine(KZ h).Y ?_;rintro _ U _ ⟨a,n,rfl,e⟩;simp only[cP];exact⟨by congr 1;simp only[e],a⟩
def K1(w:x5)(l:Λ)(v:x4)(I:x5):Prop:=
 Ext w I/\
   (¬cg l->v= .tuple #[.agg #[.slice ν 0 0],Δ 1])/\
   (cg l->4096<aQ l->v= .tuple #[.agg #[.slice ν 0 0],Δ 5])/\
   (cg l->aQ l<=4096->∃g aT,v= .tuple #[.agg #[aT],Δ 0]/\w.heap.size<=g/\aA .i64 ai I g aT l)
theorem K2(h:aN .i64 w sv l):al v8 Ka [sv] w (K1 w l):=by
 refine aB func251 ?_;refine bF bH.i λah U ai a q=>?_;have aj:=q.lt;refine aZ (λv aa=>Ext w aa/\Ext U aa/\∃c:Bool,v= .bool c/\((c=v2)=¬cg l)) ?_ ?_
 .rintro _ aa ⟨s,x,c,rfl,G⟩;simp only[b4];refine⟨λS=>?_,λW=>?_⟩
  .have H:¬cg l:=by rw[<-G];exact S
   rw[dm (cs:=#[.slice ν 0 0]) Ψ];refine b6 (vs:=[.slice ν 0 0]) bH.i rfl rfl (by simp;rfl) (q.W x) ?_;intro ak X an Y;rw[fi bH.p bH.i rfl Y.range];exact⟨s.then X (by rintro r y rfl;omega),λ_=>rfl,λh=>ro h H,λh=>ro h H⟩
  .have e:cg l:=by
    have I:¬(c=v2):=by simp[W]
    rw[G]at I;exact Classical.not_not.1 I
   have ao:=e.1;refine(mh (h.W s) Ω).Y ?_;rintro aT ap _ ⟨z,Z,au,hm⟩;have K:=hm.ls.cells;rw[dm (cs:=#[aT]) (by obtain⟨_,_,_,_,_,rfl,_⟩:=hm.ls;kernel_rfl)];refine bF bH.i λgs av aw A ab=>?_;refine b6 (vs:=[aT]) bH.i rfl rfl (by intro u hu;simp at hu;subst hu;exact K.2) ab ?_;intro ay L az M;rw[bC bH.p bH.i rfl M.range];have aA:=z.size;have aC:=A.size;have aD:=x.size;have aE:=(A.V _).F L;have B:=A.then L (by rintro r y rfl;omega);have ac:=(s.F z).F B;have N:=hm.W B;refine(p8 N.ls e).Y ?_;rintro _ aF _ ⟨rfl,f⟩;have O:=ac.F f;have P:=q.W (((x.F z).F B).F f);simp only[bU,am];refine⟨λad=>?_,λae=>?_⟩
   .rw[dm (cs:=#[.slice ν 0 0]) Ψ];refine b6 (vs:=[.slice ν 0 0]) bH.i rfl rfl (by simp;rfl) P ?_;intro af j ag C;rw[fi bH.p bH.i rfl C.range];exact⟨O.then j (by rintro r y rfl;omega),λh=>ro e h,λ_ _=>rfl,λ_ h=>Ω⟩
   .rw[bC bH.p bH.i rfl (M.W f).range];refine b6 (vs:=[aT]) bH.i rfl rfl (by intro u hu;simp at hu;subst hu;exact K.2) P ?_;intro af j ag C;rw[fi bH.p bH.i rfl C.range];have aG:=a.size;exact⟨O.then j (by rintro r y rfl;omega),λh=>ro e h,λ_ h=>Ω,λ_ _=>⟨Z,aT,rfl,Ω,(N.W f).V j Ω⟩⟩
 .intro ax Q;rw[a1 aq.u (h.W a)];simp only[bU,am];refine⟨λad=>Q _ _ ⟨a,Ext.refl _,v2,rfl,?_⟩,λae=>?_⟩
  .exact propext ⟨λ_ J=>by have:=J.1;omega,λ_=>rfl⟩
  .refine (K0 (h.W a)).Y ?_;rintro _ aa _ ⟨rfl,R⟩;refine Q _ _ ⟨a.F R,R,_,rfl,?_⟩;rw[sp];exact propext ⟨λE J=>E J.2,λE J=>E ⟨Ω,J⟩⟩
theorem wH{P:V3}(f:0<=a)(h1:a<4294967296):
  ab P (aO .and t cx cy (.int .u64 a) (.int .u64 4294967295)) w K=K (.int .u64 a):=ab.of λI _=>by
 obtain⟨n,rfl⟩:=V9 f;have q:n<4294967296:=Ω
 have e:(T8 64 (n:Int) &&& T8 64 4294967295).toNat=n:=by
  rw[BitVec.toNat_and,BitVec.toNat_ofInt,BitVec.toNat_ofInt];have h:((n:Int) % ((2 ^ 64:Nat):Int)).toNat=n:=Ω
  have j:((4294967295:Int) % ((2 ^ 64:Nat):Int)).toNat=2 ^ 32-1:=Φ
  rw[h,j,Nat.and_two_pow_sub_one_eq_mod];omega
 have p:(T8 T7.bits (n:Int) &&& T8 T7.bits 4294967295).toNat=n:=e;simp only[aO,eqGuard,binOp,Op.intBits,p];rw[m2 Ω Ω];rfl
theorem rf{P:V3}(f:0<=a)(h1:a<4294967296):
  ab P (aO .shr t cx cy (.int .u64 a) (.int .u64 32)) w K=K (.int .u64 0):=ab.of λI _=>by
 have e:a.fdiv (2 ^ min 32 T7.bits)=0:=by
  have:(2:Int) ^ min 32 T7.bits=4294967296:=rfl;rw[this,Int.fdiv_eq_ediv_of_nonneg _ Ω];omega
 simp[aO,eqGuard,binOp,Op.shift,e]
theorem K3{x:Int}(e:0<=x/\x<65536)(a:0<=y/\y<65536):
  al v8 Ks [.int .u64 x,.int .u64 y] w λv I=>v= .tuple #[.int .u64 0,.int .u64 (x*y)]/\Ext w I:=by
 have h:0<=x*y/\x*y<4294967296:=⟨Int.mul_nonneg e.1 a.1,by
  have:x*y<=65535*65535:=Int.mul_le_mul Ω Ω a.1 Ω;omega⟩
 refine aB func286 ?_;refine al.Y (K:=λv I=>v= .tuple #[.int .u64 0,.int .u64 (x*y)]/\Ext w I) ?_ ?_
 .refine aB func301 ?_;rw[wH Ω Ω,rf Ω Ω,wH Ω Ω,rf Ω Ω];simp only[fz,Int.zero_mul,Int.mul_zero];rw[m2 Ω Ω,show T7.wrap 0=0 from rfl,rf Ω Ω];simp only[aP,Int.add_zero];rw[show T7.wrap 0=0 from rfl,wH Ω Ω,rf Ω Ω];simp only[fz,aP,Int.zero_mul,Int.mul_zero,Int.add_zero,show T7.wrap 0=0 from rfl];rw[rf Ω Ω];simp only[fz,aP,Int.add_zero,show T7.wrap 0=0 from rfl];exact⟨trivial,Ext.refl _⟩
 .rintro _ U _ ⟨rfl,f⟩;rw[bx,bz];exact⟨rfl,f⟩
theorem Bm{eM:x4}{c:Int}(h:aN .i64 w eM [c])(W:n<65536):
  al v8 Kb [eM,Δ n] w λv I=>Ext w I/\∃g,w.heap.size<=g/\aA .i64 av I g v (o6 n c):=by
 refine aB func252 ?_;refine c7 (λU=>w=U) ?_ ?_
 .rintro _ rfl;rw[a1 aw.u h,fA ai.u p2.u,fA ai.u p2.u,m2 Ξ Ξ,m2 Ω Ω];refine(K3 Ξ Ω).Y ?_;rintro _ aa _ ⟨rfl,x⟩;rw[bx,bz];have C:(([c].length:Int)*n)=(n:Int):=Ξ
  rw[C];refine c7 (λa=>aa=a) ?_ ?_
  .rintro _ rfl;rw[fA p2.u ai.u,m1 Ω Ω];refine kq aw.u av.i Ω Ω ?_;intro g X Y E G;have y:=x.F E;have Z:=x.size;refine A6 aw.u av.i G (λ_=>rfl) Ξ (h.W y) (rb _ _) ?_;intro ab H ad z;have J:=y.then H (by rintro r K rfl;omega);have st:over (ints .i64 (o6 n 0)) 0 ((ints .i64 [c]).take n)=ints .i64 (o6 (min 1 n) c++o6 (n-min 1 n) 0):=by
    rcases Q8 n with rfl|ac
    .simp[over]
    .rw[Z0 Θ,nO Θ];have:min 1 n=1:=Ω
     simp[this,ints]
   rw[st]at z;refine⟨λt e=>Ext w e/\∃i:Nat,t=Δ i/\i<=n/\(0<n->0<i)/\ag e g av (ints .i64 (o6 i c++o6 (n-i) 0)),λt _=>n-(bX t).toNat,
    ⟨J,min 1 n,Ξ,Ω,Ω,z⟩,?_⟩
   rintro _ e ⟨f,i,rfl,hi,ae,p⟩;simp only[iV aw.u,aS,am,ei];refine⟨λL M q _ _=>?_,λaf=>?_⟩
   .have L:i<n:=Ω
    have A:=p.W q;rw[ig aw.u av.i ra kR fh Ω Ω Ω,
     ig aw.u av.i jW oU fh Ω Ω Ω]
    have N:cc M 1 (.slice (σ ⟨g,0,ν⟩) n n) n (ints .i64 (o6 i c++o6 (n-i) 0)):=(b0.full A (by simp<;>omega) (by simp[maxLen]<;>omega)).sl;have ac:=N.part (l:=0) (h:=i) (m:=n) Ω Ω Ω Ω;have O:((ints .i64 (o6 i c++o6 (n-i) 0)).drop (0*1)).take ((i-0)*1)=ints .i64 (o6 i c):=by
     simp[ints]
    rw[O]at ac;refine A6 aw.u av.i A (o:=i) (λ_=>?_) (by simp<;>omega) ac (rb _ _) ?_
    .rw[rc Ω];simp[T9]
    .intro ah P aj B;have ak:=f.size;have an:=q.size;have Q:over (ints .i64 (o6 i c++o6 (n-i) 0)) i ((ints .i64 (o6 i c)).take (n-i))=ints .i64 (o6 (i+min i (n-i)) c++o6 (n-(i+min i (n-i))) 0):=by
      apply X0;intro j;rw[oV _ _ _ (by simp[ints]<;>omega)];simp only[ints,Z3,List.map_replicate,List.getElem?_append,List.getElem?_take,List.getElem?_replicate,o8,List.length_replicate]
      repeat' split
      all_goals first|rfl|omega
     rw[Q]at B;have R:min (i-0) (n-i)=min i (n-i):=Ω
     simp only[aP,R];have S:W5.wrap ((i:Int)+((min i (n-i):Nat):Int))=((i+min i (n-i):Nat):Int):=by rw[m1 Ω Ω];omega
     rw[S];refine⟨⟨(f.F q).then P (by rintro r K rfl;omega),_,rfl,Ω,Ω,B⟩,?_⟩;simp only[bX,u9];omega
   .have:i=n:=Ω
    subst this;rw[V2,List.replicate_zero,U2]at p;exact⟨f,g,Ω,aA.of (b0.full p Ξ (by simp[maxLen];omega))⟩
  .intro ax s;refine aZ (λv a=>v= .bool v6/\aa=a) ?_ ?_
   .rintro _ _ ⟨rfl,rfl⟩;rw[a6];exact s _ rfl
   .intro ao V;simp only[bU,am];refine⟨λh=>Ω,λ_=>V _ _ ⟨?_,rfl⟩⟩;rw[s2];omega
 .intro ax s;simp only[aS,am];exact⟨λh=>Ω,λ_=>s _ rfl⟩
def lw(v:x4)(r:Nat):Prop:=∃a n c,v= .slice (σ a) n c/\a.block=r
theorem bZ{g:Nat}(h:aA k e w g v l){r:Nat}(f:lw v r):r=g/\g<w.heap.size:=by
 obtain⟨a,n,c,rfl,rfl⟩:=f;obtain⟨_,⟨h,_⟩|⟨cap,cs,h,j,_⟩⟩:=h
 .cases h
 .cases h;exact⟨rfl,j.lt⟩
theorem bA{g:Nat}(h:aA k e w g v l)(a:af S w I)(f:∀r,lw v r->¬S r):aA k e I g v l:=by
 refine⟨h.1,h.2.imp id λ⟨cap,cs,h1,j,p⟩=>⟨cap,cs,h1,j.V a (f g ⟨_,_,_,h1,rfl⟩),p⟩⟩
def dh(w:x5)(g a:Nat)(sv:x4)(aj:Λ)(k:Int)(cs:Λ):Prop:=
 (∃ba gs,ag w g c5 [sv,Δ k,ba]/\aA .i64 ai w gs sv aj/\aA .i64 av w a ba cs)/\(g≠a/\¬lw sv a/\aQ aj<=4096)/\cg aj/\cs.length=(aQ aj).toNat
theorem dh.W{g e:Nat}{k:Int}{cs:Λ}(h:dh w g e sv aj k cs)(a:Ext w I):dh I g e sv aj k cs:=by
 obtain⟨⟨ba,gs,h1,f,j⟩,p⟩:=h;exact⟨⟨ba,gs,h1.W a,f.W a,j.W a⟩,p⟩
def Bn(w:x5)(l:Λ)(k a:Int)(v:x4)(I:x5):Prop:=
 Ext w I/\
  (¬cg l->v= .tuple #[.pointer ν,Δ 1])/\
  (cg l->4096<aQ l->v= .tuple #[.pointer ν,Δ 5])/\
  (cg l->aQ l<=4096->¬cG a k->v= .tuple #[.pointer ν,Δ 3])/\
  (cg l->aQ l<=4096->cG a k->∃g e sv,v= .tuple #[Γ g,Δ 0]/\w.heap.size<=g/\w.heap.size<=e/\(∀r,lw sv r->w.heap.size<=r)/\
   dh I g e sv l k (o6 (aQ l).toNat a))
theorem wI{k z:Int}(h:aN .i64 w sv l):al v8 JC [sv,Δ k,Δ z] w (Bn w l k z):=by
 refine aB func198 ?_;refine(K2 h).Y ?_;rintro v U _ ⟨I,W,X,Y⟩;obtain⟨aT,e,rfl,Z,he⟩:∃(aT:x4)(e:Int),v= .tuple #[.agg #[aT],Δ e]/\aT.oneCell'=v2/\
   ((e=1/\¬cg l)\/(e=5/\cg l/\4096<aQ l)\/(e=0/\cg l/\aQ l<=4096/\∃g,w.heap.size<=g/\aA .i64 ai U g aT l)):=by
  by_cases J:cg l
  .by_cases ac:aQ l<=4096
   .obtain⟨g,aT,rfl,h1,K⟩:=Y J ac;exact⟨aT,0,rfl,K.ls.cells.2,.inr (.inr ⟨rfl,J,ac,g,h1,K⟩)⟩
   .exact⟨_,_,X J Ω,rfl,.inr (.inl ⟨rfl,J,Ω⟩)⟩
  .exact⟨_,_,W J,rfl,.inl ⟨rfl,J⟩⟩
 rw[bx,bz];refine bF bH.i λaK aa aL ad ae=>?_;refine b6 (vs:=[aT]) bH.i rfl rfl (by intro u hu;simp at hu;subst hu;exact Z) ae ?_;intro aM af aO ag;have L:=ad.then af (by rintro r j rfl;omega);have M:=I.F L;simp only[bL,am];refine⟨λah=>⟨M,?_⟩,λaP=>?_⟩
 .rcases he with⟨rfl,A⟩|⟨rfl,J,ac⟩|⟨rfl,_⟩
  .exact⟨λ_=>rfl,λh=>ro h A,λh=>ro h A,λh=>ro h A⟩
  .exact⟨λh=>ro J h,λ_ _=>rfl,λ_ h=>Ω,λ_ h=>Ω⟩
  .exact ro rfl ah
 .obtain⟨rfl,J,ac,gs,aR,hm⟩:e=0/\cg l/\aQ l<=4096/\∃g,w.heap.size<=g/\aA .i64 ai U g aT l:=by
   rcases he with⟨rfl,A⟩|⟨rfl,J,ac⟩|h
   .omega
   .omega
   .exact h
  have aS:=prod_bound J;refine kU.Y ?_;rintro _ aU _ ⟨rfl,C⟩;have N:=M.F C;simp only[bM,b4];refine⟨λaj=>⟨N,λh=>ro J h,λ_ h=>Ω,λ_ _ _=>rfl,λ_ _ h=>by simp[h]at aj⟩,λak=>?_⟩;have an:cG z k:=by simpa using ak
  simp only[cC,ei];intro O E _ _;have ap:=N.F E;have B:=(L.F C).F E;have P:=(ag.W C).W E;rw[bC bH.p bH.i rfl P.range,bC bH.p bH.i rfl P.range];have s1:=I.size;have aV:=B.size;have Q:((aQ l).toNat:Int)=aQ l:=Ω
  have R:∀{x:x5}{s:x4}{y:Nat},Ext O x->O.heap.size<=y->aA .i64 av x y s (o6 (aQ l).toNat z)->
    ab v8 (Instr.build c5 #[(0,.agg #[aT]),(1,Δ k),(2,s)]) x λaq=>aF v8 (Instr.box c5 aq) x λau S=>Bn w l k z (.tuple #[au,Δ 0]) S:=by
   intro x s y q V j;rw[dm (cs:=#[aT,Δ k,s]) (by
    obtain⟨_,_,_,_,_,rfl,_⟩:=j.ls;obtain⟨_,_,_,_,_,rfl,_⟩:=hm.ls;kernel_rfl)]
   refine bp λg S aW G ax=>?_;have aX:=q.size;have ay:lw s y:=by
    obtain⟨aY,⟨_,az⟩|⟨cap,cs,rfl,_⟩⟩:=j
    .simp at az;omega
    .exact⟨_,_,_,rfl,rfl⟩
   have aZ:=(bZ j ay).2;refine⟨(ap.F q).F G,λh=>ro J h,λ_ h=>Ω,λ_ _ h=>ro an h,λ_ _ _=>⟨g,y,aT,rfl,Ω,Ω,λr aC=>?_,⟨s,gs,ax,((hm.W B).W q).W G,j.W G⟩,⟨Ω,λaD=>?_,ac⟩,J,Ξ⟩⟩
   .have:=(bZ hm aC).1;omega
   .have:=bZ hm aD;omega
  constructor
  .refine eT aw.u av.i rfl λeM ao aE aG a H=>⟨.inl a,?_⟩;refine(p8 ((hm.W B).W a).ls J).Y ?_;rintro _ aH _ ⟨rfl,f⟩;refine⟨.inl (a.F f),?_⟩;rw[<-Q];refine(Bm (H.W f).ls Ω).Y ?_;rintro s x _ ⟨q,y,V,j⟩;have aI:=a.size;have aJ:=f.size;exact⟨.inl ((a.F f).F q),R ((a.F f).F q) Ω j⟩
  .refine (p8 (hm.W B).ls J).Y ?_;rintro _ aE _ ⟨rfl,a⟩;refine⟨.inl a,?_⟩;refine eT aw.u av.i rfl λeM ao aH aG f H=>⟨.inl (a.F f),?_⟩;rw[<-Q];refine(Bm H.ls Ω).Y ?_;rintro s x _ ⟨q,y,V,j⟩;have aI:=a.size;have aJ:=f.size;exact⟨.inl ((a.F f).F q),R ((a.F f).F q) Ω j⟩
theorem o1{g:Nat}{a:List x4}{o:Nat}(h:ag w g e cs)(f:∀j v,a[j]?=σ v->cs[o+j]?=σ v):w.rangeAt g o a:=λj v p=>h.cell (f j v p)
theorem Bo{g f:Nat}{t:Λ}{k:Int}{cs:Λ}(h:dh w g f sv aj k cs)(q:aN .i64 w aT t):
  al v8 Kf [Γ g,aT] w λv I=>v=mg aj t/\Ext w I:=by
 obtain⟨⟨ba,gs,r,hm,s⟩,_,J,_⟩:=h;refine aB func257 ?_;rw[dg fa.u];simp only[Y2,a6];rw[bY,aU c5.p rfl,bC (cs:=[sv]) bH.p bH.i rfl (o1 r (by
  intro j v a
  match j,a with
  |0,a=>exact a))]
 refine(Bl hm.ls q J).Y ?_;rintro _ U _ ⟨rfl,e⟩;unfold mg;cases cp aj t 0 with
 |none=>rw[bx,bz];exact⟨rfl,e⟩
 |some n=>rw[bx,bz];exact⟨rfl,e⟩
def ts(aj t cs:Λ):x4:=match cp aj t 0 with
 |some n=>.tuple #[Δ (cs.getD n.toNat 0),Δ 0]
 |none=>.tuple #[Δ 0,Δ 3]
theorem Bp{t cs:Λ}{n:Int}(J:cg aj)(a:cs.length=(aQ aj).toNat)(h:cp aj t 0=σ n):n=(n.toNat:Int)/\n.toNat<cs.length:=by
 have:=mf J.2 h;simp only[Int.zero_mul,Int.zero_add,Int.one_mul]at this;omega
theorem wJ{g f:Nat}{t:Λ}{k:Int}{cs:Λ}(h:dh w g f sv aj k cs)(j:aN .i64 w aT t):
  al v8 J7 [Γ g,aT] w λv I=>v=ts aj t cs/\Ext w I:=by
 refine aB func242 ?_;refine(Bo h j).Y ?_;rintro _ U _ ⟨rfl,a⟩;obtain⟨⟨ba,gs,q,hm,r⟩,_,J,s⟩:=h.W a;unfold mg ts;cases hi:cp aj t 0 with
 |none=>
  rw[bx,bz];simp only[bL,am];exact⟨λ_=>⟨trivial,a⟩,λh=>by simp at h⟩
 |some n=>
  obtain⟨x,e⟩:=Bp J s hi;rw[bx,bz];simp only[bL,am];refine⟨λh=>ro rfl h,λ_=>?_⟩;rw[aK c5.p 2 q rfl,
   fM x aw.u av.i Ψ r.ls (x8 e)]
  refine⟨?_,a⟩;rw[u5,x8 e];rfl
def tt(aj t:Λ)(k c:Int)(cs:Λ):Λ:=match cp aj t 0 with
 |some n=>if cG c k then cs.set n.toNat c else cs
 |none=>cs
def Bq(aj t:Λ)(k c:Int):Int:=match cp aj t 0 with
 |some _=>if cG c k then 0 else 3
 |none=>3
theorem K4{g f:Nat}{t:Λ}{k c:Int}{cs:Λ}(h:dh w g f sv aj k cs)(C:aN .i64 w aT t):
  al v8 JE [Γ g,aT,Δ c] w λv I=>v=Δ (Bq aj t k c)/\af (λr=>r=f) w I/\dh I g f sv aj k (tt aj t k c cs):=by
 refine aB func200 ?_;refine(Bo h C).Y ?_;rintro _ U _ ⟨rfl,a⟩;have h1:=h.W a;obtain⟨⟨ba,gs,e,hm,j⟩,_,J,q⟩:=h1;unfold mg Bq tt;cases hi:cp aj t 0 with
 |none=>
  rw[bx,bz];simp only[bL,am];exact⟨λ_=>⟨trivial,a.V _,h.W a⟩,λh=>by simp at h⟩
 |some n=>
  obtain⟨P,Q⟩:=Bp J q hi;rw[bx,bz];simp only[bL,am];refine⟨λh=>ro rfl h,λ_=>?_⟩;rw[aK c5.p 1 e rfl];refine kU.Y ?_;rintro _ aa _ ⟨rfl,s⟩;have y:=(h.W a).W s;by_cases z:cG c k
  .simp only[z,decide_true,bM,X3,a6,if_true];obtain⟨⟨ba,gs,e,hm,j⟩,⟨E,A⟩,J,q⟩:=y;have R:=j;obtain⟨S,⟨rfl,W⟩|⟨cap,full,rfl,G,H,K,L,B⟩⟩:=j
   .omega
   .rw[aK c5.p 2 e rfl,
     A2 aw.u av.i Ω Ω (λ_=>rfl)]
    refine bt av.i rfl rfl G Ω ?_;intro X x Y M;refine⟨trivial,((a.F s).V _).F x,⟨_,gs,e.V x Ω,bA hm x (λr N O=>A.1 (O▸N)),?_⟩,⟨E,A⟩,J,by simp[q]⟩;refine⟨Ξ,.inr ⟨cap,full.set (0+n.toNat*1) (Δ c),?_,M,by simpa using H,K,by simpa using L,?_⟩⟩
    .simp
    .simp only[o7,X6,T0]at B ⊢;rw[List.take_set,B,ints,ints,T2]
  .simp only[z,decide_false,bM,W6,bQ,if_false];exact⟨trivial,(a.F s).V _,y⟩
def cH(b:Int):Bool:=decide (b=32\/b=9\/b=10\/b=13)
def bV(b:Int):Bool:=decide (33<=b/\b<=126)
def o2:Nat->Λ->List (Λ)×Bool
 |0,_=>([],v2)
 |n+1,p=>
  match p.dropWhile cH with
  |[]=>([],v2)
  |b::q=>
   if bV b then
    match(b::q).dropWhile bV with
    |[]=>([(b::q).takeWhile bV],v2)
    |c::r=>if cH c then(((b::q).takeWhile bV)::(o2 n (c::r)).1,(o2 n (c::r)).2)else([],v6)
   else([],v6)
def lex(p:Λ):List (Λ)×Bool:=o2 (p.length+1) p
theorem p9(f:Int->Bool):∀(l:Λ),(l.dropWhile f).length<=l.length
 |[]=>o4 _
 |x::l=>by
  rw[List.dropWhile_cons];split
  .exact X1 (p9 f l) (Nat.le_succ _)
  .exact o4 _
theorem tu{f:Int->Bool}{x:Int}(h:f x=v2):((x::l).dropWhile f).length<=l.length:=by
 rw[List.dropWhile_cons,ms h];exact p9 f l
theorem Br:∀{n m:Nat}{p:Λ},p.length<n->p.length<m->o2 n p=o2 m p
 |n+1,m+1,p,j,hm=>by
  unfold o2;have h1:=p9 cH p;cases f:p.dropWhile cH with
  |nil=>rfl
  |cons b q=>
   rw[f]at h1;simp only;by_cases a:bV b=v2
   .rw[ms a,ms a];have e:=tu (l:=q) a;cases h:(b::q).dropWhile bV with
    |nil=>rfl
    |cons c r=>
     rw[h]at e;simp only[Y0]at h1 e;simp only;rw[Br (n:=n) (m:=m) (p:=c::r) (by rw[Y0];omega) (by rw[Y0];omega)]
   .rw[rc a,rc a]
theorem lD(p:Λ):lex p=match p.dropWhile cH with
  |[]=>([],v2)
  |b::q=>
   if bV b then
    match(b::q).dropWhile bV with
    |[]=>([(b::q).takeWhile bV],v2)
    |c::r=>if cH c then(((b::q).takeWhile bV)::(lex (c::r)).1,(lex (c::r)).2)else([],v6)
   else([],v6):=by
 unfold lex
 conv=>lhs;unfold o2
 have h1:=p9 cH p;cases f:p.dropWhile cH with
 |nil=>rfl
 |cons b q=>
  rw[f]at h1;simp only;by_cases a:bV b=v2
  .rw[ms a,ms a];have e:=tu (l:=q) a;cases h:(b::q).dropWhile bV with
   |nil=>rfl
   |cons c r=>
    rw[h]at e;simp only[Y0]at h1 e;simp only;rw[Br (n:=p.length) (m:=(c::r).length+1) (p:=c::r) (by rw[Y0];omega) Ω]
  .rw[rc a,rc a]
theorem rg:∀(n:Nat)(p:Λ),p.length<=n->(lex p).1.length<=p.length
 |n,p,s=>by
  rw[lD];have h1:=p9 cH p;cases h:p.dropWhile cH with
  |nil=>simp
  |cons b q=>
   rw[h]at h1;simp only;by_cases a:bV b=v2
   .rw[ms a];have e:=tu (l:=q) a;cases j:(b::q).dropWhile bV with
    |nil=>simp only[Y0,List.length_nil]at h1 ⊢;omega
    |cons c r=>
     rw[j]at e;simp only[Y0]at h1 e;simp only;by_cases f:cH c=v2
     .rw[ms f]
      match n with
      |0=>omega
      |n+1=>
       have:=rg n (c::r) (by rw[Y0];omega);simp only[Y0]at this ⊢;omega
     .rw[rc f];simp
   .rw[rc a];simp
theorem tv:∀(n:Nat)(p:Λ),p.length<=n->∀w∈(lex p).1,w≠[]/\(∀b∈w,bV b=v2)/\w.length<=p.length
 |n,p,B,w,hw=>by
  rw[lD]at hw;have h1:=p9 cH p;cases e:p.dropWhile cH with
  |nil=>rw[e]at hw;simp at hw
  |cons b q=>
   rw[e]at h1 hw;simp only at hw;have z:(b::q).length<=p.length:=h1;by_cases a:bV b=v2
   .rw[ms a]at hw;have f:=tu (l:=q) a;have j:(b::q).takeWhile bV≠[]/\(∀x∈(b::q).takeWhile bV,bV x=v2)/\((b::q).takeWhile bV).length<=p.length:=
     ⟨by rw[List.takeWhile_cons,ms a];simp,λx A=>List.all_takeWhile |> List.all_eq_true.1 |> λh=>h x A,X1 (List.takeWhile_sublist _).length_le z⟩
    cases s:(b::q).dropWhile bV with
    |nil=>
     rw[s]at hw;simp only[b9]at hw;subst hw;exact j
    |cons c r=>
     rw[s]at f hw;simp only[Y0]at h1 f;simp only at hw;by_cases y:cH c=v2
     .rw[ms y]at hw;rcases V7.1 hw with rfl|hw
      .exact j
      .match n with
       |0=>omega
       |n+1=>
        have:=tv n (c::r) (by rw[Y0];omega) w hw;exact⟨this.1,this.2.1,X1 this.2.2 (by rw[Y0];omega)⟩
     .rw[rc y]at hw;simp at hw
   .rw[rc a]at hw;simp at hw
def ay:Int:=4611686018427387904
def gE(b:Int):Bool:=decide (48<=b/\b<=57)
def fb(n b:Int):Int:=min ay (10*n+(b-48))
def lE:Λ->Option Int
 |[]=>ν
 |l=>if l.all gE then σ (l.foldl fb 0)else ν
def gF:Λ->Option Int
 |45::l=>(lE l).map λn=>-n
 |l=>lE l
theorem K5{n b:Int}(e:0<=n)(a:gE b=v2):0<=fb n b/\fb n b<=ay:=by
 have a:=ty a;unfold fb ay;omega
theorem tw:∀{l:Λ}{n:Int},l.all gE=v2->0<=n/\n<=ay->0<=l.foldl fb n/\l.foldl fb n<=ay
 |[],n,_,a=>a
 |b::l,n,h,a=>by
  rw[List.all_cons,U9]at h;exact tw (l:=l) h.2 (K5 a.1 h.1)
structure aJ where
 hp:List (Λ)
 m5:Int
 big:Bool
 m6:List (Λ×List (Λ×Int))
deriving DecidableEq
def dV(s:aJ):Option (Λ×aJ):=match s.hp with
 |[]=>ν
 |w::l=>σ (w,{s with hp:=l})
def bl(lo hi:Int)(s:aJ):Option (Int×aJ):=match dV s with
 |none=>ν
 |some (w,s)=>match gF w with
  |none=>ν
  |some n=>if lo<=n/\n<=hi then σ (n,s)else ν
def bi(b:Bool)(s:aJ):aJ:={s with big:=s.big||b}
def cW{α:Type}(f:List α->aJ->Option (α×aJ)):Nat->List α->aJ->Option (List α×aJ)
 |0,acc,s=>σ (acc,s)
 |n+1,acc,s=>match f acc s with
  |none=>ν
  |some (a,s)=>cW f n (acc++[a]) s
def fc(n:Int)(a:Nat)(s:aJ):Option (Λ×aJ):=cW (λacc s=>match bl 0 (n-1) s with
 |none=>ν
 |some (v,s)=>if v∈acc then ν else σ (v,s)) a [] s
def kt:Λ->Λ->aJ->Option (Λ×aJ)
 |[],acc,s=>σ (acc,s)
 |k::l,acc,s=>match bl 0 (k-1) s with
  |none=>ν
  |some (v,s)=>kt l (acc++[v]) s
def eN(co:Λ)(acc:List (Λ×Int))(s:aJ):Option ((Λ×Int)×aJ):=match kt co [] s with
 |none=>ν
 |some (t,s)=>match bl 0 ay s with
  |none=>ν
  |some (c,s)=>if t∈acc.map (·.1)then ν else σ ((t,c),s)
def dW(co:Λ)(s:aJ):Option (List (Λ×Int)×aJ):=match bl (-ay) ay s with
 |none=>ν
 |some (n,s)=>
  if n<0 then match s.m6[(-n-1).toNat]? with
   |none=>ν
   |some (z,l)=>if z=co then σ (l,s)else ν
  else cW (eN co) n.toNat [] (bi (decide (16384<min (s.m5+n) ay)) {s with m5:=min (s.m5+n) ay})
def dy(co:Λ):Bool:=decide (4096<aQ (co.map λk=>min k 4097))
structure cE where
 scope:Λ
 co:Λ
 other:Int
 lines:List (Λ×Int)
deriving DecidableEq
def dp(all:Λ)(s:aJ):Option (cE×aJ):=match bl (-ay) ay s with
 |none=>ν
 |some (a,s)=>match fc all.length a.natAbs s with
  |none=>ν
  |some (scope,s)=>
   let co:=scope.map λv=>all.getD v.toNat 0
   match bl 0 ay (bi (decide (6<a.natAbs)||dy co) s)with
   |none=>ν
   |some (other,s)=>match dW co s with
    |none=>ν
    |some (lines,s)=>σ (⟨scope,co,other,lines⟩,if a<0 then{s with m6:=s.m6++[(co,lines)]}else s)
def gG(most:Int)(_:Λ)(s:aJ):Option (Int×aJ):=match bl 1 most s with
 |none=>ν
 |some (z,s)=>σ (z,bi (decide (32<z)) s)
structure b7 where
 name:Λ
 k:Int
 co:Λ
 d9:List cE
deriving DecidableEq
def jw(s:aJ):Option (b7×aJ):=match dV s with
 |none=>ν
 |some (name,s)=>match bl 1 ay (bi (decide (64<name.length)) s)with
  |none=>ν
  |some (n,s)=>match bl 1 ay (bi (decide (64<n)) s)with
   |none=>ν
   |some (most,s)=>match bl 0 ay s with
    |none=>ν
    |some (a,s)=>match bl 1 ay (bi (decide (256<a)) s)with
     |none=>ν
     |some (k,s)=>match cW (gG most) n.toNat [] (bi (decide (2147483648<k)) s)with
      |none=>ν
      |some (co,s)=>match cW (λ_ s=>dp co s) a.toNat [] s with
       |none=>ν
       |some (d9,s)=>σ (⟨name,k,co,d9⟩,s)
def gS(p:Λ):Option b7:=if 65536<p.length then ν else match jw ⟨(lex p).1,0,v6,[]⟩with
 |none=>ν
 |some (f,s)=>if s.hp=[]/\(lex p).2=v2/\s.big=v6 then σ f else ν
def nR(n:Int)(a:Bool)(v:Int):Prop:=0<=n/\n<=4611686018427387909/\(a=v2->v=ay)/\(a=v6->v=min ay n)
theorem K6{n b v:Int}{a:Bool}(h:nR n a v)(q:48<=b/\b<=57):
  nR (if a=v2\/461168601842738790<n then n else 10*n+(b-48)) (a||decide (461168601842738790<n)) (fb v b):=by
 obtain⟨h1,f,j,p⟩:=h;unfold fb nR ay at*;cases a with
 |true=>
  have:=j rfl;rw[ms (.inl rfl)];exact⟨h1,f,λ_=>Ω,λh=>by cases h⟩
 |false=>
  have:=p rfl;by_cases e:461168601842738790<n
  .rw[ms (.inr e),rs e];exact⟨h1,f,λ_=>Ω,λh=>by cases h⟩
  .rw[rc (by simp[e]),s2 e];exact⟨Ω,Ω,(λh=>by cases h),λ_=>Ω⟩
theorem K7:nR 0 v6 0:=by unfold nR ay;exact⟨Ω,Ω,(λh=>by cases h),λ_=>Ω⟩
theorem K8{n v:Int}{a:Bool}(h:nR n a v):v=if a=v2\/4611686018427387904<n then 4611686018427387904 else n:=by
 obtain⟨h1,p,f,j⟩:=h;unfold ay at*;cases a with
 |true=>rw[ms (.inl rfl)];exact f rfl
 |false=>
  have:=j rfl;by_cases e:4611686018427387904<n
  .rw[ms (.inr e)];omega
  .rw[rc (by simp[e])];omega
structure Cell where
 v:Int
 st:Nat
structure mi where
 i:Nat
 c:Cell
structure tx where
 olds:Nat
 cells:Nat
 st:Nat
structure az where
 cells:List Cell
 olds:List mi
 marks:List tx
 ku:Nat
def az.b1(t:az):Λ:=t.cells.map (·.v)
def az.set(t:az)(i:Nat)(x:Int):az:=match t.cells[i]? with
 |none=>t
 |some c=>match t.marks.getLast? with
  |none=>{t with cells:=t.cells.set i ⟨x,c.st⟩}
  |some m=>if c.st<m.st/\i<m.cells then{t with olds:=t.olds++[⟨i,c⟩],cells:=t.cells.set i ⟨x,m.st⟩}else{t with cells:=t.cells.set i ⟨x,c.st⟩}
def az.grow(t:az)(n:Nat):az:={t with cells:=t.cells++o6 n ⟨0,0⟩}
def back(os:List mi)(cs:List Cell):List Cell:=os.foldr (λo cs=>cs.set o.i o.c) cs
theorem rh:∀(os:List mi)(cs:List Cell),(back os cs).length=cs.length
 |[],_=>rfl
 |o::os,cs=>by
  have:=rh os cs;show((back os cs).set o.i o.c).length=_;rw[o7,this]
theorem back_append(a b:List mi)(cs:List Cell):back (a++b) cs=back a (back b cs):=by unfold back;rw[List.foldr_append]
theorem wK:∀{os:List mi}{cs:List Cell}{n:Nat},(back os cs).take n=back (os.filter λo=>decide (o.i<n)) (cs.take n)
 |[],cs,n=>rfl
 |o::os,cs,n=>by
  show((back os cs).set o.i o.c).take n=_;by_cases h:o.i<n
  .rw[List.filter_cons_of_pos (by simpa using h),List.take_set,wK];rfl
  .rw[List.filter_cons_of_neg (by simpa using h),List.take_set_of_le Ω,wK]
theorem Bs{os:List mi}{cs:List Cell}(h:∀o∈os,o.i<n):(back os cs).take n=back os (cs.take n):=by
 rw[wK,List.filter_eq_self.2 λo a=>by simpa using h o a]
theorem Bt:∀{os:List mi}{cs a:List Cell}{i:Nat},cs.length=a.length->(∃o∈os,o.i=i)->(back os cs)[i]?=(back os a)[i]?
 |[],_,_,_,_,⟨_,h,_⟩=>by cases h
 |o::os,cs,a,i,f,hm=>by
  show((back os cs).set o.i o.c)[i]?=((back os a).set o.i o.c)[i]?;rw[Y7,Y7];by_cases h:o.i=i
  .rw[ms h,ms h,rh,rh,f]
  .rw[rc h,rc h];obtain⟨x,e,he⟩:=hm;rcases V7.1 e with rfl|e
   .exact ro he h
   .exact Bt f ⟨x,e,he⟩
theorem Bu:∀{os:List mi}{cs a:List Cell}{i:Nat},cs[i]?=a[i]? ->cs.length=a.length->(back os cs)[i]?=(back os a)[i]?
 |[],_,_,_,h,_=>h
 |o::os,cs,a,i,h,e=>by
  show((back os cs).set o.i o.c)[i]?=((back os a).set o.i o.c)[i]?;rw[Y7,Y7,rh,rh,e,Bu h e]
def iA:az->List az->Prop
 |t,[]=>t.marks=[]/\t.olds=[]/\(∀c∈t.cells,c.st<=t.ku)/\t.ku<=1000000
 |t,s::h=>iA s h/\(∀c∈t.cells,c.st<=t.ku)/\∃m new,t.marks=s.marks++[m]/\m.olds=s.olds.length/\m.cells=s.cells.length/\t.olds=s.olds++new/\m.cells<=t.cells.length/\(back new t.cells).take m.cells=s.cells/\
   (∀c∈s.cells,c.st<m.st)/\(∀c∈t.cells,c.st<=m.st)/\(∀(i:Nat)c,i<m.cells->t.cells[i]?=σ c->c.st=m.st->∃o∈new,o.i=i)/\(∀o∈new,o.i<m.cells)/\m.st<=t.ku/\s.ku<=t.ku
theorem iA.grow{h:List az}{t:az}(hk:iA t h):iA (t.grow n) h:=by
 cases h with
 |nil=>
  refine⟨hk.1,hk.2.1,λc a=>?_,hk.2.2.2⟩;rcases j9.1 a with a|a
  .exact hk.2.2.1 c a
  .rw[(List.mem_replicate.1 a).2];exact W0 _
 |cons s h=>
  obtain⟨h1,j,m,new,p,q,a3,a4,a5,r,w,x,a9,e,y,z⟩:=hk;have f:∀{b:Nat},(∀c∈t.cells,c.st<=b)->∀c∈(t.grow n).cells,c.st<=b:=λA c a=>by
   rcases j9.1 a with a|a
   .exact A c a
   .rw[(List.mem_replicate.1 a).2];exact W0 _
  refine⟨h1,f j,m,new,p,q,a3,a4,by show m.cells<=(t.cells++_).length;rw[o9];omega,?_,w,f x,λi c hi a he=>?_,e,y,z⟩
  .show (back new (t.cells++_)).take m.cells=_;rw[Bs e,List.take_append_of_le_length a5,<-Bs e];exact r
  .have a:(t.cells++o6 n ⟨0,0⟩)[i]?=σ c:=a;rw[Y4 Ω]at a;exact a9 i c hi a he
theorem K9{s:az}{m:tx}{l:List tx}(h:l=s.marks++[m]):l.getLast? =σ m:=by rw[h,List.getLast?_concat]
theorem iA.set{h:List az}{t:az}{i:Nat}{x:Int}(hk:iA t h):iA (t.set i x) h:=by
 unfold az.set;cases q:t.cells[i]? with
 |none=>exact hk
 |some c=>
  have F:=(x6.1 q).1;have y:=x7 q;have r:∀{b st:Nat},(∀c∈t.cells,c.st<=b)->st<=b->∀d∈t.cells.set i ⟨x,st⟩,d.st<=b:=λM B d a=>by
   rcases W8 a with a|rfl
   .exact M d a
   .exact B
  cases h with
  |nil=>
   obtain⟨h1,w,G,N⟩:=hk;simp only[h1,List.getLast?_nil];exact⟨rfl,w,r G (G c y),N⟩
  |cons s h=>
   obtain⟨h1,w,m,new,C,H,a3,a4,a5,I,J,z,a9,K,E,L⟩:=hk;simp only[K9 C];by_cases A:c.st<m.st/\i<m.cells
   .rw[ms A];refine⟨h1,r w E,m,new++[⟨i,c⟩],C,H,a3,by show t.olds++_=_;rw[a4,T6],by show m.cells<=(t.cells.set i _).length;rw[o7];exact a5,?_,J,r z (o4 _),λj d e a he=>?_,λo p=>?_,E,L⟩
    .show (back (new++[⟨i,c⟩]) (t.cells.set i _)).take m.cells=_;rw[back_append];have:back [⟨i,c⟩] (t.cells.set i ⟨x,m.st⟩)=t.cells:=by
      show(t.cells.set i _).set i c=_;rw[List.set_set];refine X0 λj=>?_;rw[Y7];by_cases e:i=j
      .subst e;rw[ms rfl,ms F,q]
      .rw[rc e]
     rw[this];exact I
    .have a:(t.cells.set i ⟨x,m.st⟩)[j]?=σ d:=a;by_cases f:i=j
     .exact⟨⟨i,c⟩,Ξ,f⟩
     .rw[Y7,rc f]at a;obtain⟨o,p,he⟩:=a9 j d e a he;exact⟨o,List.mem_append_left _ p,he⟩
    .rcases j9.1 p with p|p
     .exact K o p
     .rw[b9.1 p];exact A.2
   .rw[rc A];refine⟨h1,r w (w c y),m,new,C,H,a3,a4,by show m.cells<=(t.cells.set i _).length;rw[o7];exact a5,?_,J,r z (z c y),λj d e a he=>?_,K,E,L⟩
    .rw[<-I];show(back new (t.cells.set i _)).take m.cells=_;refine X0 λj=>?_;by_cases e:j<m.cells
     .rw[Y6 e,Y6 e];by_cases f:i=j
      .subst f;have B:c.st=m.st:=by
        have:=z c y;have:¬c.st<m.st:=λau=>A ⟨au,e⟩;omega
       exact Bt (by rw[o7]) (a9 i c e q B)
      .exact Bu (by rw[Y7,rc f]) (by rw[o7])
     .rw[Y5 (by rw[o8];omega),Y5 (by rw[o8];omega)]
    .have a:(t.cells.set i ⟨x,c.st⟩)[j]?=σ d:=a;by_cases f:i=j
     .subst f;rw[Y7,ms rfl,ms F]at a;cases a;exact a9 i c e q he
     .rw[Y7,rc f]at a;exact a9 j d e a he
theorem az.ri{t:az}{i:Nat}{x:Int}:(t.set i x).b1=t.b1.set i x:=by
 unfold az.set az.b1;cases a:t.cells[i]? with
 |none=>rw[List.set_eq_of_length_le (by rw[r8];exact List.getElem?_eq_none_iff.1 a)]
 |some c=>
  simp only;cases t.marks.getLast? with
  |none=>simp only;rw[T2]
  |some m=>simp only;split<;>rw[T2]
theorem az.La{t:az}:(t.grow n).b1=t.b1++o6 n 0:=by
 unfold az.grow az.b1;rw[Z3,List.map_replicate]
end Go.Proofs.YtnhkbjhpbbobaaaGreatDoor
namespace Go.Vc
open Go Go.RowKit
section
variable{P:V3}{w:x5}{m:Bool}{S R:ah}
theorem tz{b k l:Nat}{low high:Option x4}(p:P.underlying t=σ (.slice e))(hi:aR P e k b z)(a:cc w k v n cs)(h1:nd low l)(q:ne high n h)(f:l<=h)(au:h<=n)(r:∀j,cc w k j (h-l) ((cs.drop (l*k)).take ((h-l)*k))->K j):
  ab P (U4 t v low high ν) w K:=by
 have s:=a;obtain⟨_,x,o,base,cap,rfl,y,_⟩:=a;rw[ig p hi h1 q fh f Ω (o4 _)];exact r _ (cc.part s f au Ω (o4 _))
theorem Lb{b i:Nat}(j:y=(i:Int))(p:P.underlying t=σ (.slice e))(hi:aR P e 1 b z)(h:aN k w v l)(q:i<=l.length)(r:∀a,aN k w a (l.drop i)->K a):ab P (U4 t v (σ (.int f y)) ν ν) w K:=by
 refine tz p hi h (oS i y j) kR q (o4 _) λa aW=>r a (aN.of (n:=l.length-i) ?_);have s:((ints k l).drop (i*1)).take ((l.length-i)*1)=ints k (l.drop i):=by
  rw[Z0 Ξ,T0,ints,<-List.map_drop]
 rw[s]at aW;exact aW
theorem Lc{b i:Nat}(j:y=(i:Int))(p:P.underlying t=σ (.slice e))(hi:aR P e 1 b z)(h:aN k w v l)(q:i<=l.length)(r:∀a,aN k w a (l.take i)->K a):ab P (U4 t v ν (σ (.int f y)) ν) w K:=by
 refine tz p hi h jW (oT i y j) (W0 _) q λa aW=>r a (aN.of (n:=i) ?_);have s:((ints k l).drop (0*1)).take ((i-0)*1)=ints k (l.take i):=by
  simp[ints,List.map_take]
 rw[s]at aW;exact aW
theorem Bv{b:Nat}{parts:Array (Nat×x4)}{K:x4->x5->Prop}(a:P.underlying t=σ (.slice e))(hi:aR P e 1 b (Δ 0))(x:n<=100000)(f:l.length=n)(h:Instr.fill (λj=>σ (j*1,1)) ((Array.range (n*1)).map ((if n*1=0 then#[]else(U3 .i64 0).cells)[·% (if n*1=0 then#[]else(U3 .i64 0).cells).size]!)) parts.toList=σ (ints .i64 l).toArray)(p:∀v g I,g=w.heap.size->Ext w I->aA .i64 e I g v l->K v I):aF P (X2 t n parts) w K:=
 kS a hi Ω h λg I q r s=>p _ g I q r (aA.of (b0.full (by simpa using s) (by simp[f]) (by simp[maxLen];omega)))
end
section
variable{P:V3}{w:x5}
theorem Ld{h p:o5}{q kn:j0}{b k cap:Nat}{base:Option Addr}{K:x4->x5->Prop}(x:y=(k:Int))(A:P.underlying t=σ (.slice e))(B:P.underlying h=σ (.int kn))(hi:aR P e 1 b z)(C:z.cells= #[z])(J:cc w 1 (.slice base n cap) n xs)(E:0<k)(r:cap<n+k)(F:(n+k)*b<=140737488355328)(G:n+k<=9223372036854775807)(H:∀v g I,g=w.heap.size->Ext w I->b0 I g e 1 v (n+k) (xs++o6 k z)->K v I):aF P (Z9 #[t,h] p #[.slice base n cap,.int q y]) w K:=by
 subst x;obtain⟨i,hi,L,rfl,M⟩:=hi;obtain⟨f,X,o,Y,Z,he,N,aa,O,Q⟩:=J;cases he;have R:(Y1.firstCells i.size n (.slice base n cap)).run P w.drew= .ok xs.toArray w.drew:=by
  rcases Q8 n with rfl|S
  .have:xs=[]:=Z5 (by simpa using f);subst this;cases base with
   |none=>exact run_firstCells_none w.drew i.size 0 0 cap
   |some a=>exact run_firstCells_some w.drew i.size 0 a 0 cap [] Ξ Ξ
  .have:=O S;subst this;refine run_firstCells_some w.drew i.size n _ n cap xs (by rw[L];exact f) λj u hu=>?_;rw[T9];exact Q j u hu
 have T:k*i.bytes<=281474976710656:=by
  have:k*i.bytes<=(n+k)*i.bytes:=X4 _ Ω;omega
 have U:=Lib.run_append_grow_zeros (P:=P) w t h p e i z q kn A B hi M base n cap xs R k E Ω r Ω T (growslice_fits r F);have V:n+k<=grownCap w (n+k) cap e:=grownCap_ge w _ _ _;have W:grownCap w (n+k) cap e<=maxLen:=grownCap_le_maxLen w (n+k) cap e (by simpa[maxLen]using G);have s:∀m,Y1.zeroCells z.cells m=(o6 m z).toArray:=λm=>by
  rw[C];apply Array.ext
  .simp[size_zeroCells]
  .intro j h1 N;simp[Y1.zeroCells,Nat.mod_one]
 refine .of U ((qN w _ (Nat.le_succ _)).F (qP _ _)) (H _ w.heap.size _ rfl ((sG w _).F (qO _ _)) ⟨by simp at f;simp[f],.inr ⟨_,xs++o6 k z++o6 (grownCap w (n+k) cap e-(n+k)) z,rfl,?_,V,W,?_,?_⟩⟩)
 .rw[s,s];have:=heap_alloc_new w.drew (.cells (xs.toArray++(o6 k z).toArray++(o6 (grownCap w (n+k) cap e-(n+k)) z).toArray) e);rw[List.append_toArray,List.append_toArray]at this ⊢;exact this
 .simp at f;simp[f];omega
 .simp at f;rw[List.take_append_of_le_length (by simp[f]),Z0 (by simp[f])]
theorem Bw{a:o5}{base:Option Addr}(f:P.underlying t=σ (.slice e)):
  ab P (Y1.cap_ #[t] a #[.slice base n c]) w K=K (Δ c):=ab.of λI _=>by simp[Y1.cap_,run_underlying f,goInt]
theorem Le{g o k:Nat}(h:ag w g e cs)(hk:o+k<=cs.length)(f:k<=c)(p:c<=maxLen):cc w 1 (.slice (σ ⟨g,o,ν⟩) k c) k ((cs.drop o).take k):=by
 refine⟨Θ,g,o,_,c,rfl,f,p,λ_=>rfl,λj v a=>?_⟩;have q:=(x6.1 a).1;simp at q;rw[Y6 Ω,R3]at a;exact h.cell a
theorem Bx{h p:o5}{q g o cap:Nat}{K:x4->x5->Prop}(s:P.underlying t=σ (.slice e))(hi:aR P e 1 q z)(x:z.cells= #[z])(h1:z.oneCell'=v2)(a:ag w g p cs)(y:0<n)(F:o+n<=cs.length)(A:∀I,af (λr=>r=g) w I->I.heap.size=w.heap.size->ag I g p (over cs o (o6 n z))->K (.tuple #[]) I):aF P (Y1.clear_ #[t] h #[.slice (σ ⟨g,o,ν⟩) n cap]) w K:=by
 obtain⟨i,hi,G,rfl,B⟩:=hi;have C:=Lib.run_clear_slice (P:=P) w t e h z s (λw=>by simp[zeroValue,typeInfo,hi,B]) x h1 g o n cap y
  (λj H=>by rw[a.cell (x8 (show o+j<cs.length by omega))];rfl) (λj _=>a.frozen _ _)
 obtain⟨E,f⟩:=oW (o6 n z) cs o w a;exact .of C (f.cB a) (A _ f.V f.size E)
end
section
variable{P:V3}{w:x5}
theorem iY{a:o5}{i b g:Nat}(j:y=(i:Int))(p:P.underlying t=σ (.slice e))(hi:aR P e 1 b z)(h:aA k a w g v l)(q:i<l.length):ab P (c9 t v (.int f y)) w K=K (.pointer (σ ⟨g,i,ν⟩)):=by
 subst j;obtain⟨_,⟨_,r⟩|⟨cap,cs,rfl,_⟩⟩:=h
 .omega
 .rw[eS p hi q (λ_=>rfl)];simp
theorem rj{i b:Nat}{x:Int}(j:y=(i:Int))(p:P.underlying t=σ (.slice e))(hi:aR P e 1 b z)(h:aN k w v l)(a:l[i]?=σ x)(q:∀b o,w.cell? ⟨b,o,ν⟩=σ (.int k x)->K (.pointer (σ ⟨b,o,ν⟩))):ab P (c9 t v (.int f y)) w K:=by
 subst j;have r:=(x6.1 a).1;obtain⟨_,_,_,_,_,rfl,_,_,s,A⟩:=h;rw[eS p hi r s,T0];exact q _ _ (A i _ (mc a))
theorem iZ{a:o5}{i b g:Nat}{x:Int}{K:Unit->x5->Prop}(hi:aR P e 1 b z)(h:aA k a w g v l)(E:i<l.length)(p:∀I,af (λr=>r=g) w I->I.heap.size=w.heap.size->aA k a I g v (l.set i x)->K () I):aF P (l9 e (.pointer (σ ⟨g,i,ν⟩)) (.int k x)) w K:=by
 obtain⟨F,⟨_,G⟩|⟨cap,full,rfl,q,s,y,f,j⟩⟩:=h
 .omega
 .have A:i<full.length:=by simp at f;omega
  refine bt hi rfl rfl q A λI B J C=>p I B J ⟨Ξ,.inr ⟨cap,full.set i (.int k x),Ξ,C,by simpa using s,y,by simpa using f,?_⟩⟩;simp only[o7,T0]at j ⊢;rw[List.take_set,j,ints,ints,T2]
theorem tA{b o:Nat}(a:kQ P t=v2)(h:w.cell? ⟨b,o,ν⟩=σ v):b2 P (u6 t (.pointer (σ ⟨b,o,ν⟩))) v w:=λI e=>by
 have aW:=jU e h;unfold kQ at a;cases hu:P.underlying t with
 |none=>rw[hu]at a;cases a
 |some d=>
  rw[hu]at a;cases d<;>first|(cases a;done)|simp[u6,Instr.sureAddr,loadVar,isAgg,run_underlying hu,aW]
theorem i7{S:ah}(h:aN k w v l)(p:af S w I)(q:∀r,S r->∀a n c,v= .slice (σ a) n c->a.block≠r):aN k I v l:=by
 obtain⟨h1,b,o,base,cap,rfl,s,x,e,y⟩:=h;refine⟨h1,b,o,base,cap,rfl,s,x,e,?_⟩;rcases Q8 l.length with f|f
 .intro j u hu;have:=(x6.1 hu).1;simp at this;omega
 .have z:=e f;subst z;exact iz p (λh=>q _ h _ _ _ rfl rfl) y
end
end Go.Vc
namespace Go.Vc
open Go Go.RowKit Go.ChangeShapes Go.WideShapes
structure nS(P:V3)(t:o5)(α:Type)[an α](G:α->Prop):Prop where
 op:∀{H:Type}{enc:o5×x4->H}{w:x5}{base:Nat}{spare:Nat->Bool}{held:Bool}{fuel:Nat}{cs:List x4}{x:DataW H×List MemPlace},
  DataW.trod enc P w base spare held fuel t cs=σ x->∃a:α,Seen fj w cs a/\G a
section
variable{P:V3}{α β:Type}[an α][an β]
theorem By{n:Int}(h:(Lit.int k n).wf=v2):k.min<=n/\n<=k.max:=by simpa[Lit.wf]using h
theorem Lf(a:P.underlying t=σ (.int k)):nS P t (nh k) λn=>k.min<=n.val/\n.val<=k.max:=⟨λh=>by
 obtain⟨n,rfl,_,hw⟩:=DataW.trod_int a h;exact⟨(n:Int),rfl,By hw⟩⟩
theorem tB(a:P.underlying t=σ (.int .i64)):nS P t Int λn=>W5.min<=n/\n<=W5.max:=⟨λh=>by
 obtain⟨n,rfl,_,hw⟩:=DataW.trod_int a h;exact⟨n,rfl,By hw⟩⟩
theorem Lg(a:Addr)(m n:Nat):(a.add m).add n=a.add (m+n):=by
 unfold Addr.add;by_cases hm:m=0<;>by_cases e:n=0<;>simp[hm,e,Q3]
theorem Lh{base:Nat}{a:Addr}(h:w.cells? base a n=σ cs):cs.length=n/\∀j v,cs[j]?=σ v->w.cell? (a.add j)=σ v:=by
 unfold x5.cells? at h;split at h
 .have f:cs.length=n:=by
   have:=mapM_some_length h;simpa using this
  refine⟨f,λj v e=>?_⟩;have p:=(x6.1 e).1;have:=mapM_some_get h j j (List.getElem?_range Ω);rw[this,e]
 .cases h
theorem Li{G:α->Prop}(M:P.underlying t=σ (.slice e))(he:nS P e α G)(N:P.cellsOf e=an.n α)(V:0<an.n α):nS P t (List α) λl=>∀a∈l,G a:=by
 constructor;intro H enc w base W X fuel cs x h;rcases DataW.trod_slice M h with⟨rfl,_⟩|⟨a,len,cap,Y,rest,n,_,rfl,rfl,Z,aa,hm,ab,O,_,_⟩
 .exact⟨[],gh,λ_ h=>by cases h⟩
 .
  have K:∀i,i<len->∃(c:List x4)(y:α),c.length=an.n α/\(∀j v,c[j]?=σ v->w.cell? (a.add (i*an.n α+j))=σ v)/\Seen fj w c y/\G y:=by
   intro i hi;have h1:=O i hi;rw[x8 Ω,N,Option.bind_eq_some_iff]at h1;obtain⟨c,r,s⟩:=h1;obtain⟨B,C⟩:=Lh r;obtain⟨y,E,Q⟩:=he.op s;exact⟨c,y,B,λj v q=>by have:=C j v q;rwa [Lg]at this,E,Q⟩
  have all:∀m,m<=len->∃(vs:List (List x4))(l:List α),vs.length=m/\l.length=m/\(∀c∈vs,c.length=an.n α)/\(∀(j:Nat)(v:x4),vs.flatten[j]?=σ v->w.cell? (a.add j)=σ v)/\
    (∀(i:Nat)(c:List x4)(y:α),vs[i]?=σ c->l[i]?=σ y->Seen fj w c y)/\∀y∈l,G y:=by
   intro m;induction m with
   |zero=>exact λ_=>⟨[],[],rfl,rfl,(λ_ h=>by cases h),(λj v h=>by simp at h),(λi c y h=>by simp at h),(λ_ h=>by cases h)⟩
   |succ m R=>
    intro hm;obtain⟨vs,l,h1,r,s,B,C,E⟩:=R Ω;obtain⟨c,y,g1,F,S,T⟩:=K m Ω;refine⟨vs++[c],l++[y],by simp[h1],by simp[r],λd f=>?_,λj v q=>?_,λi d z f p=>?_,λz p=>?_⟩
    .rcases j9.1 f with f|f
     .exact s d f
     .simp at f;subst f;exact g1
    .have A:=re s;rw[h1]at A;rw[List.flatten_append]at q;by_cases U:j<m*an.n α
     .rw[Y4 Ω]at q;exact B j v q
     .rw[Z7 Ω,A]at q;simp at q;have:=F _ v q;rwa [show m*an.n α+(j-m*an.n α)=j by omega]at this
    .by_cases hi:i<m
     .rw[Y4 Ω]at f p;exact C i d z f p
     .have I:=(x6.1 f).1;simp[h1]at I;have I:i=m:=Ω
      subst I;rw[Z7 Ω,h1]at f;rw[Z7 Ω,r]at p;simp at f p;subst f p;exact S
    .rcases j9.1 p with p|p
     .exact E z p
     .simp at p;subst p;exact T
  obtain⟨vs,l,h1,r,s,B,C,E⟩:=all len (o4 _);have A:=re s;rw[h1]at A;have L:0<len->a=⟨a.block,a.off,ν⟩:=λJ=>by
   obtain⟨c,y,g1,F,_⟩:=K 0 Ω;have:=F 0 c[0] (x8 Ω);rw[Nat.zero_mul]at this;exact wE this
  refine⟨l,⟨_,rfl,vs,0,λ_ _=>False,⟨λ_ _ h=>h.elim,(λh=>by cases h),(λh=>by cases h)⟩,⟨Ω,C⟩,⟨by rw[A,r],a.block,a.off,σ a,cap,by rw[r],Ω,hm,λJ=>congrArg σ (L Ω),λ_=>.inr trivial,λj v q=>?_⟩,λh=>by cases h⟩,E⟩;have:=B j v q;have U:=(x6.1 q).1;have J:0<len:=by
   rcases Q8 len with h|h
   .rw[h,Nat.zero_mul]at A;omega
   .exact h
  rw[L J,T9]at this;exact this
structure tC(P:V3)(fs:List Field)(off:Nat)(α:Type)[an α](G:α->Prop):Prop where
 op:∀{H:Type}{enc:o5×x4->H}{w:x5}{base:Nat}{spare:Nat->Bool}{held:Bool}{n:Nat}{cs:List x4},cs.length=off+an.n α->
  (∀f∈fs,∃x,DataW.trod enc P w base spare held n f.type ((cs.drop f.offset).take (P.cellsOf f.type))=σ x)->∃a:α,Seen fj w (cs.drop off) a/\G a
theorem Lj{f:Field}{e:Nat}{G:α->Prop}(h:nS P f.type α G)(j:f.offset=e)(p:P.cellsOf f.type=an.n α):tC P [f] e α G:=by
 constructor;intro H enc w base y z n cs A q;obtain⟨x,r⟩:=q f (.head _);obtain⟨a,h1,s⟩:=h.op r;rw[j,p,Z0 Θ]at h1;exact⟨a,h1,s⟩
theorem tD{f:Field}{j:List Field}{e:Nat}{G:α->Prop}{q:β->Prop}(h:nS P f.type α G)(s:f.offset=e)(y:P.cellsOf f.type=an.n α)(z:tC P j (e+an.n α) β q):
  tC P (f::j) e (α×β) λp=>G p.1/\q p.2:=by
 constructor;intro H enc w base I J n cs K r;obtain⟨x,A⟩:=r f (.head _);obtain⟨a,h1,B⟩:=h.op A;rw[s,y]at h1;have L:an.n (α×β)=an.n α+an.n β:=rfl;obtain⟨b,C,E⟩:=z.op Ω λg F=>r g (.tail _ F);refine⟨(a,b),⟨(cs.drop e).take (an.n α),cs.drop (e+an.n α),λ_=>False,λ_=>False,?_,λ_ h=>h,λ_ h=>h,(λh=>by cases h),h1,C⟩,B,E⟩;rw[<-List.drop_drop,List.take_append_drop]
theorem Lk{a:List Field}{G:α->Prop}(e:P.underlying t=σ (.struct a.toArray))(j:tC P a 0 α G)(y:P.cellsOf t=an.n α):nS P t α G:=by
 constructor;intro H enc w base z A fuel cs x h;obtain⟨xs,n,_,rfl,B,p,q⟩:=DataW.trod_struct e h;have:=j.op (cs:=cs) Ω λf r=>by
  obtain⟨i,hi,rfl⟩:=List.mem_iff_getElem.1 r;have s:i<xs.length:=by simpa[p]using hi
  have:=q i a[i] (by simp[hi]);rw[x8 s]at this;exact⟨_,this⟩
 simpa using this
end
end Go.Vc
