/- own texts, made small by a tool (wip/ holds them as they were written): no statement of the seat. -/
import Derived.RangeFuncNested
import Derived.RangeFuncLeaves
import Derived.OrdersIn
import Derived.KernelRfl
import Derived.Deep.Upon
import Derived.RangeFuncBound
import Derived.Deep.MidRow
import Derived.Laws.Cover3
import Derived.Laws.Pointers
import Derived.Laws.StructEq
import Derived.Laws.Tables
import Derived.Below
import Derived.Laws.MakeOwn
import Derived.Lib.Overlaps
import Derived.Lib.AppendZerosOnto
import Derived.Lib.SliceRun
import Derived.OpenShut
import Derived.Lib.ConvBytes
import Derived.Laws.BytesArg
import Derived.Laws.Concat
import Derived.MapKept
import Derived.Carry
import Derived.WideKeyArr
import Derived.WideKeyMaps
import Derived.Laws.IdiomRangeMap
import Derived.Shelf.SlSortCmp.NoneTotal
import Derived.Shelf.SlSortCmp.WholeK
import Derived.Ground.SlsfProg
import Derived.WideKeyEntry
import Derived.WalkKit
import Derived.Test.YtikkpokkcdocoabGreatDoorProg
import Derived.Test.YtikkpokkcdocoabGreatDoorChecked
set_option linter.defProp false
set_option linter.unusedVariables false
set_option linter.unusedSimpArgs false
set_option linter.unnecessarySimpa false
open Array renaming getElem?_eq_some_iff→j4,getElem?_toList→S9
open BitVec renaming ofInt→T0
open Bool renaming not_true→Y7,not_false→W3,and_eq_true→V5,or_eq_false_iff→S8
open Decidable renaming not_not→Z9
open Go renaming Value→x1,World→x3,TypeId→p9,IntKind→o7,Builtin→Z3,Program→W8,Oper→T3,Operand→S4,FuncId→R7
open Go.Addr renaming add_mid→U9
open Go.Builtin renaming append_→Z0,len_→V0
open Go.Instr renaming loadAt→u5,fieldAt→u6,storeAt→o8,indexAt→j9,extract→Y0,buildSlice→Y5,sliceAt→V9,alloc→Q1
open Go.IntKind renaming i64→X6,u64→U6
open Go.Proofs.Tryz renaming prog→x7
open Go.Result renaming andThen→W7
open Go.Sem renaming run_bind→W5,run_pure→V3
open Go.Sort renaming Holds→S7
open Go.Value renaming int→V6
open Go.World renaming putObj_heap_other→Q0
open Int renaming toNat_natCast→u7,eq_ofNat_of_zero_le→X7
open List renaming getElem?_eq_some_iff→x4,mem_of_getElem?→x5,getElem?_eq_getElem→x6,getElem?_map→x8,getD_eq_getElem?_getD→u4,take_add_one→u9,length_map→r8,length_append→r9,replicate→p8,mem_append→o5,take_length→o6,mem_singleton→o9,length_take→l9,mem_map→j5,eq_nil_of_length_eq_zero→j6,getElem?_set_self→c8,length_set→c9,length_cons→b6,take_of_length_le→b8,getElem?_eq_none→Z2,map_append→Z4,getElem?_take_of_lt→Z7,range→Y1,getElem?_set_ne→Y2,ext_getElem?→Y4,getElem?_append_left→Y6,getElem?_append_right→Y8,getElem?_set→X0,drop_eq_getElem_cons→X4,mem_or_eq_of_mem_set→W0,append_nil→W6,length_eq_one_iff→W9,append_assoc→V1,mem_cons→V2,map_set→U5,map_cons→U7,foldl_cons→T5,set_append_right→T7,mem_range→T8,mem_of_mem_take→T9,getElem_mem→S3,mem_flatMap→R2
open Nat renaming le_refl→o4,le_trans→Y9,zero_add→X2,zero_le→X5,mul_le_mul_right→X9,mul_one→U2,add_mul→U3,sub_self→U4,beq→S0,add_assoc→R4,lt_of_lt_of_le→Q2,eq_zero_or_pos→Q3
open Option renaming toList_some→n9,isNone_some→Z5,map_some→Z6,getD_some→V4,map→V7
open Option.some renaming inj→b9,injEq→Y3
open Prod.mk renaming injEq→T1
set_option maxHeartbeats 16000000
open Option renaming some→σ,none→ν
abbrev Λ:=List Int
namespace Go
theorem T{α:Sort _}{a:α}:a=a:=rfl
abbrev World.z(w:World):Nat:=w.heap.size
def Ω{p:Prop}(h:p:=by omega):p:=h
def Ψ{p:Prop}(h:p:=by kernel_rfl):p:=h
def Φ{p:Prop}(h:p:=by decide):p:=h
def Ξ{p:Prop}(h:p:=by simp):p:=h
def Θ{p:Prop}(h:p:=by simp;omega):p:=h
abbrev Γ(n:Nat):Value:=.pointer (some ⟨n,0,none⟩)
abbrev Δ:Int→Value:=Value.int .i64
end Go
variable{a y:Int}{c h j n off:Nat}{w w':x3}{S:Nat->Prop}{aM f s1 sv v z:x1}{args cs vs xs:List x1}{K:x1->Prop}{aj l:Λ}{D:List Nat}{k:o7}{e t:p9}{cx cy:Bool}
namespace Go.Vc
open Go Go.RowKit
def fH:Obj->Bool
 | .loop _=>false
 | .deferred _=>false
 | .mapIter ..=>false
 |_=>true
def book:Obj->Bool
 | .loop _=>true
 | .deferred _=>true
 |_=>false
def yH{o:Obj}(h:book o=true):fH o=false:=by cases o<;>first|rfl|cases h
def r5:Obj->Bool
 | .mapIter ..=>true
 |_=>false
def FX{o:Obj}(h:r5 o=true):fH o=false:=by cases o<;>first|rfl|cases h
structure Ext(w w':x3):Prop where
 size:w.heap.size<=w'.heap.size
 a6:∀(r:Nat)(o:Obj),w.heap[r]?=σ o->fH o=true->w'.heap[r]?=σ o
def Ext.refl(w:x3):Ext w w:=⟨o4 _,λ_ _ h _=>h⟩
def Ext.trans{a b c:x3}(h:Ext a b)(k:Ext b c):Ext a c:=
 ⟨Y9 h.size k.size,λr o e U=>k.a6 r o (h.a6 r o e U) U⟩
structure ai(S:Nat->Prop)(w w':x3):Prop where
 size:w.heap.size<=w'.heap.size
 a6:∀(r:Nat)(o:Obj),w.heap[r]?=σ o->fH o=true->¬S r->w'.heap[r]?=σ o
def Ext.ab(S:Nat->Prop)(h:Ext w w'):ai S w w':=⟨h.size,λr o a U _=>h.a6 r o a U⟩
def ai.ext(h:ai S w w')(e:∀r,r<w.heap.size->¬S r):Ext w w':=
 ⟨h.size,λr o a U=>h.a6 r o a U (e r (j4.1 a).1)⟩
def ai.refl(S:Nat->Prop)(w:x3):ai S w w:=⟨o4 _,λ_ _ h _ _=>h⟩
def ai.trans{a b c:x3}(h:ai S a b)(k:ai S b c):ai S a c:=
 ⟨Y9 h.size k.size,λr o f U e=>k.a6 r o (h.a6 r o f U e) U e⟩
def ai.mono{T:Nat->Prop}{a b:x3}(h:ai S a b)(f:∀r,r<a.heap.size->S r->T r):ai T a b:=
 ⟨h.size,λr o e U p=>h.a6 r o e U λq=>p (f r (j4.1 e).1 q)⟩
def Ext.then{a b c:x3}(h:Ext a b)(k:ai S b c)(f:∀r,r<a.heap.size->¬S r):Ext a c:=
 ⟨Y9 h.size k.size,λr o e U=>k.a6 r o (h.a6 r o e U) U (f r (j4.1 e).1)⟩
def jS(w w':x3):Prop:=w'.tape=w.tape/\w.drawn<=w'.drawn
def jS.kv(h:w'.tape=w.tape:=by rfl)(k:w'.drawn=w.drawn:=by rfl):jS w w':=⟨h,Nat.le_of_eq k.symm⟩
def jS.trans{a b c:x3}(k:jS b c)(h:jS a b):jS a c:=⟨k.1.trans h.1,Y9 h.2 k.2⟩
structure cM(w w':x3):Prop where
 os:w'.os=w.os
 tape:jS w w'
 output:w'.output=w.output
 size:w.heap.size<=w'.heap.size
 a6:∀(r:Nat)(o:Obj),w.heap[r]?=σ o->fH o=false->w'.heap[r]?=σ o
structure cC(n:Nat)(w w':x3):Prop where
 os:w'.os=w.os
 tape:jS w w'
 output:w'.output=w.output
 size:w.heap.size<=w'.heap.size
 a6:∀(r:Nat)(o:Obj),w.heap[r]?=σ o->book o=true->w'.heap[r]?=σ o
 old:∀(r:Nat)(o:Obj),r<n->w.heap[r]?=σ o->fH o=false->w'.heap[r]?=σ o
def cM.b(h:cM w w'):cC n w w':=⟨h.os,h.tape,h.output,h.size,λr o a U=>h.a6 r o a (yH U),λr o _ a U=>h.a6 r o a U⟩
def cC.refl(n:Nat)(w:x3):cC n w w:=⟨T,.kv,T,o4 _,λ_ _ h _=>h,λ_ _ _ h _=>h⟩
def cC.trans{a b c:x3}(h:cC n a b)(k:cC n b c):cC n a c:=
 ⟨k.os.trans h.os,k.tape.trans h.tape,k.output.trans h.output,Y9 h.size k.size,λr o e U=>k.a6 r o (h.a6 r o e U) U,λr o f e U=>k.old r o f (h.old r o f e U) U⟩
def cC.cw(h:cC n w w')(e:w.heap.size<=n):cM w w':=
 ⟨h.os,h.tape,h.output,h.size,λr o a U=>h.old r o (Q2 (j4.1 a).1 e) a U⟩
structure fI(n:Nat)(w w':x3):Prop where
 os:w'.os=w.os
 tape:jS w w'
 output:w'.output=w.output
 size:w.heap.size<=w'.heap.size
 old:∀(r:Nat)(o:Obj),r<n->w.heap[r]?=σ o->fH o=false->w'.heap[r]?=σ o
def cC.o(h:cC n w w'):fI n w w':=⟨h.os,h.tape,h.output,h.size,h.old⟩
theorem cM.o(h:cM w w'):fI n w w':=⟨h.os,h.tape,h.output,h.size,λr o _ a U=>h.a6 r o a U⟩
def fI.mono{m:Nat}(h:fI n w w')(hm:m<=n):fI m w w':=⟨h.os,h.tape,h.output,h.size,λr o a=>h.old r o (Q2 a hm)⟩
def cC.yI{m:Nat}{a b c:x3}(h:cC n a b)(k:fI m b c)(hm:a.heap.size<=m):cC n a c:=
 ⟨k.os.trans h.os,k.tape.trans h.tape,k.output.trans h.output,Y9 h.size k.size,
  λr o e U=>k.old r o (Q2 (j4.1 e).1 hm) (h.a6 r o e U) (yH U),
  λr o f e U=>k.old r o (Q2 (j4.1 e).1 hm) (h.old r o f e U) U⟩
def e4(w w':x3):Prop:=∀(r:Nat)(o:Obj),w.heap[r]?=σ o->r5 o=true->w'.heap[r]?=σ o
def e4.refl(w:x3):e4 w w:=λ_ _ h _=>h
def e4.trans{a b c:x3}(h:e4 a b)(k:e4 b c):e4 a c:=λr o e U=>k r o (h r o e U) U
def cM.kw(h:cM w w'):e4 w w':=λr o a U=>h.a6 r o a (FX U)
abbrev fJ:=Bool×Nat
def cM.refl(w:x3):cM w w:=⟨T,.kv,T,o4 _,λ_ _ h _=>h⟩
def cM.trans{a b c:x3}(h:cM a b)(k:cM b c):cM a c:=
 ⟨k.os.trans h.os,k.tape.trans h.tape,k.output.trans h.output,Y9 h.size k.size,λr o e U=>k.a6 r o (h.a6 r o e U) U⟩
def r6(w:x3)(n:Nat):Ext w {w with drawn:=n}:=⟨o4 _,λ_ _ h _=>h⟩
def qk(w:x3)(n:Nat)(h:w.drawn<=n):cM w {w with drawn:=n}:=⟨T,⟨T,h⟩,T,o4 _,λ_ _ h _=>h⟩
def ql(w:x3)(o:Obj):Ext w {w with heap:=w.heap.push o}:=
 ⟨Ξ,λr o' h _=>by
  have:=(j4.1 h).1;simp only[Array.getElem?_push];rw[if_neg Ω];exact h⟩
def qm(w:x3)(o:Obj):cM w {w with heap:=w.heap.push o}:=
 ⟨T,.kv,T,Ξ,λr o' h _=>by
  have:=(j4.1 h).1;simp only[Array.getElem?_push];rw[if_neg Ω];exact h⟩
inductive eA where
 |v (x:x1)
 |b (c:Bool)
 |u
def eA.val:eA->x1
 | .v x=>x
 | .b c=>.bool c
 | .u=>undef
def eA.ofConst:x1->eA
 | .bool c=>.b c
 |x=>.v x
def eA.FY(x:x1):(eA.ofConst x).val=x:=by cases x<;>rfl
abbrev Env:=List (Nat×eA)
def look:Env->Nat->Option eA
 |[],_=>ν
 |(s,x)::r,t=>bif S0 s t then σ x else look r t
def eK(e:Env):S4->Option eA
 | .tmp t=>look e t
 | .const x=>σ (eA.ofConst x)
 | .global g=>σ (.v (Γ g))
 | .func f=>σ (.v (.func (.func f) #[] #[]))
def cT(e:Env)(x:S4):x1:=
 match eK e x with
 |some y=>y.val
 |none=>undef
def known(e:Env):List S4->Bool
 |[]=>true
 |x::r=>(eK e x).isSome&&known e r
def S7(N:Nat)(e:Env)(a:Act):Prop:=
 a.tmps.size=N/\∀t x,look e t=σ x->a.tmps.getD t undef=x.val
def S7.eK{N:Nat}{e:Env}{a:Act}(h:S7 N e a){x:S4}{y:eA}(J:Vc.eK e x=σ y):a.eval x=y.val:=by
 cases x with
 |tmp t=>exact h.2 t y J
 |const v=>simp[Vc.eK]at J;subst J;simp[Act.eval,eA.FY]
 |global g=>simp[Vc.eK]at J;subst J;rfl
 |func f=>simp[Vc.eK]at J;subst J;rfl
def S7.eval{N:Nat}{e:Env}{a:Act}(h:S7 N e a){x:S4}(J:(Vc.eK e x).isSome=true):a.eval x=cT e x:=by
 have⟨y,f⟩:=Option.isSome_iff_exists.1 J;rw[h.eK f];simp[cT,f]
theorem uT{e:Env}:∀{l:List S4},known e l=true->∀x∈l,(eK e x).isSome=true
 |[],_,_,J=>by cases J
 |y::r,h,x,J=>by
  simp only[known,V5]at h;cases J with
  |head=>exact h.1
  |tail _ J=>exact uT h.2 x J
def dY(e:Env)(d:Option Tmp)(x:eA):Env:=
 match d with
 |some t=>(t,x)::e
 |none=>e
def jT(N:Nat)(d:Option Tmp):Bool:=
 match d with
 |some t=>Nat.blt t N
 |none=>true
def S7.put{N:Nat}{e:Env}{a:Act}(h:S7 N e a){d:Option Tmp}(q:jT N d=true){x:eA}(ad:x.val=v):
  S7 N (dY e d x) (a.put d v):=by
 cases d with
 |none=>exact h
 |some t=>
  have r:t<N:=by simpa[jT,Nat.blt_eq]using q
  refine⟨by simp[Act.put,h.1],λs y U=>?_⟩;simp only[dY,look]at U;cases f:S0 t s with
  |true=>
   have p:t=s:=Nat.eq_of_beq_eq_true f;subst p;simp only[f,cond_true,Y3]at U;subst U;simp[Act.put,h.1,r,ad]
  |false=>
   have p:t≠s:=Nat.ne_of_beq_eq_false f;simp only[f,cond_false]at U;have:=h.2 s y U;simp only[Act.put,Array.getD_eq_getD_getElem?]at this ⊢;rw[Array.getElem?_setIfInBounds_ne p];exact this
def eu(r:Option Nat):Fence:={Fence.wide with round:=r}
def uU(r:Option Nat)(n:Nat):(eu r).depth.isSome=true->1<=n:=λh=>by simp[eu,Fence.wide]at h
def yJ{r:Option Nat}{P:W8}{f:R7}{args:Array x1}{R:Ending->x3->Prop}(h:Calls P f args w R):CallsIn (eu r) n P f args w R:=by
 have:=(callsIn_wide (n:=n)).2 h;exact this
section
variable(P:W8)
def aE{α:Type}(s:Sem α)(w:x3)(K:α->x3->Prop):Prop:=∃v w',s.run P w= .ok v w'/\cM w w'/\K v w'
def r7{α:Type}(free:fJ)(s:Sem α)(w:x3)(K:α->x3->Prop):Prop:=∃v w',s.run P w= .ok v w'/\(free.1=false->cC free.2 w w')/\K v w'
def Split(x:x1)(A B:Prop):Prop:=∃c,x= .bool c/\(c=true->A)/\(c=false->B)
def a7:Bool->S4
 |true=>.const (.bool true)
 |false=>.tmp 0
def o0:S4->Bool
 | .const _=>true
 |_=>false
def FZ(op:BinOp)(t:p9)(x y:S4)(a b:x1):eqGuard op t x y a b=eqGuard op t (a7 (o0 x)) (a7 (o0 y)) a b:=by
 cases x<;>cases y<;>rfl
def aO(op:BinOp)(t:p9)(cx cy:Bool)(a b:x1):Sem x1:=do eqGuard op t (a7 cx) (a7 cy) a b;binOp op t a b
def sa(s:Sem Next):Sem x1:=do
 match <-s with
 | .value v=>pure v
 |_=>stuck "no value"
def bQ(x:x1):Sem x1:=sa (execOp (λ_=>x) {dst:=ν,op:=.nilCheck (.tmp 0),type:=0,pos:= "",after:=#[],guard:=ν})
def bY(a:S4->x1):List S4->List x1
 |[]=>[]
 |x::r=>a x::bY a r
theorem sb(a:S4->x1):∀l,bY a l=l.map a
 |[]=>rfl
 |x::r=>by simp[bY,sb a r]
def uV(a:S4->x1)(l:Array S4):(bY a l.toList).toArray=l.map a:=by
 apply Array.toList_inj.1;simp[sb]
def partsOf(a:S4->x1):List (Nat×S4)->List (Nat×x1)
 |[]=>[]
 |x::r=>(x.1,a x.2)::partsOf a r
theorem yK(a:S4->x1):∀l,partsOf a l=l.map λ(i,x)=>(i,a x)
 |[]=>rfl
 |x::r=>by simp[partsOf,yK a r]
def F0(a:S4->x1)(l:Array (Nat×S4)):(partsOf a l.toList).toArray=l.map λ(i,x)=>(i,a x):=by
 apply Array.toList_inj.1;simp[yK]
def opsOf:Op->List S4
 | .alloc _| .ready _| .waits _=>[]
 | .move x| .assign x| .box _ x| .load _ x| .nilCheck x| .unOp _ _ x| .convert _ _ x| .sliceToArrayPointer _ x| .makeInterface _ x
 | .makeChan _ x| .fieldAddr _ x _| .field _ x _| .range _ x| .next x _| .entry x| .typeAssert x _ _ _| .extract x _| .panic x| .recv _ x _=>[x]
 | .pick c a b=>[c,a,b]
 | .build _ e| .buildSlice _ _ e=>e.toList.map (·.2)
 | .store _ a v| .binOp _ _ a v _| .makeSlice _ a v| .indexAddr _ a v| .index _ a v| .lookup _ a v _| .mapEntry _ a v| .send a v=>[a,v]
 | .makeFunc _ first p=>first.toList++p.toList
 | .makeMap _ r=>match r with
  |some x=>[x]
  |none=>[]
 | .slice _ x l h m=>x::((match l with
  |some y=>[y]
  |none=>[])++((match h with
  |some y=>[y]
  |none=>[])++(match m with
  |some y=>[y]
  |none=>[])))
 | .mapUpdate _ m k v| .entryStore _ m k v| .insert _ m k v=>[m,k,v]
 | .call c=>match c.callee with
  | .value f=>f::c.args.toList
  | .invoke r _=>r::c.args.toList
  | .builtin _=>c.args.toList
 | .go _| .defer _| .select ..=>[]
def F3{op:Op}(h1:∀c,op≠ .go c)(a:∀c,op≠ .defer c)(e:∀cs b,op≠ .select cs b):∀x∈op.operands,x∈opsOf op:=by
 intro x J;cases op<;>simp only[Op.operands,opsOf]at J ⊢<;>try (first|(simp at J;done)|(simp at J ⊢;exact J))
 case go c=>exact absurd T (h1 c)
 case defer c=>exact absurd T (a c)
 case select cs b=>exact absurd T (e cs b)
 case makeMap t r=>cases r<;>simp at J ⊢<;>exact J
 case slice t y l h m=>cases l<;>cases h<;>cases m<;>simpa[or_assoc]using J
 case call c=>cases f:c.callee<;>simpa[Call.operands,f]using J
def qn(e:S4->x1):Op->Option (Sem x1)
 | .pick c a b=>σ (do pure (if <-asBool (e c)then e a else e b))
 | .alloc p=>σ (Q1 p true (.tuple #[]))
 | .box p x=>σ (Instr.box p (e x))
 | .build t parts=>σ (Instr.build t (partsOf e parts.toList).toArray)
 | .buildSlice t len parts=>σ (Y5 t len (partsOf e parts.toList).toArray)
 | .load t a=>σ (u5 t (e a))
 | .nilCheck x=>σ (bQ (e x))
 | .binOp op iu x y _=>σ (aO op iu (o0 x) (o0 y) (e x) (e y))
 | .unOp op _ x=>σ (Op.unary op (e x))
 | .convert src dst x=>σ (convert src dst (e x))
 | .makeInterface iu x=>σ (Instr.makeInterface iu (e x))
 | .makeFunc fn first q=>σ (Instr.makeFunc fn (bY e first.toList).toArray (bY e q.toList).toArray)
 | .makeMap t r=>σ (Instr.makeMap t (r.map e))
 | .makeSlice t l c=>σ (Instr.makeSlice t (e l) (e c))
 | .slice t x lo hi mx=>σ (V9 t (e x) (lo.map e) (hi.map e) (mx.map e))
 | .fieldAddr s x f=>σ (u6 s (e x) f)
 | .field iu x f=>σ (Instr.field iu (e x) f)
 | .indexAddr t x h=>σ (j9 t (e x) (e h))
 | .index iu x h=>σ (Instr.index iu (e x) (e h))
 | .lookup iu x h ok=>σ (Instr.lookup iu (e x) (e h) ok)
 | .mapEntry t m k=>σ (Instr.mapEntry t (e m) (e k))
 | .range iu x=>σ (Instr.range iu (e x))
 | .entry w=>σ (Instr.entry (e w))
 | .typeAssert x iu z ok=>σ (Instr.typeAssert (e x) iu z ok)
 | .extract t h=>σ (Y0 (e t) h)
 |_=>ν
def uW(e:S4->x1):Op->Option (Sem Unit)
 | .store t a x=>σ (o8 t (e a) (e x))
 | .mapUpdate t m k x=>σ (Instr.mapUpdate t (e m) (e k) (e x))
 | .insert t m k x=>σ (Instr.mapUpdate t (e m) (e k) (e x))
 | .entryStore t m s x=>σ (Instr.entryStore t (e m) (e s) (e x))
 |_=>ν
def o1(b:Z3)(ats:Array p9)(a:p9)(args:Array x1):Option (Sem x1):=
 match b with
 | .append=>σ (Z0 ats a args)
 | .cap=>σ (Z3.cap_ ats a args)
 | .clear=>σ (Z3.clear_ ats a args)
 | .copy=>σ (Z3.copy_ ats a args)
 | .delete=>σ (Z3.delete_ ats a args)
 | .len=>σ (V0 ats a args)
 | .max=>σ (Z3.max_ ats a args)
 | .min=>σ (Z3.min_ ats a args)
 |_=>ν
def F4{s:Sem Next}(h:(sa s).run P w= .ok v w'):s.run P w= .ok (.value v) w':=by
 unfold sa at h;rw[W5]at h;cases U:s.run P w with
 |halt x V=>rw[U]at h;simp[W7]at h
 |ok x V=>
  rw[U]at h;cases x<;>simp_all [W7,stuck,V3]
def F5(x:x1)(b:Bool)(t:p9):Instr.next x b 0=Instr.next x b t:=rfl
def uX{f:S4->x1}{o:T3}{s:Sem x1}(h:qn f o.op=σ s)(a:s.run P w= .ok v w'):
  (execOp f o).run P w= .ok (.value v) w':=by
 cases e:o.op with
 |nilCheck x=>
  rw[e]at h;cases h;have:=F4 P a;unfold execOp at this ⊢;simpa[e]using this
 |pick c x y=>
  rw[e]at h;cases h;unfold execOp;simp only[e,W5,V3]at a ⊢;cases p:(asBool (f c)).run P w with
  |halt x V=>rw[p]at a;simp[W7]at a
  |ok x V=>rw[p]at a;simp only[W7,Result.ok.injEq]at a ⊢;simp[a]
 |binOp op iu x y q=>
  rw[e]at h;cases h;unfold execOp;simp only[e];unfold aO at a;rw[<-FZ]at a;simp only[W5,V3]at a ⊢;rw[a];rfl
 |_=>
  rw[e]at h
  first
   |(cases h;done)
   |(cases h;simp only[uV,F0]at a;unfold execOp;simp only[e,W5,a,W7,V3])
   |(cases h;unfold execOp;simp only[e,W5,a,W7,V3])
def F6{a:S4->x1}{o:T3}{s:Sem Unit}(h:uW a o.op=σ s){v:Unit}(f:s.run P w= .ok v w'):
  (execOp a o).run P w= .ok .skip w':=by
 cases e:o.op with
 |_=>
  rw[e]at h
  first
   |(cases h;done)
   |(cases h;unfold execOp;simp only[e,W5,f,W7,V3])
def Enters(f:R7):Prop:=∀args w,(callFunc f args).run P w= .ok (.enter f args) w
inductive am(f:R7)(args:List x1)(w:x3)(K:x1->x3->Prop):Prop
 |code (h1:Enters P f) (h2:Calls P f args.toArray w λe w'=>∃v,e= .returned v/\cM w w'/\K v w')
 |ext (v:x1) (w':x3) (h1:(callFunc f args.toArray).run P w= .ok (.value v) w') (h2:cM w w') (h3:K v w')
inductive gN(f:R7)(args:List x1)(w:x3)(K:x1->x3->Prop):Prop
 |code (h1:Enters P f) (h2:Calls P f args.toArray w λe w'=>∃v,e= .returned v/\K v w')
 |ext (v:x1) (w':x3) (h1:(callFunc f args.toArray).run P w= .ok (.value v) w') (h3:K v w')
def gN.calls{f:R7}{K:x1->x3->Prop}(h:gN P f args w K)(a:Enters P f):Calls P f args.toArray w λe w'=>∃v,e= .returned v/\K v w':=by
 cases h with
 |code _ h=>exact h
 |ext v w' h1=>rw[a]at h1;cases h1
def h5(l:Nat)(args:List x1)(w:x3)(K:x1->x3->Prop):Prop:=
 YieldAt Fence.wide 0 P l args.toArray w λe w'=>∃v,e= .returned v/\K v w'
def h5.mono{P:W8}{l:Nat}{K a:x1->x3->Prop}(h:h5 P l args w K)(e:∀v w',K v w'->a v w'):h5 P l args w a:=by
 have⟨fn,tmps,f,body,p,q⟩:=h;exact⟨fn,tmps,f,body,p,RoundIn.mono q λ_ w' ⟨v,h1,r⟩=>⟨v,h1,e v w' r⟩⟩
def sd(free:Bool)(f:x1)(args:List x1)(w:x3)(K:x1->x3->Prop):Prop:=
 match f with
 | .func (.func g) first cap=>bif free then gN P g (first.toList++args++cap.toList) w K else am P g (first.toList++args++cap.toList) w K
 | .func (.yield l) first _=>bif free then free=true/\h5 P l (first.toList++args) w K else h5 P l (first.toList++args) w λv w'=>cM w w'/\K v w'
 |_=>False
def ac(s:Sem x1)(w:x3)(K:x1->Prop):Prop:=∃v,(∀w',Ext w w'->s.run P w'= .ok v w')/\K v
def F7:List (Nat×Nat):=[(9,22),(22,22)]
def F8(s d:Nat):Bool:=F7.any λp=>S0 p.1 s&&S0 p.2 d
def jo(o:T3):Bool:=
 match o.op with
 | .convert s d _=>!F8 s d
 | .move _| .assign _| .pick .. | .load .. | .nilCheck _| .binOp .. | .unOp .. | .makeInterface .. | .makeFunc .. | .slice .. | .fieldAddr .. | .field ..
 | .indexAddr .. | .index .. | .lookup .. | .extract .. | .build .. | .typeAssert ..=>true
 | .call c=>
  match c.callee with
  | .builtin .len| .builtin .cap| .builtin .min| .builtin .max=>true
  |_=>false
 |_=>false
def cD(s:Sem x1)(v:x1)(w':x3):Prop:=∀a,Ext w' a->s.run P a= .ok v a
def lY(o:T3)(e:Env)(w:x3)(K:Env->(x3->Prop)->Prop):Prop:=
 bif known e (opsOf o.op)then
  match o.op with
  | .move x| .assign x=>
   match eK e x with
   |some y=>K (dY e o.dst y) (λ_=>True)
   |none=>False
  | .pick c a b=>
   match eK e c with
   |some (.b true)=>(match eK e a with|some y=>K (dY e o.dst y) (λ_=>True)|none=>False)
   |some (.b false)=>(match eK e b with|some y=>K (dY e o.dst y) (λ_=>True)|none=>False)
   |some (.v x)=>Split x (K (dY e o.dst (.v (cT e a))) (λ_=>True)) (K (dY e o.dst (.v (cT e b))) (λ_=>True))
   |some .u=>False
   |none=>False
  | .call c=>
   match c.callee with
   | .builtin b=>
    match o1 b c.argTypes o.type (bY (cT e) c.args.toList).toArray with
    |some s=>ac P s w λv=>K (dY e o.dst (.v v)) (cD P s v)
    |none=>False
   |_=>False
  |op=>
   match qn (cT e) op with
   |some s=>ac P s w λv=>K (dY e o.dst (.v v)) (cD P s v)
   |none=>False
 else False
def uY(free:fJ)(o:T3)(e:Env)(w:x3)(K:Env->x3->Prop):Prop:=
 bif known e (opsOf o.op)then
  match o.op with
  | .call c=>
   match c.callee with
   | .builtin b=>
    match o1 b c.argTypes o.type (bY (cT e) c.args.toList).toArray with
    |some s=>aE P s w λv w'=>K (dY e o.dst (.v v)) w'
    |none=>False
   | .value (.func f)=>
    bif free.1 then gN P f (bY (cT e) c.args.toList) w λv w'=>K (dY e o.dst (.v v)) w'
    else am P f (bY (cT e) c.args.toList) w λv w'=>K (dY e o.dst (.v v)) w'
   | .value x=>sd P free.1 (cT e x) (bY (cT e) c.args.toList) w λv w'=>K (dY e o.dst (.v v)) w'
   | .invoke _ _=>False
  | .next x str=>r7 P free (Instr.next (cT e x) str 0) w λv w'=>K (dY e o.dst (.v v)) w'
  |op=>
   match qn (cT e) op with
   |some s=>aE P s w λv w'=>K (dY e o.dst (.v v)) w'
   |none=>
    match uW (cT e) op with
    |some s=>aE P s w λ_ w'=>K (dY e o.dst (.v undef)) w'
    |none=>False
 else False
def o2(free:fJ)(o:T3)(e:Env)(w:x3)(K:Env->x3->Prop):Prop:=
 bif jo o then lY P o e w (λa _=>K a w)else uY P free o e w K
def Enters.of{f:R7}{fn:Func}{c:Code}(ae:P.funcs[f]?=σ fn)(a:fn.body=σ c)(e:(fn.name == "runtime.NumGoroutine")=false):Enters P f:=by
 intro args w;have h:fn.name≠ "runtime.NumGoroutine":=by simpa using e
 unfold callFunc;simp[W5,program,Sem.run,W7,ae,h,a,V3]
variable{P}
variable{N:Nat}{r:Option Nat}{o:T3}{e:Env}{a:Act}{w:x3}
def kx(f:S7 N e a)(hk:known e (opsOf o.op)=true)(U:∀cs b,o.op≠ .select cs b)(h:∀c,o.op≠ .go c:=by simp_all)(p:∀c,o.op≠ .defer c:=by simp_all):
  execOp a.eval o=execOp (cT e) o:=
 execOp_congr o U λx J=>f.eval (uT hk x (F3 h p U x J))
def qo{next:Act->x3->Prop}{Q:Exit->Act->x3->Prop}(p:S7 N e a)(hk:known e (opsOf o.op)=true)(U:∀cs b,o.op≠ .select cs b)(f:∀c,o.op≠ .defer c){v:x1}{w':x3}(q:(execOp (cT e) o).run P w= .ok (.value v) w')(h:next (a.put o.dst v) w')(s:∀c,o.op≠ .go c:=by simp_all):o.wpIn (eu r) 0 P a w next Q:=by
 refine⟨λ_ _=>trivial,?_⟩;rw[T3.semAt_eq _ _ _ f,kx p hk U s f,q,T3.uponIn_value];exact h
def F9{next:Act->x3->Prop}{Q:Exit->Act->x3->Prop}(p:S7 N e a)(hk:known e (opsOf o.op)=true)(U:∀cs b,o.op≠ .select cs b)(f:∀c,o.op≠ .defer c){w':x3}(q:(execOp (cT e) o).run P w= .ok .skip w')(h:next (a.put o.dst undef) w')(s:∀c,o.op≠ .go c:=by simp_all):o.wpIn (eu r) 0 P a w next Q:=by
 refine⟨λ_ _=>trivial,?_⟩;rw[T3.semAt_eq _ _ _ f,kx p hk U s f,q,T3.uponIn_skip];exact h
def fm(N:Nat)(free:fJ)(K:Env->x3->Prop)(o:T3)(a:Act)(w:x3)(a':Act)(w':x3):Prop:=
 ∃e v,K e w'/\S7 N e a'/\a'=a.put o.dst v/\(free.1=false->cC free.2 w w')
def fm.of{free:fJ}{K:Env->x3->Prop}{x:eA}(f:K (dY e o.dst x) w')(h:S7 N e a)(p:jT N o.dst=true)(J:x.val=v)(q:free.1=false->cC free.2 w w'):fm N free K o a w (a.put o.dst v) w':=⟨_,v,f,h.put p J,T,q⟩
def yL{free:fJ}{K:Env->x3->Prop}{Q:Exit->Act->x3->Prop}{f:R7}{args:Array x1}(q:S7 N e a)(s:jT N o.dst=true)(h:Calls P f args w λp w'=>∃v,p= .returned v/\(free.1=false->cC free.2 w w')/\K (dY e o.dst (.v v)) w'):
  o.uponIn (eu r) 0 P a (fm N free K o a w) Q (.ok (.enter f args) w):=by
 rw[T3.uponIn_enter];refine⟨uU _ _,CallsIn.mono (yJ h) ?_⟩;rintro p w' ⟨v,rfl,x,y⟩;exact fm.of y q s T x
def lZ{x:S4}{y:eA}(h:eK e x=σ y):cT e x=y.val:=by simp[cT,h]
def yM{l:List S4}{x:S4}(hk:known e l=true)(J:x∈l):∃y,eK e x=σ y:=Option.isSome_iff_exists.1 (uT hk x J)
def yN{K:Env->(x3->Prop)->Prop}(h:lY P o e w K)(A:S7 N e a)(L:jT N o.dst=true):
  ∃v,∃st:x3->Prop,(∀w',Ext w w'->(execOp a.eval o).run P w'= .ok (.value v) w')/\(∃B,K B st/\S7 N B (a.put o.dst v))/\(∀c,o.op≠ .defer c)/\
   (∀w',st w'->∀p,Ext w' p->(execOp a.eval o).run P p= .ok (.value v) p):=by
 unfold lY at h;cases hk:known e (opsOf o.op)with
 |false=>rw[hk]at h;exact h.elim
 |true=>
  rw[hk]at h;simp only[cond_true]at h;have put:∀{x:eA}{v:x1}{st:x3->Prop},K (dY e o.dst x) st->x.val=v->∃B,K B st/\S7 N B (a.put o.dst v):=λh1 C=>⟨_,h1,A.put L C⟩;cases f:o.op with
  |move x=>
   rw[f]at h;simp only at h;cases J:eK e x with
   |none=>rw[J]at h;exact h.elim
   |some y=>
    rw[J]at h;have all:∀w':x3,(execOp a.eval o).run P w'= .ok (.value y.val) w':=λw'=>by
     rw[kx A hk (by simp[f])];unfold execOp;simp only[f,V3,lZ J]
    exact⟨y.val,_,λw' _=>all w',put h T,Ξ,λ_ _ p _=>all p⟩
  |assign x=>
   rw[f]at h;simp only at h;cases J:eK e x with
   |none=>rw[J]at h;exact h.elim
   |some y=>
    rw[J]at h;have all:∀w':x3,(execOp a.eval o).run P w'= .ok (.value y.val) w':=λw'=>by
     rw[kx A hk (by simp[f])];unfold execOp;simp only[f,V3,lZ J]
    exact⟨y.val,_,λw' _=>all w',put h T,Ξ,λ_ _ p _=>all p⟩
  |pick c x y=>
   rw[f]at h;simp only at h;have F:=hk;rw[f]at F;have⟨Q,J⟩:=yM F (x:=x) (by simp[opsOf]);have⟨R,I⟩:=yM F (x:=y) (by simp[opsOf]);have E:∀(t:Bool)(w':x3),cT e c= .bool t->(execOp a.eval o).run P w'= .ok (.value (if t=true then cT e x else cT e y)) w':=by
    intro t w' G;rw[kx A hk (by simp[f])];unfold execOp;simp[f,G,asBool,V3]
   cases q:eK e c with
   |none=>rw[q]at h;exact h.elim
   |some M=>
    rw[q]at h;cases M with
    |b t=>
     cases t with
     |true=>
      simp only[J]at h;exact⟨_,_,λw' _=>E true w' (lZ q),put h (by simp[lZ J]),Ξ,λ_ _ w' _=>E true w' (lZ q)⟩
     |false=>
      simp only[I]at h;exact⟨_,_,λw' _=>E false w' (lZ q),put h (by simp[lZ I]),Ξ,λ_ _ w' _=>E false w' (lZ q)⟩
    |v z=>
     have⟨t,O,G,ae⟩:=h;have r:=λw'=>E t w' (by rw[lZ q];exact O);cases t with
     |true=>exact⟨_,_,λw' _=>r w',put (G T) T,Ξ,λ_ _ w' _=>r w'⟩
     |false=>exact⟨_,_,λw' _=>r w',put (ae T) T,Ξ,λ_ _ w' _=>r w'⟩
    |u=>exact h.elim
  |call c=>
   rw[f]at h;simp only at h;cases q:c.callee with
   |builtin b=>
    rw[q]at h;simp only at h;rw[uV]at h;cases U:o1 b c.argTypes o.type (c.args.map (cT e))with
    |none=>rw[U]at h;exact h.elim
    |some s=>
     rw[U]at h;have⟨v,r,H⟩:=h;have all:∀w':x3,s.run P w'= .ok v w'->(execOp a.eval o).run P w'= .ok (.value v) w':=λw' r=>by
      rw[kx A hk (by simp[f])];unfold execOp;cases b<;>simp only[o1]at U<;>first|(cases U;done)|(cases U;simp[f,q,resolve,invoke,builtin,r,W7])
     exact⟨v,_,λw' hw=>all w' (r w' hw),put H T,Ξ,λw' h1 p C=>all p (h1 p C)⟩
   |value x=>rw[q]at h;exact h.elim
   |invoke x m=>rw[q]at h;exact h.elim
  |_=>
   rw[f]at h
   first
    |(simp only[qn]at h;done)
    |(have⟨v,r,H⟩:=h
      refine⟨v,_,λw' hw=>?_,put H T,Ξ,λw' h1 p C=>?_⟩
      .rw[kx A hk (by simp[f])];exact uX P (by rw[f];rfl) (r w' hw)
      .rw[kx A hk (by simp[f])];exact uX P (by rw[f];rfl) (h1 p C))
def Ga{free:fJ}{K:Env->x3->Prop}{Q:Exit->Act->x3->Prop}(h:uY P free o e w K)(q:S7 N e a)(E:jT N o.dst=true):
  o.wpIn (eu r) 0 P a w (fm N free K o a w) Q:=by
 unfold uY at h;cases hk:known e (opsOf o.op)with
 |false=>rw[hk]at h;exact h.elim
 |true=>
  rw[hk]at h;simp only[cond_true]at h;cases p:o.op with
  |call c=>
   rw[p]at h;simp only at h;cases F:c.callee with
   |builtin b=>
    rw[F]at h;simp only at h;rw[uV]at h;cases U:o1 b c.argTypes o.type (c.args.map (cT e))with
    |none=>rw[U]at h;exact h.elim
    |some s=>
     rw[U]at h;have⟨v,w',z,B,C⟩:=h;refine qo q hk (by simp[p]) (by simp[p]) (v:=v) (w':=w') ?_ (fm.of C q E rfl λ_=>B.b);unfold execOp;cases b<;>simp only[o1]at U<;>first|(cases U;done)|(cases U;simp[p,F,resolve,invoke,builtin,z,W7])
   |value x=>
    rw[F]at h;have step:∀(d:Deferred)(y:x1),cT e x=y->Deferred.ofValue y (c.args.map (cT e))=pure d->
      (invoke d.target d.args).run P w=(execOp (cT e) o).run P w:=by
     intro d y A S;unfold execOp;simp only[p,F,resolve,A,S,W5,V3,W7]
    have I:∀(g:R7)(first cap:Array x1),cT e x= .func (.func g) first cap->
      (execOp (cT e) o).run P w=(callFunc g (first.toList++bY (cT e) c.args.toList++cap.toList).toArray).run P w:=by
     intro g first cap A
     rw[<-step {target:=.fn (.func g) cap,args:=first++c.args.map (cT e)} _ A rfl];simp only[invoke];have J:first++c.args.map (cT e)++cap=(first.toList++bY (cT e) c.args.toList++cap.toList).toArray:=by apply Array.toList_inj.1;simp[sb]
     rw[J]
    have enter:∀(g:R7)(first cap:Array x1),cT e x= .func (.func g) first cap->Enters P g->
      (execOp (cT e) o).run P w= .ok (.enter g (first.toList++bY (cT e) c.args.toList++cap.toList).toArray) w:=by
     intro g first cap A G
     rw[I g first cap A,G]
    have go:∀(g:R7)(first cap:Array x1),cT e x= .func (.func g) first cap->
      (bif free.1 then gN P g (first.toList++bY (cT e) c.args.toList++cap.toList) w λv w'=>K (dY e o.dst (.v v)) w'
       else am P g (first.toList++bY (cT e) c.args.toList++cap.toList) w λv w'=>K (dY e o.dst (.v v)) w')->
      o.wpIn (eu r) 0 P a w (fm N free K o a w) Q:=by
     intro g first cap A h
     have⟨fr,T⟩:=free;cases fr with
     |true=>
      rcases h with⟨G,L⟩|⟨v,w',z,C⟩
      .refine⟨λ_ _=>trivial,?_⟩;rw[T3.semAt_eq _ _ _ (by simp[p]),kx q hk (by simp[p])];rw[enter g first cap A G];exact yL q E (L.mono λH w' ⟨v,h1,M⟩=>⟨v,h1,(λh=>by cases h),M⟩)
      .rw[<-I g first cap A]at z;exact qo q hk (by simp[p]) (by simp[p]) z (fm.of C q E rfl λh=>by cases h)
     |false=>
      rcases h with⟨G,L⟩|⟨v,w',z,B,C⟩
      .refine⟨λ_ _=>trivial,?_⟩;rw[T3.semAt_eq _ _ _ (by simp[p]),kx q hk (by simp[p])];rw[enter g first cap A G];exact yL q E (L.mono λH w' ⟨v,h1,B,M⟩=>⟨v,h1,λ_=>B.b,M⟩)
      .rw[<-I g first cap A]at z;exact qo q hk (by simp[p]) (by simp[p]) z (fm.of C q E rfl λ_=>B.b)
    have O:sd P free.1 (cT e x) (bY (cT e) c.args.toList) w (λv w'=>K (dY e o.dst (.v v)) w')->
      o.wpIn (eu r) 0 P a w (fm N free K o a w) Q:=by
     intro h;unfold sd at h;split at h
     .rename_i g first cap A
      exact go g first cap A h
     .rename_i l first cap A
      obtain⟨fn,tmps,R,body,V,W⟩:h5 P l (first.toList++bY (cT e) c.args.toList) w λv w'=>(free.1=false->cC free.2 w w')/\K (dY e o.dst (.v v)) w':=by
       have⟨fr,T⟩:=free;cases fr with
       |true=>exact h5.mono h.2 λv w' hk=>⟨(λh=>by cases h),hk⟩
       |false=>exact h5.mono h λv w' hk=>⟨λ_=>hk.1.b,hk.2⟩
      refine⟨λ_ _=>trivial,?_⟩;rw[T3.semAt_eq _ _ _ (by simp[p]),kx q hk (by simp[p])];have:(execOp (cT e) o).run P w= .ok (.round l fn tmps R body) w:=by
       rw[<-step {target:=.fn (.yield l) cap,args:=first++c.args.map (cT e)} _ A rfl,<-V];have J:(first.toList++bY (cT e) c.args.toList).toArray=first++c.args.map (cT e):=by apply Array.toList_inj.1;simp[sb]
       rw[J];rfl
      rw[this,T3.uponIn_round];refine⟨uU _ _,?_⟩;have X:RoundIn (eu r) (0-1) P l fn tmps R body w λH w'=>∃v,H= .returned v/\(free.1=false->cC free.2 w w')/\K (dY e o.dst (.v v)) w':=W;apply RoundIn.mono X;rintro H w' ⟨v,rfl,B,C⟩;exact fm.of C q E rfl B
     .exact h.elim
    cases x with
    |func f=>exact go f #[] #[] rfl (by simpa using h)
    |tmp t=>exact O h
    |const v=>exact O h
    |global g=>exact O h
   |invoke x m=>rw[F]at h;exact h.elim
  |next x str=>
   rw[p]at h;have⟨v,w',z,B,C⟩:=h;refine qo q hk (by simp[p]) (by simp[p]) (v:=v) (w':=w') ?_ (fm.of C q E rfl B);rw[F5 _ _ o.type]at z;unfold execOp;simp only[p,W5,z,W7,V3]
  |_=>
   rw[p]at h
   first
    |(simp only[qn,uW]at h;done)
    |(have⟨v,w',z,B,C⟩:=h
      exact qo q hk (by simp[p]) (by simp[p]) (uX P (by rw[p];rfl) z) (fm.of C q E rfl λ_=>B.b))
    |(have⟨v,w',z,B,C⟩:=h
      exact F9 q hk (by simp[p]) (by simp[p]) (F6 P (by rw[p];rfl) z) (fm.of C q E rfl λ_=>B.b))
def se{free:fJ}{K:Env->x3->Prop}{Q:Exit->Act->x3->Prop}(h:o2 P free o e w K)(p:S7 N e a)(q:jT N o.dst=true):
  o.wpIn (eu r) 0 P a w (fm N free K o a w) Q:=by
 unfold o2 at h;cases s:jo o with
 |false=>rw[s]at h;exact Ga h p q
 |true=>
  rw[s]at h;have h:lY P o e w (λf _=>K f w):=h;have⟨v,st,x,⟨f,y,z⟩,A,_⟩:=yN h p q;refine⟨λ_ _=>trivial,?_⟩;rw[T3.semAt_eq _ _ _ A,x w (Ext.refl _),T3.uponIn_value];exact⟨f,v,y,z,T,λ_=>cC.refl _ _⟩
end
section
variable{P:W8}
def Still{α:Type}(P:W8)(s:Sem α):Prop:=∀w v V,s.run P w= .ok v V->V=w/\∀w',s.run P w'= .ok v w'
def Still.pure{α:Type}(a:α):Still P (Pure.pure a:Sem α):=λw v V h=>by
 rw[V3]at h;cases h;exact⟨T,λw'=>by rw[V3]⟩
def Still.bind{α β:Type}{s:Sem α}{f:α->Sem β}(U:Still P s)(ae:∀a,Still P (f a)):Still P (s >>= f):=λw v V h=>by
 rw[W5]at h;cases e:s.run P w with
 |halt x aa=>rw[e]at h;simp[W7]at h
 |ok a aa=>
  rw[e]at h;obtain⟨rfl,p⟩:=U w a aa e;obtain⟨rfl,q⟩:=ae a _ v V h;exact⟨T,λw'=>by rw[W5,p w'];exact q w'⟩
def Still.never{α:Type}{s:Sem α}(h:∀w v V,s.run P w≠ .ok v V):Still P s:=λw v V h'=>absurd h' (h w v V)
theorem Still.stuck{α:Type}(m:String):Still P (stuck m:Sem α):=.never λw v V h=>by simp[Go.stuck]at h
theorem Still.unsupported{α:Type}(m):Still P (unsupported m:Sem α):=.never λw v V h=>by simp[Go.unsupported]at h
theorem Still.program:Still P program:=λw v V h=>by cases h;exact⟨T,λ_=>rfl⟩
theorem Still.underlying(t:p9):Still P (underlying t):=Still.bind .program λp=>by
 cases p.underlying t with
 |some d=>exact Still.pure d
 |none=>exact Still.stuck _
theorem Still.typeInfo(t:p9):Still P (typeInfo t):=Still.bind .program λp=>by
 cases p.info? t with
 |some d=>exact Still.pure d
 |none=>exact Still.stuck _
theorem Still.sizeOf(t:p9):Still P (sizeOf t):=Still.bind (.typeInfo t) λ_=>Still.pure _
theorem Still.boundsPanic{α:Type}(k:o7)(x y:Int)(c:BoundsCode):Still P (boundsPanic k x y c:Sem α):=.never λw v V h=>by
 have e:∀(s:Sem Bool)(w:x3)(v:α)(V:x3),(s >>= λb=>(runtimePanic (.bounds (X6.wrap x) y b c):Sem α)).run P w≠ .ok v V:=by
  intro s w v V h;rw[W5]at h;cases f:s.run P w with
  |halt x aa=>rw[f]at h;simp[W7]at h
  |ok a aa=>rw[f]at h;simp[W7,Go.runtimePanic,Go.goPanic]at h
 unfold Go.boundsPanic at h;dsimp only at h;split at h
 .exact e _ _ _ _ h
 .exact e _ _ _ _ h
theorem Still.asIntOf(v:x1):Still P (asIntOf v):=by
 unfold Go.asIntOf;split
 .exact Still.pure _
 .exact Still.unsupported _
 .exact Still.stuck _
def Still.sureAddr(v:x1):Still P (Instr.sureAddr v):=by
 unfold Instr.sureAddr;split
 .exact Still.pure _
 .exact Still.stuck _
def Still.extract(v:x1)(i:Nat):Still P (Y0 v i):=by
 unfold Y0;split
 .split
  .exact Still.pure _
  .exact Still.stuck _
 .exact Still.stuck _
def Still.indexAt(t:p9)(x i:x1):Still P (j9 t x i):=by
 have tail:∀(t:p9)(k:o7)(i:Int)(base:Option Addr)(len:Nat)(e:p9),Still P (do
   let f:=len<=1&&(match <-Go.underlying t with| .array ..=>true|_=>false)
   match base with
   |some a=>
    if 0<=i/\i<len then Pure.pure (x1.pointer (σ (a.add (i.toNat*(<-Go.sizeOf e)))))
    else if f then Go.unsupported (.noEntry "op/indexAddr.an index out of range at an array of length 0 or 1 (ledger 616)")
    else Go.boundsPanic k i len .index
   |none=>Go.boundsPanic k i 0 .index):=by
  intro t k i base len e;refine .bind (.underlying t) λd=>?_;cases base with
  |none=>exact Still.boundsPanic _ _ _ _
  |some a=>
   dsimp only;split
   .exact .bind (.sizeOf e) λ_=>.pure _
   .split<;>split<;>first|exact Still.unsupported _|exact Still.boundsPanic _ _ _ _
 unfold j9;refine .bind (.asIntOf i) λh=>?_;refine .bind (.underlying t) λd=>?_;split
 .refine .bind (.sureAddr _) λb=>?_;refine .bind (.pure _) λy=>?_;exact tail _ _ _ _ _ _
 .refine .bind (.pure _) λy=>?_;exact tail _ _ _ _ _ _
 .refine .bind (.stuck _) λy=>?_;exact tail _ _ _ _ _ _
end
section
variable(P:W8)
def sf(free:fJ)(ops:Array T3)(o:T3)(e:Env)(w:x3)(K:Env->x3->Prop):Prop:=
 match o.guard with
 |none=>o2 P free o e w K
 |some (j,b)=>
  match(ops[j]?).bind (·.dst)with
  |none=>False
  |some s=>
   match look e s with
   |some (.b c)=>bif xor c b then K (dY e o.dst .u) w else o2 P free o e w K
   |some (.v x)=>
    Split x (bif b then o2 P free o ((s,.b true)::e) w K else K (dY ((s,.b true)::e) o.dst .u) w)
     (bif b then K (dY ((s,.b false)::e) o.dst .u) w else o2 P free o ((s,.b false)::e) w K)
   |some .u=>K (dY e o.dst .u) w
   |none=>False
def o3(free:fJ)(ops:Array T3):List T3->Env->x3->(Env->x3->Prop)->Prop
 |[],e,w,K=>K e w
 |o::l,e,w,K=>sf P free ops o e w λa w'=>o3 free ops l a w' K
def uZ(ops:Array T3)(o:T3)(e:Env)(w:x3)(K:Env->(x3->Prop)->Prop):Prop:=
 match o.guard with
 |none=>lY P o e w K
 |some (j,b)=>
  match(ops[j]?).bind (·.dst)with
  |none=>False
  |some s=>
   match look e s with
   |some (.b c)=>bif xor c b then K (dY e o.dst .u) (λ_=>True)else lY P o e w K
   |some (.v x)=>
    Split x (bif b then lY P o ((s,.b true)::e) w K else K (dY ((s,.b true)::e) o.dst .u) (λ_=>True))
     (bif b then K (dY ((s,.b false)::e) o.dst .u) (λ_=>True)else lY P o ((s,.b false)::e) w K)
   |some .u=>K (dY e o.dst .u) (λ_=>True)
   |none=>False
def l0(o:T3):Bool:=
 match o.op with
 | .move _| .assign _| .extract .. | .indexAddr ..=>true
 |_=>false
def mI(ops:Array T3):List Nat->Option Nat
 |[]=>ν
 |i::r=>match ops[i]? with
  |some o=>bif jo o then σ i else mI ops r
  |none=>mI ops r
def u0(p:Nat->Prop):List Nat->Prop
 |[]=>True
 |[i]=>p i
 |i::r=>p i/\u0 p r
def k6(bs:Array Nat)(j k:Nat):Bool:=!(S0 k j)&&(!((bs.getD j 0).testBit k)&& !((bs.getD k 0).testBit j))
def qp(same:Bool)(q:Nat)(w:x3)(st:x3->Prop)(a:List (x3×List (Nat×(x3->Prop)))):List (x3×List (Nat×(x3->Prop))):=
 match same,a with
 |true,g::r=>(g.1,(q,st)::g.2)::r
 |_,a=>(w,[(q,st)])::a
def qq(bs:Array Nat)(j:Nat):List (Nat×(x3->Prop))->Bool
 |[]=>false
 |x::r=>k6 bs j x.1||qq bs j r
def pa(bs:Array Nat)(j:Nat)(w':x3):List (Nat×(x3->Prop))->Prop
 |[]=>True
 |x::r=>bif k6 bs j x.1 then x.2 w'/\pa bs j w' r else pa bs j w' r
def nI(bs:Array Nat)(j:Nat)(w':x3)(C:Prop):List (x3×List (Nat×(x3->Prop)))->Prop
 |[]=>C
 |g::r=>bif qq bs j g.2 then(Ext g.1 w'\/pa bs j w' g.2)/\nI bs j w' C r else nI bs j w' C r
def mJ(free:fJ)(ops:Array T3)(bs:Array Nat):Nat->Array Bool->Bool->List (x3×List (Nat×(x3->Prop)))->Env->x3->(Env->x3->Prop)->Prop
 |0,a,_,_,e,w,K=>match Region.ready .any ops a with|[]=>K e w|_=>False
 |fuel+1,a,same,f,e,w,K=>
  match Region.ready .any ops a with
  |[]=>K e w
  |i::r=>
   match mI ops (i::r)with
   |some q=>
    bif Region.free .any ops a q then
     match ops[q]? with
     |some o=>uZ P ops o e w λh st=>
       bif l0 o then mJ free ops bs fuel (a.setIfInBounds q true) same f h w K
       else mJ free ops bs fuel (a.setIfInBounds q true) true (qp same q w st f) h w K
     |none=>False
    else False
   |none=>
    u0 (λj=>match ops[j]? with
     |some o=>sf P free ops o e w λh w'=>nI bs j w' (mJ free ops bs fuel (a.setIfInBounds j true) false f h w' K) f
     |none=>False) (i::r)
def u1(free:fJ)(ops:Array T3)(e:Env)(w:x3)(K:Env->x3->Prop):Prop:=
 bif Region.noSelect ops then mJ P free ops (Region.before ops) ops.size (Array.replicate ops.size false) false [] e w K else False
end
section
variable{P:W8}{N:Nat}{r:Option Nat}{free:fJ}{ops:Array T3}
def Gb{e:Env}{a:Act}(p:S7 N e a){s:Nat}{c:Bool}(q:(ops[j]?).bind (·.dst)=σ s){x:eA}(U:look e s=σ x)(J:x.val= .bool c):
  yielded ops a.tmps j=σ c:=by
 have h:=p.2 s x U;rw[J]at h;have r:a.tmps[s]?=σ (.bool c):=by
  rw[Array.getD_eq_getD_getElem?]at h;cases f:a.tmps[s]? with
  |none=>rw[f]at h;simp[undef]at h
  |some y=>rw[f]at h;simpa using h
 simp[yielded,q,r]
def sg{e:Env}{a:Act}(f:S7 N e a){o:T3}{s:Nat}{b c:Bool}(h:o.guard=σ (j,b))(p:(ops[j]?).bind (·.dst)=σ s){x:eA}(U:look e s=σ x)(J:x.val= .bool c):Region.wanted o (yielded ops a.tmps)= !(xor c b):=by
 simp only[Region.wanted,h,Gb f p U J];cases c<;>cases b<;>rfl
def yO{e:Env}{a:Act}(p:S7 N e a){o:T3}{s:Nat}{b:Bool}(q:o.guard=σ (j,b))(r:(ops[j]?).bind (·.dst)=σ s)(U:look e s=σ .u):Region.wanted o (yielded ops a.tmps)=false:=by
 have h:=p.2 s .u U;have w:yielded ops a.tmps j=ν:=by
  rw[Array.getD_eq_getD_getElem?]at h;unfold yielded;rw[r];cases f:a.tmps[s]? with
  |none=>simp[f]
  |some y=>
   rw[f]at h;simp only[V4,eA.val]at h;subst h;simp[f,undef]
 simp[Region.wanted,q,w]
def S7.lit{e:Env}{a:Act}(h:S7 N e a){s:Nat}{x:eA}{c:Bool}(U:look e s=σ x)(J:x.val= .bool c):S7 N ((s,.b c)::e) a:=by
 refine⟨h.1,λt y f=>?_⟩;simp only[look]at f;cases p:S0 s t with
 |true=>
  have:s=t:=Nat.eq_of_beq_eq_true p;subst this;simp only[p,cond_true,Y3]at f;subst f;rw[h.2 s x U,J];rfl
 |false=>simp only[p,cond_false]at f;exact h.2 t y f
def yP{o:T3}{e:Env}{a:Act}{K:Env->x3->Prop}{Q:Exit->Act->x3->Prop}(h:sf P free ops o e w K)(f:S7 N e a)(p:jT N o.dst=true):
  (Region.wanted o (yielded ops a.tmps)=true/\o.wpIn (eu r) 0 P a w (fm N free K o a w) Q)\/
  (Region.wanted o (yielded ops a.tmps)=false/\fm N free K o a w (a.put o.dst undef) w):=by
 unfold sf at h;cases q:o.guard with
 |none=>rw[q]at h;exact .inl ⟨by simp[Region.wanted,q],se h f p⟩
 |some C=>
  have⟨j,b⟩:=C;rw[q]at h;simp only at h;cases z:(ops[j]?).bind (·.dst)with
  |none=>rw[z]at h;exact h.elim
  |some s=>
   rw[z]at h;simp only at h;cases U:look e s with
   |none=>rw[U]at h;exact h.elim
   |some x=>
    rw[U]at h;cases x with
    |b c=>
     simp only at h;have hw:=sg f q z U (c:=c) T;cases J:xor c b with
     |true=>
      rw[J]at h hw;exact .inr ⟨hw,fm.of h f p T λ_=>cC.refl _ _⟩
     |false=>
      rw[J]at h hw;exact .inl ⟨hw,se h f p⟩
    |v y=>
     simp only at h;obtain⟨c,rfl,A,ae⟩:=h;have hw:=sg f q z U (c:=c) T;have B:=f.lit U (c:=c) T;cases c with
     |true=>
      have A:=A T;cases b with
      |true=>exact .inl ⟨hw,se A B p⟩
      |false=>exact .inr ⟨hw,fm.of A B p T λ_=>cC.refl _ _⟩
     |false=>
      have ae:=ae T;cases b with
      |true=>exact .inr ⟨hw,fm.of ae B p T λ_=>cC.refl _ _⟩
      |false=>exact .inl ⟨hw,se ae B p⟩
    |u=>exact .inr ⟨yO f q z U,fm.of h f p T λ_=>cC.refl _ _⟩
def gO(D:List Nat)(a a':Act):Prop:=a'.defers=a.defers/\∀t,t∉D->a'.tmps.getD t undef=a.tmps.getD t undef
def gO.refl(D:List Nat)(a:Act):gO D a a:=⟨T,λ_ _=>rfl⟩
def gO.trans{a b c:Act}(h:gO D a b)(k:gO D b c):gO D a c:=⟨k.1.trans h.1,λt e=>(k.2 t e).trans (h.2 t e)⟩
def gO.put(a:Act){d:Option Tmp}(v:x1)(e:∀t,d=σ t->t∈D):gO D a (a.put d v):=by
 cases d with
 |none=>exact gO.refl _ _
 |some s=>
  refine⟨T,λt f=>?_⟩;have p:s≠t:=λh=>f (h▸e s T);simp only[Act.put,Array.getD_eq_getD_getElem?];rw[Array.getElem?_setIfInBounds_ne p]
def mK(N:Nat)(free:fJ)(K:Env->x3->Prop)(D:List Nat)(a:Act)(w:x3)(a':Act)(w':x3):Prop:=
 ∃e,K e w'/\S7 N e a'/\gO D a a'/\(free.1=false->cC free.2 w w')
def mK.step{K:Env->x3->Prop}{a e a':Act}{V:x3}(h:mK N free K D e V a' w')(hk:gO D a e)(f:free.1=false->cC free.2 w V):
  mK N free K D a w a' w':=by
 have⟨p,h1,q,r,s⟩:=h;exact⟨p,h1,q,hk.trans r,λae=>(f ae).trans (s ae)⟩
def nJ(N:Nat)(l:List T3):Bool:=l.all λo=>jT N o.dst
def Gc{K:Env->x3->Prop}{Q:Exit->Act->x3->Prop}(A:∀o∈ops.toList,∀t,o.dst=σ t->t∈D)(x:nJ N ops.toList=true):
  ∀(l:List T3)(k:Nat)(e:Env)(a:Act)(w:x3),(∀j,l[j]?=ops[k+j]?)->o3 P free ops l e w K->S7 N e a->
   (∀a' w',mK N free K D a w a' w'->Q .normal a' w')->wpOpsIn (eu r) 0 P ops Q (List.range' k l.length) a w:=by
 intro l;induction l with
 |nil=>
  intro k e a w _ h f p;exact p a w ⟨e,h,f,gO.refl _ _,λ_=>cC.refl _ _⟩
 |cons o l B=>
  intro k e a w y h f p;have q:=y 0;simp only[List.getElem?_cons_zero,Nat.add_zero]at q;have z:o∈ops.toList:=by
   have:=q.symm;rw[<-S9]at this;exact x5 this
  have C:jT N o.dst=true:=by
   simp only[nJ,List.all_eq_true]at x;exact x o z
  have E:∀j,l[j]?=ops[k+1+j]?:=λj=>by
   have:=y (j+1);rw[List.getElem?_cons_succ]at this;rw[this];congr 1;omega
  have next:∀s V,fm N free (λF w'=>o3 P free ops l F w' K) o a w s V->wpOpsIn (eu r) 0 P ops Q (List.range' (k+1) l.length) s V:=by
   rintro s V ⟨G,v,H,I,rfl,L⟩;refine B (k+1) G _ V E H I λa' w' M=>p a' w' (M.step (gO.put a v λt O=>A o z t O) L)
  simp only[o3]at h;show wpOpsIn (eu r) 0 P ops Q (k::List.range' (k+1) l.length) a w;unfold wpOpsIn;rw[<-q];simp only;rcases yP (r:=r) (Q:=Q) h f C with⟨hw,J⟩|⟨hw,J⟩
  .rw[if_pos hw];exact T3.wpIn_mono next J
  .rw[hw];exact⟨λ_ _=>trivial,next _ _ J⟩
def Gd{K:Env->x3->Prop}{Q:Exit->Act->x3->Prop}{id:Nat}{e:Env}{a:Act}(f:∀o∈ops.toList,∀t,o.dst=σ t->t∈D)(p:nJ N ops.toList=true)(h:o3 P free ops ops.toList e w K)(q:S7 N e a)(s:∀a' w',mK N free K D a w a' w'->Q .normal a' w'):
  (Code.region id ops false).wpIn (eu r) 0 P Q a w:=by
 apply wpIn_region;have:=Gc (r:=r) f p ops.toList 0 e a w (λj=>Ξ) h q s;rw[List.range_eq_range'];simpa using this
end
section
variable{P:W8}{N:Nat}{r:Option Nat}{free:fJ}{ops:Array T3}{Q:Exit->Act->x3->Prop}
def Ge(e:Option Nat)(o:T3)(U:∀cs b,o.op≠ .select cs b)(a:Act)(d:Option Tmp)(v:x1)(h:∀t,d=σ t->t∉o.looksAt ops):
  o.semAt e (a.put d v).eval=o.semAt e a.eval:=by
 have he:=execOp_put o U a d v h;unfold T3.semAt;split
 .rename_i l c f;have:resolve (a.put d v).eval c o.type=resolve a.eval c o.type:=resolve_congr c o.type λx J=>Act.eval_put λt p q=>h t p (by
   subst q;refine List.mem_append_left _ (List.mem_filterMap.2 ⟨.tmp t,?_,T⟩);rw[f];simpa[Op.operands]using J)
  rw[this]
 .exact he
def mL(o:T3)(w0:x3)(st:x3->Prop)(w':x3):Prop:=l0 o=true\/Ext w0 w'\/∃V,st V/\Ext V w'
def mL.ext{o:T3}{w0:x3}{st:x3->Prop}(h:mL o w0 st w)(k:Ext w w'):mL o w0 st w':=by
 rcases h with h|h|⟨V,h1,a⟩
 .exact .inl h
 .exact .inr (.inl (h.trans k))
 .exact .inr (.inr ⟨V,h1,a.trans k⟩)
def Gf{o:T3}(hm:l0 o=true){a:S4->x1}(h:(execOp a o).run P w= .ok (.value v) w):(execOp a o).run P w'= .ok (.value v) w':=by
 unfold l0 at hm;split at hm
 .rename_i x J;unfold execOp at h ⊢;simp only[J,V3,Result.ok.injEq,and_true]at h ⊢;exact h
 .rename_i x J;unfold execOp at h ⊢;simp only[J,V3,Result.ok.injEq,and_true]at h ⊢;exact h
 .rename_i x i J;unfold execOp at h ⊢;simp only[J]at h ⊢;exact((Still.bind (Still.extract _ _) λ_=>Still.pure _) _ _ _ h).2 _
 .rename_i t x i J;unfold execOp at h ⊢;simp only[J]at h ⊢;exact((Still.bind (Still.indexAt _ _ _) λ_=>Still.pure _) _ _ _ h).2 _
 .cases hm
def iv(P:W8)(ops:Array T3)(o:T3)(v:x1)(a:Act)(w0:x3->Prop):Prop:=
 (Region.wanted o (yielded ops a.tmps)=true/\(∀c,o.op≠ .defer c)/\∀w',w0 w'->(execOp a.eval o).run P w'= .ok (.value v) w')\/
 (Region.wanted o (yielded ops a.tmps)=false/\v=undef)
def iv.put{o e:T3}{a:Act}{w0:x3->Prop}(f:iv P ops o v a w0)(U:∀cs b,o.op≠ .select cs b)(h:∀t,e.dst=σ t->t∉o.looksAt ops)(u:x1):
  iv P ops o v (a.put e.dst u) w0:=by
 unfold iv at*;rw[execOp_put o U a e.dst u h,wanted_put o a e.dst u h];exact f
def iv.go{i:Nat}{e:T3}{a:Act}{w0:x3->Prop}(hi:ops[i]?=σ e)(f:iv P ops e v a w0)(hw:w0 w){K:Act->x3->Prop}(h:K (a.put e.dst v) w):
  wpOpIn (eu r) 0 P ops Q i K a w:=by
 unfold wpOpIn;simp only[hi];rcases f with⟨h1,p,q⟩|⟨h1,rfl⟩
 .rw[if_pos h1];refine⟨λ_ _=>trivial,?_⟩;rw[T3.semAt_eq _ _ _ p,q w hw,T3.uponIn_value];exact h
 .rw[h1];exact⟨λ_ _=>trivial,h⟩
def Gg{p s:T3}(B:ops[j]?=σ s)(C:p.apart ops s=true)(E:∀cs b,p.op≠ .select cs b)(F:∀cs b,s.op≠ .select cs b)(z:∀c a w,¬Q (.panic c) a w){K:Act->x3->Prop}{a:Act}{w:x3}{w0:x3->Prop}(q:iv P ops p v a w0)(h:wpOpIn (eu r) 0 P ops Q j K (a.put p.dst v) w):
  wpOpIn (eu r) 0 P ops Q j (λa' w'=>iv P ops p v a' w0/\K (a'.put p.dst v) w') a w:=by
 have⟨h1,y,G⟩:=T3.apart_spec C;have a6:∀(a:Act),iv P ops p v a w0->∀u,iv P ops p v (a.put s.dst u) w0:=λa q u=>q.put E G u;have H:∀d,iv P ops p v {a with defers:=d::a.defers} w0:=λd=>q;unfold wpOpIn at*;simp only[B]at*;rw[wanted_put s a p.dst v h1]at h;split
 .rename_i hw;simp only[hw,if_true]at h;have⟨_,h⟩:=h;refine⟨λ_ _=>trivial,?_⟩;rw[Ge _ s F a p.dst v h1]at h;generalize (s.semAt (eu r).round a.eval).run P w=res at*;cases res with
  |ok n w'=>
   cases n<;>simp only[T3.uponIn]at h ⊢
   case value u=>exact⟨a6 a q u,by rw[<-Act.put_comm a v u y];exact h⟩
   case skip=>exact⟨a6 a q _,by rw[<-Act.put_comm a v undef y];exact h⟩
   case defer d=>
    refine⟨a6 _ (H d) _,?_⟩;rw[<-Act.put_comm _ v undef y,<-Act.put_defers];exact h
   case enter f args=>
    refine⟨h.1,CallsIn.mono h.2 λe A he=>?_⟩;cases e with
    |returned u=>exact⟨a6 a q u,by rw[<-Act.put_comm a v u y];exact he⟩
    |panicked c=>exact absurd he (z _ _ _)
    |outgrown=>exact he
   case row row args=>exact⟨h.1,RowsIn.mono h.2 λu A he=>⟨a6 a q u,by rw[<-Act.put_comm a v u y];exact he⟩⟩
   case round l f tmps I body=>
    refine⟨h.1,RoundIn.mono h.2 λe A he=>?_⟩;cases e with
    |returned u=>exact⟨a6 a q u,by rw[<-Act.put_comm a v u y];exact he⟩
    |panicked c=>exact absurd he (z _ _ _)
    |outgrown=>exact he
  |halt x w'=>
   cases x<;>simp only[T3.uponIn]at h ⊢
   case panic u=>exact absurd h (z _ _ _)
 .rename_i hw;simp only[hw]at h;exact⟨λ_ _=>trivial,a6 a q _,by rw[<-Act.put_comm a v undef y];exact h.2⟩
def l1(ops:Array T3)(bs:Array Nat):Bool:=
 (Y1 ops.size).all λj=>(Y1 ops.size).all λk=>!((bs.getD j 0).testBit k)||
  (match ops[j]? with
   |some o=>o.after.any λe=>Region.binds .any e&&Nat.blt e.on j&&(S0 e.on k||(bs.getD e.on 0).testBit k)
   |none=>false)
def Down(ops:Array T3)(a:Array Bool):Prop:=
 ∀(x:Nat)(o:T3),ops[x]?=σ o->a.getD x false=true->∀e∈o.after,Region.binds .any e=true->a.getD e.on false=true
def yQ{bs:Array Nat}(a:l1 ops bs=true){k:Nat}(p:j<ops.size)(hk:k<ops.size)(h:(bs.getD j 0).testBit k=true):
  ∃o,ops[j]?=σ o/\∃e∈o.after,Region.binds .any e=true/\e.on<j/\(e.on=k\/(bs.getD e.on 0).testBit k=true):=by
 simp only[l1,List.all_eq_true,T8]at a;have:=a j p k hk;rw[h]at this;simp only[Y7,Bool.false_or]at this;cases f:ops[j]? with
 |none=>rw[f]at this;cases this
 |some o=>
  rw[f]at this;have⟨e,he,J⟩:=Array.any_eq_true'.1 this;simp only[V5,Nat.blt_eq,Bool.or_eq_true]at J;exact⟨o,T,e,he,J.1.1,J.1.2,J.2.imp (λh=>Nat.eq_of_beq_eq_true h) id⟩
def Gh{bs:Array Nat}{a:Array Bool}(p:l1 ops bs=true)(q:Down ops a):∀(j k:Nat),j<ops.size->k<ops.size->a.getD j false=true->
  (bs.getD j 0).testBit k=true->a.getD k false=true:=by
 intro j;induction j using Nat.strongRecOn with
 |_ j r=>
  intro k s hk w h;have⟨o,x,e,he,y,z,h⟩:=yQ p s hk h;have f:=q j o x w e he y;rcases h with rfl|h
  .exact f
  .exact r e.on z k Ω hk f h
def yR{bs:Array Nat}{a:Array Bool}(f:l1 ops bs=true)(s:Down ops a){k:Nat}(hk:k<ops.size)(w:j∈Region.ready .any ops a)(h:(bs.getD j 0).testBit k=true):a.getD k false=true:=by
 have⟨_,o,p,x⟩:=mem_ready.1 w;have y:=(j4.1 p).1;have⟨o',q,e,he,z,A,h⟩:=yQ f y hk h;rw[p]at q;cases q;have r:=x e he z;rcases h with rfl|h
 .exact r
 .exact Gh f s e.on k Ω hk r h
def Down.set{a:Array Bool}(r:Down ops a){i:Nat}(s:i∈Region.ready .any ops a):Down ops (a.setIfInBounds i true):=by
 intro x o J f e he h;by_cases p:x=i
 .subst p;have⟨_,o',q,w⟩:=mem_ready.1 s;rw[J]at q;cases q;exact getD_set_true (w e he h)
 .rw[getD_set_ne false (Ne.symm p)]at f;exact getD_set_true (r x o J f e he h)
def u2{a:Array Bool}{k:Nat}(h:a.getD k true=false):a.getD k false=false:=by
 rcases Nat.lt_or_ge k a.size with h'|h'
 .simpa[h']using h
 .simp[Array.getElem?_eq_none h']at h
def mM(ops:Array T3)(i:Nat):Bool:=match ops[i]? with
 |some o=>jo o
 |none=>false
def mN(bs:Array Nat)(a:List (x3×List (Nat×(x3->Prop))))(j:Nat)(w':x3):Prop:=∀g∈a,∀x∈g.2,k6 bs j x.1=true->Ext g.1 w'\/x.2 w'
theorem u3{bs:Array Nat}{j:Nat}{w':x3}:∀{l:List (Nat×(x3->Prop))},pa bs j w' l->∀x∈l,k6 bs j x.1=true->x.2 w'
 |[],_,_,h,_=>by cases h
 |y::l,h,x,J,hu=>by
  unfold pa at h;cases a:k6 bs j y.1 with
  |true=>
   rw[a]at h;cases J with
   |head=>exact h.1
   |tail _ J=>exact u3 h.2 x J hu
  |false=>
   rw[a]at h;cases J with
   |head=>rw[a]at hu;cases hu
   |tail _ J=>exact u3 (show pa bs j w' l from h) x J hu
theorem yS{bs:Array Nat}{j:Nat}:∀{l:List (Nat×(x3->Prop))},qq bs j l=false->∀x∈l,k6 bs j x.1=false
 |[],_,_,h=>by cases h
 |y::l,h,x,J=>by
  simp only[qq,S8]at h;cases J with
  |head=>exact h.1
  |tail _ J=>exact yS h.2 x J
theorem va{bs:Array Nat}{j:Nat}{w':x3}{C:Prop}:∀{q:List (x3×List (Nat×(x3->Prop)))},nI bs j w' C q->C/\mN bs q j w'
 |[],h=>⟨h,λg s=>by cases s⟩
 |g::r,h=>by
  unfold nI at h;cases hu:qq bs j g.2 with
  |true=>
   rw[hu]at h;have⟨h1,f⟩:=va h.2;refine⟨h1,λp a x J e=>?_⟩;cases a with
   |head=>exact h.1.imp id λh=>u3 h x J e
   |tail _ a=>exact f p a x J e
  |false=>
   rw[hu]at h;have⟨h1,f⟩:=va (show nI bs j w' C r from h);refine⟨h1,λp a x J e=>?_⟩;cases a with
   |head=>rw[yS hu x J]at e;cases e
   |tail _ a=>exact f p a x J e
def vb(ops:Array T3)(bs:Array Nat)(a:List (x3×List (Nat×(x3->Prop))))(j:Nat)(w w':x3):Prop:=(mM ops j=true->Ext w w')/\(mM ops j=false->mN bs a j w')
def iR(r:Option Nat)(P:W8)(ops:Array T3)(bs:Array Nat)(Q:Exit->Act->x3->Prop):Nat->Array Bool->List (x3×List (Nat×(x3->Prop)))->Act->x3->Prop
 |0,e,_,a,w=>Region.ready .any ops e=[]/\Q .normal a w
 |fuel+1,e,f,a,w=>(Region.ready .any ops e=[]->Q .normal a w)/\
  ∀i∈Region.ready .any ops e,wpOpIn (eu r) 0 P ops Q i (λa' w'=>vb ops bs f i w w'/\iR r P ops bs Q fuel (e.setIfInBounds i true) f a' w') a w
theorem iR.any{bs:Array Nat}:∀(fuel:Nat)(e:Array Bool)(f:List (x3×List (Nat×(x3->Prop))))(a:Act)(w:x3),iR r P ops bs Q fuel e f a w->wpAnyIn (eu r) 0 P .any ops Q fuel e a w
 |0,_,_,_,_,h=>h
 |fuel+1,_,_,_,_,h=>⟨h.1,λi hi=>wpOpIn_mono (λa' w' h'=>iR.any fuel _ _ a' w' h'.2) (h.2 i hi)⟩
def Gi{bs:Array Nat}{a:Array Bool}(e:l1 ops bs=true)(f:Down ops a){i:Nat}{r:T3}(hi:ops[i]?=σ r)(p:i∈Region.ready .any ops a)(q:j∈Region.ready .any ops a)(s:j≠i):k6 bs j i=true:=by
 have w:=(j4.1 hi).1;have⟨x,B,y,_⟩:=mem_ready.1 q;have z:=(j4.1 y).1;have A:=(mem_ready.1 p).1;simp only[k6,V5,Bool.not_eq_true'];refine⟨?_,?_,?_⟩
 .cases h:S0 i j with
  |true=>exact absurd (Nat.eq_of_beq_eq_true h).symm s
  |false=>rfl
 .cases h:(bs.getD j 0).testBit i with
  |true=>have:=yR e f w q h;rw[u2 A]at this;cases this
  |false=>rfl
 .cases h:(bs.getD i 0).testBit j with
  |true=>have:=yR e f z p h;rw[u2 x]at this;cases this
  |false=>rfl
def iR.take{bs:Array Nat}(S:l1 ops bs=true)(T:Region.noSelect ops=true)(U:∀c a w,¬Q (.panic c) a w){i:Nat}{p:T3}(hi:ops[i]?=σ p)(V:jo p=true){w0:x3}{A ev':List (x3×List (Nat×(x3->Prop)))}(G:∀j w',mN bs ev' j w'->mN bs A j w'){st:x3->Prop}(W:l0 p=false->∀j w',k6 bs j i=true->mN bs ev' j w'->Ext w0 w'\/st w'):
  ∀(fuel:Nat)(f:Array Bool)(a:Act)(w:x3),Down ops f->
   (∀j y,ops[j]?=σ y->j≠i->f.getD j true=false->(∀e∈y.after,Region.binds .any e=true->e.on≠i)->p.apart ops y=true)->
   i∈Region.ready .any ops f->iv P ops p v a (mL p w0 st)->mL p w0 st w->
   iR r P ops bs Q fuel (f.setIfInBounds i true) ev' (a.put p.dst v) w->iR r P ops bs Q (fuel+1) f A a w:=by
 have I:=Region.noSelect_spec T;have X:mM ops i=true:=by simp[mM,hi,V]
 have h6:∀(fuel:Nat)(f:Array Bool)(a:Act)(w:x3),iR r P ops bs Q fuel f ev' a w->iR r P ops bs Q fuel f A a w:=by
  intro fuel;induction fuel with
  |zero=>intro f a w h;exact h
  |succ fuel C=>intro f a w h;exact⟨h.1,λj s=>wpOpIn_mono (λa' w' h'=>⟨⟨h'.1.1,λE=>G _ _ (h'.1.2 E)⟩,C _ a' w' h'.2⟩) (h.2 j s)⟩
 have J:∀w,vb ops bs A i w w:=λw=>⟨λ_=>Ext.refl _,λh=>by rw[X]at h;cases h⟩;intro fuel;induction fuel with
 |zero=>
  intro f a w _ _ x B hw H;refine⟨λh=>(by rw[h]at x;cases x),λj s=>?_⟩;by_cases q:j=i
  .subst q;exact B.go hi hw ⟨J w,h6 _ _ _ _ H⟩
  .have:=ready_mono s q;rw[H.1]at this;cases this
 |succ fuel C=>
  intro f a w K L x B hw H;refine⟨λh=>(by rw[h]at x;cases x),λj s=>?_⟩;by_cases q:j=i
  .subst q;exact B.go hi hw ⟨J w,h6 _ _ _ _ H⟩
  .have h1:=H.2 j (ready_mono s q);have hu:=Gi S K hi x s q;have⟨M,y,F,Y⟩:=mem_ready.1 s;have Z:∀e∈y.after,Region.binds .any e=true->e.on≠i:=λe he aa ab=>by
    have h1:=Y e he aa;rw[ab,u2 (mem_ready.1 x).1]at h1;cases h1
   have ac:=Gg F (L j y F q M Z) (λcs b=>I i p cs b hi) (λcs b=>I j y cs b F) U B h1;have ad:∀k ok,ops[k]?=σ ok->k≠i->(f.setIfInBounds j true).getD k true=false->
     (∀e∈ok.after,Region.binds .any e=true->e.on≠i)->p.apart ops ok=true:=λk ok hk ae N af=>by
    refine L k ok hk ae ?_ af;by_cases O:j=k
    .subst O;exact M
    .rw[getD_set_ne true O]at N;exact N
   refine wpOpIn_mono (λa' w' z=>⟨⟨z.2.1.1,λE=>G _ _ (z.2.1.2 E)⟩,C (f.setIfInBounds j true) a' w' (K.set s) ad (ready_mono x (Ne.symm q)) z.1 ?_ ?_⟩) ac
   .cases hm:l0 p with
    |true=>exact .inl hm
    |false=>
     cases R:mM ops j with
     |true=>exact hw.ext (z.2.1.1 R)
     |false=>exact .inr ((W hm j w' hu (z.2.1.2 R)).imp id λh=>⟨w',h,Ext.refl _⟩)
   .rw[Array.setIfInBounds_comm _ _ q];exact z.2.2
theorem yT{p:Nat->Prop}:∀{l:List Nat},u0 p l->∀i∈l,p i
 |[],_,_,h=>by cases h
 |[i],h,j,a=>by cases a with
  |head=>exact h
  |tail _ h=>cases h
 |i::k::l,h,j,a=>by
  have⟨h1,e⟩:=h;cases a with
  |head=>exact h1
  |tail _ a=>exact yT e j a
theorem vc:∀{l:List Nat}{q:Nat},mI ops l=σ q->q∈l/\∃o,ops[q]?=σ o/\jo o=true
 |[],q,h=>by cases h
 |i::l,q,h=>by
  simp only[mI]at h;cases a:ops[i]? with
  |none=>rw[a]at h;have⟨h1,e⟩:=vc h;exact⟨.tail _ h1,e⟩
  |some o=>
   rw[a]at h;simp only at h;cases f:jo o with
   |true=>rw[f]at h;simp only[cond_true,Y3]at h;subst h;exact⟨.head _,o,a,f⟩
   |false=>rw[f]at h;have⟨h1,e⟩:=vc h;exact⟨.tail _ h1,e⟩
def Gj{o:T3}{e:Env}{a:Act}{K:Env->(x3->Prop)->Prop}(h:uZ P ops o e w K)(f:S7 N e a)(C:jT N o.dst=true):
  ∃v st,iv P ops o v a (mL o w st)/\∃p,K p st/\S7 N p (a.put o.dst v):=by
 unfold uZ at h;have z:∀{e:Env},S7 N e a->lY P o e w K->Region.wanted o (yielded ops a.tmps)=true->∃v st,iv P ops o v a (mL o w st)/\∃p,K p st/\S7 N p (a.put o.dst v):=λf h hw=>by
  have⟨v,st,h1,E,F,G⟩:=yN h f C;exact⟨v,st,.inl ⟨hw,F,λw' J=>J.elim (λhm=>Gf hm (h1 w (Ext.refl w))) λh=>h.elim (h1 w') λ⟨V,H,I⟩=>G V H w' I⟩,E⟩
 have skip:∀{e:Env},S7 N e a->K (dY e o.dst .u) (λ_=>True)->Region.wanted o (yielded ops a.tmps)=false->∃v st,iv P ops o v a (mL o w st)/\∃p,K p st/\S7 N p (a.put o.dst v):=λf h hw=>
  ⟨undef,_,.inr ⟨hw,T⟩,_,h,f.put C T⟩
 cases q:o.guard with
 |none=>rw[q]at h;exact z f h (by simp[Region.wanted,q])
 |some L=>
  have⟨j,b⟩:=L;rw[q]at h;simp only at h;cases r:(ops[j]?).bind (·.dst)with
  |none=>rw[r]at h;exact h.elim
  |some s=>
   rw[r]at h;simp only at h;cases U:look e s with
   |none=>rw[U]at h;exact h.elim
   |some x=>
    rw[U]at h;cases x with
    |b c=>
     simp only at h;have hw:=sg f q r U (c:=c) T;cases J:xor c b with
     |true=>rw[J]at h hw;exact skip f h hw
     |false=>rw[J]at h hw;exact z f h hw
    |v y=>
     simp only at h;obtain⟨c,rfl,A,ae⟩:=h;have hw:=sg f q r U (c:=c) T;have B:=f.lit U (c:=c) T;cases c with
     |true=>
      have A:=A T;cases b with
      |true=>exact z B A hw
      |false=>exact skip B A hw
     |false=>
      have ae:=ae T;cases b with
      |true=>exact skip B ae hw
      |false=>exact z B ae hw
    |u=>exact skip f h (yO f q r U)
theorem vd:∀{l:List Nat},mI ops l=ν->∀j∈l,mM ops j=false
 |[],_,_,h=>by cases h
 |i::l,h,j,a=>by
  simp only[mI]at h;cases e:ops[i]? with
  |none=>
   rw[e]at h;cases a with
   |head=>simp[mM,e]
   |tail _ a=>exact vd h j a
  |some o=>
   rw[e]at h;simp only at h;cases f:jo o with
   |true=>rw[f]at h;cases h
   |false=>
    rw[f]at h;cases a with
    |head=>simp[mM,e,f]
    |tail _ a=>exact vd h j a
def Gk{bs:Array Nat}{same:Bool}{q:Nat}{st:x3->Prop}{a:List (x3×List (Nat×(x3->Prop)))}(U:same=true->∃ks r,a=(w,ks)::r):
  (∀j w',mN bs (qp same q w st a) j w'->mN bs a j w')/\(∀j w',k6 bs j q=true->mN bs (qp same q w st a) j w'->Ext w w'\/st w')/\∃ks r,qp same q w st a=(w,ks)::r:=by
 cases same with
 |true=>
  obtain⟨ks,r,rfl⟩:=U T;refine⟨λj w' h g e x J hu=>?_,λj w' hu h=>h (w,(q,st)::ks) (.head _) (q,st) (.head _) hu,_,_,T⟩;cases e with
  |head=>exact h (w,(q,st)::ks) (.head _) x (.tail _ J) hu
  |tail _ e=>exact h g (.tail _ e) x J hu
 |false=>
  refine⟨λj w' h g e x J hu=>h g (.tail _ e) x J hu,λj w' hu h=>h (w,[(q,st)]) (.head _) (q,st) (.head _) hu,_,_,T⟩
def Gl{K:Env->x3->Prop}{bs:Array Nat}(U:l1 ops bs=true)(W:Region.noSelect ops=true)(X:∀c a w,¬Q (.panic c) a w)(M:∀o∈ops.toList,∀t,o.dst=σ t->t∈D)(Y:nJ N ops.toList=true):
  ∀(fuel:Nat)(p:Array Bool)(same:Bool)(s:List (x3×List (Nat×(x3->Prop))))(e:Env)(a:Act)(w:x3),Down ops p->(same=true->∃ks r,s=(w,ks)::r)->
   mJ P free ops bs fuel p same s e w K->S7 N e a->
   (∀a' w',mK N free K D a w a' w'->Q .normal a' w')->iR r P ops bs Q fuel p s a w:=by
 have F:∀{j:Nat}{o:T3},ops[j]?=σ o->o∈ops.toList:=λh=>by
  rw[<-S9]at h;exact x5 h
 have ok:∀{j:Nat}{o:T3},ops[j]?=σ o->jT N o.dst=true:=λh=>by
  simp only[nJ,List.all_eq_true]at Y;exact Y _ (F h)
 intro fuel;induction fuel with
 |zero=>
  intro p same s e a w A O h C B;unfold mJ at h;cases y:Region.ready .any ops p with
  |nil=>rw[y]at h;exact⟨y,B a w ⟨e,h,C,gO.refl _ _,λ_=>cC.refl _ _⟩⟩
  |cons i l=>rw[y]at h;exact h.elim
 |succ fuel R=>
  intro p same s e a w A O h C B;unfold mJ at h;cases y:Region.ready .any ops p with
  |nil=>
   rw[y]at h;refine⟨λ_=>B a w ⟨e,h,C,gO.refl _ _,λ_=>cC.refl _ _⟩,λi hi=>?_⟩;rw[y]at hi;cases hi
  |cons i l=>
   rw[y]at h;simp only at h;cases G:mI ops (i::l)with
   |some q=>
    rw[G]at h;simp only at h;have⟨ae,o,f,Z⟩:=vc G;cases H:Region.free .any ops p q with
    |false=>rw[H]at h;exact h.elim
    |true=>
     rw[H,f]at h;simp only[cond_true]at h;have⟨v,st,aa,I,z,ab⟩:=Gj h C (ok f);have L:q∈Region.ready .any ops p:=by rw[y];exact ae
     cases hm:l0 o with
     |true=>
      rw[hm]at z;refine iR.take U W X f Z (w0:=w) (ev':=s) (λ_ _ h=>h) (λh=>by rw[hm]at h;cases h) fuel p a w A (Region.free_spec f H) L aa (.inr (.inl (Ext.refl _))) ?_;exact R _ same s I _ w (A.set L) O z ab λa' w' x=>B a' w' (x.step (gO.put a v λt E=>M o (F f) t E) λ_=>cC.refl _ _)
     |false=>
      rw[hm]at z;have⟨h1,af,ag⟩:=Gk (bs:=bs) (q:=q) (st:=st) O;apply iR.take U W X f Z (w0:=w) (ev':=qp same q w st s) h1 (λ_=>af) fuel p a w A (Region.free_spec f H) L aa (.inr (.inl (Ext.refl _)));exact R _ true _ I _ w (A.set L) (λ_=>ag) z ab λa' w' x=>B a' w' (x.step (gO.put a v λt E=>M o (F f) t E) λ_=>cC.refl _ _)
   |none=>
    rw[G]at h;simp only at h;refine⟨(λac=>by rw[y]at ac;cases ac),λj ad=>?_⟩;have S:=ad;rw[y]at S;have ah:=vd G j S;have x:=yT h j S;cases f:ops[j]? with
    |none=>rw[f]at x;exact x.elim
    |some o=>
     rw[f]at x;simp only at x;unfold wpOpIn;simp only[f];have next:∀T V,fm N free (λI w'=>nI bs j w' (mJ P free ops bs fuel (p.setIfInBounds j true) false s I w' K) s) o a w T V->
       vb ops bs s j w V/\iR r P ops bs Q fuel (p.setIfInBounds j true) s T V:=by
      rintro T V ⟨ai,v,z,aj,rfl,ak⟩;have⟨z,al⟩:=va z;exact⟨⟨λh=>(by rw[ah]at h;cases h),λ_=>al⟩,
       R _ false s ai _ V (A.set ad) (λh=>by cases h) z aj λa' w' x=>B a' w' (x.step (gO.put a v λt E=>M o (F f) t E) ak)⟩
     rcases yP (r:=r) (Q:=Q) x C (ok f)with⟨hw,J⟩|⟨hw,J⟩
     .rw[if_pos hw];exact T3.wpIn_mono next J
     .rw[hw];exact⟨λ_ _=>trivial,next _ _ J⟩
def Gm(hm:P.follows .mixedOrders=true){K:Env->x3->Prop}{id:Nat}{e:Env}{a:Act}(q:l1 ops (Region.before ops)=true)(s:∀c a w,¬Q (.panic c) a w)(y:∀o∈ops.toList,∀t,o.dst=σ t->t∈D)(z:nJ N ops.toList=true)(h:∀w',Ext w w'->Ext w' w->cM w w'->u1 P free ops e w' K)(A:S7 N e a)(B:∀a' w',mK N free K D a w a' w'->Q .normal a' w'):
  (Code.region id ops true).wpIn (eu r) 0 P Q a w:=by
 apply wpIn_region_any hm;have h:=h {w with drawn:=w.drawn+1} (r6 w _) ⟨o4 _,λ_ _ h _=>h⟩ (qk w _ (Nat.le_succ _));unfold u1 at h;cases f:Region.noSelect ops with
 |false=>rw[f]at h;exact h.elim
 |true=>
  rw[f]at h;refine iR.any _ _ _ _ _ (Gl q f s y z ops.size _ false [] e a _ ?_ (λh=>by cases h) h A λa' w' C=>B a' w' (C.step (gO.refl _ _) λ_=>(qk w _ (Nat.le_succ _)).b));intro x o _ p;rcases Nat.lt_or_ge x ops.size with h'|h'
  .simp[h']at p
  .simp[h']at p
end
def jp(t:Nat):List Nat->Bool
 |[]=>false
 |s::r=>bif S0 s t then true else jp t r
theorem ve{t:Nat}:∀{l:List Nat},jp t l=true↔t∈l
 |[]=>by simp[jp]
 |s::r=>by
  simp only[jp];cases h:S0 s t with
  |true=>simp[Nat.eq_of_beq_eq_true h]
  |false=>
   have:=Nat.ne_of_beq_eq_false h;simp[ve (l:=r),Ne.symm this]
def nK:List T3->List Nat
 |[]=>[]
 |o::l=>match o.dst with
  |some d=>d::nK l
  |none=>nK l
def tmpsOf:List S4->List Nat
 |[]=>[]
 | .tmp t::l=>t::tmpsOf l
 |_::l=>tmpsOf l
def Gn(ops:Array T3)(o:T3):List Nat:=
 match o.guard with
 |some (j,_)=>match(ops[j]?).bind (·.dst)with
  |some s=>[s]
  |none=>[]
 |none=>[]
def sh(D:List Nat):List Nat->List Nat
 |[]=>[]
 |t::r=>bif jp t D then sh D r else t::sh D r
def vf(D:List Nat):List Nat->List Nat
 |[]=>[]
 |t::r=>bif jp t D then t::vf D r else vf D r
def yU(ops:Array T3):List T3->List Nat->List Nat
 |[],_=>[]
 |o::l,D=>sh D (tmpsOf (opsOf o.op)++Gn ops o)++yU ops l (match o.dst with
  |some d=>d::D
  |none=>D)
def dD:Code->List Nat
 | .region _ ops _=>nK ops.toList
 | .seq a b=>dD a++dD b
 | .cond _ a b=>dD a++dD b
 | .block _ c=>dD c
 | .loop c=>dD c
 | .scope c=>dD c
 |_=>[]
def jU(id:Nat):Code->Nat
 | .seq a b=>jU id a+jU id b
 | .cond _ a b=>jU id a+jU id b
 | .block _ c=>jU id c
 | .loop c=>jU id c
 | .scope c=>jU id c
 | .exit i=>bif S0 i id then 1 else 0
 | .rangeFunc _ _ _ b=>jU id b
 |_=>0
def Gp(ops:Array T3):Bool:=
 let bs:=Region.before ops;let a:=λ(i:Nat)=>match ops[i]? with|some o=>!(jo o)|none=>false
 (Y1 ops.size).any λj=>a j&&((Y1 j).any λi=>a i&&(!((bs.getD j 0).testBit i)&& !((bs.getD i 0).testBit j)))
def k7:Code->Nat
 | .region _ ops e=>bif (e&&Gp ops)||ops.any (·.guard.isSome)then 2 else 1
 | .seq a b=>bif S0 (k7 a) 0 then 0 else k7 b
 | .cond _ a b=>k7 a+k7 b
 | .block id c=>k7 c+jU id c
 | .loop _=>0
 | .scope c=>k7 c
 | .exit _=>0
 | .goto _=>0
 | .ret=>0
 | .refuse _=>0
 |_=>1
def l2:Code->List Nat
 | .region _ ops _=>nK ops.toList
 | .seq a b=>l2 a++l2 b
 | .cond _ a b=>bif S0 (k7 a) 0 then l2 b else bif S0 (k7 b) 0 then l2 a else vf (l2 a) (l2 b)
 | .block id c=>bif S0 (jU id c) 0 then l2 c else[]
 | .scope c=>l2 c
 |_=>[]
def reads:Code->List Nat
 | .region _ ops _=>yU ops ops.toList []
 | .seq a b=>reads a++sh (l2 a) (reads b)
 | .cond c a b=>tmpsOf [c]++(reads a++reads b)
 | .block _ c=>reads c
 | .loop c=>reads c
 | .scope c=>reads c
 | .rangeFunc f _ a b=>tmpsOf [f]++(reads a++reads b)
 |_=>[]
def ky:Code->Bool
 | .seq a b=>ky a||ky b
 | .cond _ a b=>ky a||ky b
 | .block _ c=>ky c
 | .loop c=>ky c
 | .scope c=>ky c
 | .rangeFunc ..=>true
 |_=>false
def wf(N:Nat):Code->Bool
 | .region _ ops e=>nJ N ops.toList&&(!e||l1 ops (Region.before ops))
 | .seq a b=>wf N a&&wf N b
 | .cond _ a b=>wf N a&&wf N b
 | .block _ c=>wf N c
 | .loop c=>wf N c
 | .scope c=>wf N c
 | .rangeFunc _ f a b=>(f.toList.all λt=>Nat.blt t N)&&(wf N a&&wf N b)
 |_=>true
def nL:Nat->Type->Type
 |0,β=>β
 |n+1,β=>x1->nL n β
def app{β:Type}:(n:Nat)->nL n β->List x1->β
 |0,f,_=>f
 |n+1,f,[]=>app n (f undef) []
 |n+1,f,v::r=>app n (f v) r
def lam{β:Type}:(n:Nat)->(List x1->β)->nL n β
 |0,f=>f []
 |n+1,f=>λv=>lam n λr=>f (v::r)
def si:(n:Nat)->nL n Prop->Prop
 |0,p=>p
 |n+1,p=>∀v,si n (p v)
theorem sj{β:Type}:∀(n:Nat)(f:List x1->β)(vs:List x1),vs.length=n->app n (lam n f) vs=f vs
 |0,f,[],_=>rfl
 |n+1,f,v::r,h=>by
  simp only[app,lam];exact sj n _ r (by simpa using h)
theorem sk:∀(n:Nat)(p:nL n Prop)(vs:List x1),si n p->app n p vs
 |0,_,_,h=>h
 |n+1,_,[],h=>sk n _ [] (h undef)
 |n+1,_,v::r,h=>sk n _ r (h v)
def Gq(n:Nat)(vs:List x1)(w:x3)(B:List x1->x3->(List x1->x3->Prop)->Prop):Prop:=
 ∃(I:nL n (x3->Prop))(a:nL n (x3->Nat)),app n I vs w/\
  si n (lam n λus=>∀w',app n I us w'->B us w' λe f=>app n I e f/\app n a e f<app n a us w')
def Gr(w:x3)(B:x3->(x3->Prop)->Prop):Prop:=
 ∃(I:x3->Prop)(a:x3->Nat),I w/\∀w',I w'->B w' λe=>I e/\a e<a w'
def cp(a:x1)(w:x3)(B:x1->x3->(x1->x3->Prop)->Prop):Prop:=
 ∃(I:x1->x3->Prop)(e:x1->x3->Nat),I a w/\∀a w',I a w'->B a w' λa' f=>I a' f/\e a' f<e a w'
def bT(a b:x1)(w:x3)(B:x1->x1->x3->(x1->x1->x3->Prop)->Prop):Prop:=
 ∃(I:x1->x1->x3->Prop)(e:x1->x1->x3->Nat),I a b w/\∀a b w',I a b w'->B a b w' λa' f h=>I a' f h/\e a' f h<e a b w'
def kz(a b c:x1)(w:x3)(B:x1->x1->x1->x3->(x1->x1->x1->x3->Prop)->Prop):Prop:=
 ∃(I:x1->x1->x1->x3->Prop)(e:x1->x1->x1->x3->Nat),I a b c w/\
  ∀a b c w',I a b c w'->B a b c w' λa' f h p=>I a' f h p/\e a' f h p<e a b c w'
def sm(a b c d:x1)(w:x3)(B:x1->x1->x1->x1->x3->(x1->x1->x1->x1->x3->Prop)->Prop):Prop:=
 ∃(I:x1->x1->x1->x1->x3->Prop)(e:x1->x1->x1->x1->x3->Nat),I a b c d w/\
  ∀a b c d w',I a b c d w'->B a b c d w' λa' f h p q=>I a' f h p q/\e a' f h p q<e a b c d w'
def qs(a b c d e:x1)(w:x3)(B:x1->x1->x1->x1->x1->x3->(x1->x1->x1->x1->x1->x3->Prop)->Prop):Prop:=
 ∃(I:x1->x1->x1->x1->x1->x3->Prop)(f:x1->x1->x1->x1->x1->x3->Nat),I a b c d e w/\∀a b c d e w',I a b c d e w'->B a b c d e w' λa' h p q r s=>I a' h p q r s/\f a' h p q r s<f a b c d e w'
def Gs(a b c d e f:x1)(w:x3)(B:x1->x1->x1->x1->x1->x1->x3->(x1->x1->x1->x1->x1->x1->x3->Prop)->Prop):Prop:=
 ∃(I:x1->x1->x1->x1->x1->x1->x3->Prop)(h:x1->x1->x1->x1->x1->x1->x3->Nat),I a b c d e f w/\∀a b c d e f w',I a b c d e f w'->B a b c d e f w' λa' p q r s x y=>I a' p q r s x y/\h a' p q r s x y<h a b c d e f w'
def cz{α:Type}(aA:α)(B:α->Prop):Prop:=B aA
def vg(n:Nat)(w:x3)(K:x3->Prop):Prop:=∀w',Ext w w'->Ext w' w/\fI n w w'->K w'
def Over(n:Nat)(w:x3)(K:x3->Prop):Prop:=∀w',Ext w w'->Ext w' w/\fI n w w'->e4 w w'->K w'
def ev(w:x3)(K:x3->Prop):Prop:=∀w',Ext w w'->Ext w' w->cM w w'->K w'
def kA(e:Env):List Nat->Option (List x1)
 |[]=>σ []
 |t::r=>match look e t with
  |some x=>match kA e r with
   |some vs=>σ (x.val::vs)
   |none=>ν
  |none=>ν
def jq:List Nat->List x1->Env->Env
 |t::r,v::vs,e=>(t,.v v)::jq r vs e
 |_,_,e=>e
def l3(D:List Nat):Env->Env
 |[]=>[]
 |(t,x)::r=>bif jp t D then l3 D r else(t,x)::l3 D r
def qt(N:Nat)(D R:List Nat):List Nat:=(Y1 N).filter λt=>jp t D&&jp t R
def qu(N:Nat)(D R:List Nat)(e:Env):List Nat:=(Y1 N).filter λt=>jp t D&&((look e t).isSome&&jp t R)
def jr:Code->Bool
 | .seq a b=>jr a||jr b
 | .cond _ a b=>jr a||jr b
 | .block _ c=>jr c
 | .loop c=>jr c
 | .scope c=>jr c
 | .rangeFunc _ _ a b=>jr a||jr b
 | .ret=>true
 |_=>false
def Gt(i:Nat)(l:List Nat):List Nat:=bif jp i l then l else i::l
def sn:List Nat->List Nat->List Nat
 |[],l=>l
 |i::r,l=>Gt i (sn r l)
def vh(i:Nat):List Nat->List Nat
 |[]=>[]
 |j::r=>bif S0 i j then vh i r else j::vh i r
def jV:Code->List Nat
 | .seq a b=>sn (jV a) (jV b)
 | .cond _ a b=>sn (jV a) (jV b)
 | .block id c=>vh id (jV c)
 | .loop c=>jV c
 | .scope c=>jV c
 | .rangeFunc _ _ a b=>sn (jV a) (jV b)
 | .exit i=>[i]
 |_=>[]
def nM:List (Nat×(x3->Prop))->Nat->x3->Prop
 |[],_,_=>False
 |(j,k)::r,i,w=>(i=j/\k w)\/nM r i w
def vi(K:Nat->x3->Prop):List Nat->List (Nat×(x3->Prop))
 |[]=>[]
 |i::r=>(i,λw=>K i w)::vi K r
theorem yV{K:Nat->x3->Prop}:∀{l:List Nat}{i:Nat}{w:x3},nM (vi K l) i w->K i w
 |[],_,_,h=>h.elim
 |j::r,i,w,h=>by
  rcases h with⟨rfl,h⟩|h
  .exact h
  .exact yV h
section
variable(P:W8)
def pb{a:Type}(G:Bool)(g:R7)(cap:List x1)(q:a)(r:a->Prop)(s:a->List x1->a->x3->Prop)(h:x3->Prop):Prop:=
 Enters P g/\∀(l:Nat)(aA e:a->x3->Prop)(w:x3),
  (∀k V aa,Ext V aa->cC w.heap.size V aa->aA k V->aA k aa)->(∀k V aa,Ext V aa->cC w.heap.size V aa->e k V->e k aa)->
  (∀k p vs w',h w'->s k vs p w'->aA k w'->h5 P l vs w' λv f=>(v= .bool true/\h f/\aA p f/\(G=true->cM w' f))\/(v= .bool false/\e k f))->
  h w->aA q w->gN P g (.func (.yield l) #[] #[]::cap) w λ_ w'=>(∃k,r k/\aA k w')\/∃k,e k w'
def vj(G:Bool)(g:R7)(cap:List x1)(n:Nat)(h:Nat->List x1->x3->Prop)(f:x3->Prop):Prop:=
 Enters P g/\∀(l:Nat)(aA a:Nat->x3->Prop)(w:x3),
  (∀k V aa,Ext V aa->cC w.heap.size V aa->aA k V->aA k aa)->(∀k V aa,Ext V aa->cC w.heap.size V aa->a k V->a k aa)->
  (∀k vs w',k<n->f w'->h k vs w'->aA k w'->h5 P l vs w' λv e=>(v= .bool true/\f e/\aA (k+1) e/\(G=true->cM w' e))\/(v= .bool false/\a k e))->
  f w->aA 0 w->gN P g (.func (.yield l) #[] #[]::cap) w λ_ w'=>aA n w'\/∃k,k<n/\a k w'
def qv{e:Type}(o G:Bool)(g:R7)(cap:List x1)(q:e)(s:e->Prop)(x:e->List x1->e->x3->Prop)(h:(Nat->Prop)->x3->Prop):Prop:=
 Enters P g/\∀(l:Nat)(aA f:(Nat->Prop)->e->x3->Prop)(w:x3),
  (∀D k V aa,ai (λr=>o=true/\w.heap.size<=r/\¬D r) V aa->fI w.heap.size V aa->aA D k V->aA D k aa)->
  (∀D k V aa,ai (λr=>o=true/\w.heap.size<=r/\¬D r) V aa->fI w.heap.size V aa->f D k V->f D k aa)->
  (∀D k p vs w',(∀r,D r->w.heap.size<=r/\r<w'.heap.size)->w.heap.size<=w'.heap.size->h D w'->x k vs p w'->aA D k w'->h5 P l vs w' λv a=>
   (v= .bool true/\(∃D',(∀r,D' r->D r\/w'.heap.size<=r/\r<a.heap.size)/\(∀r,D r->D' r)/\h D' a/\aA D' p a)/\(G=true\/o=true->cM w' a)/\w'.heap.size<=a.heap.size/\(o=true->ai (λr=>r<w.heap.size\/D r) w' a))\/(o=false/\v= .bool false/\f D k a))->
  (h (λ_=>False) w)->aA (λ_=>False) q w->gN P g (.func (.yield l) #[] #[]::cap) w λ_ w'=>(∃D k,s k/\aA D k w')\/∃D k,f D k w'
abbrev pc(g:R7)(cap:List x1)(n:Nat)(a:Nat->List x1->x3->Prop)(e:x3->Prop):Prop:=vj P false g cap n a e
def Gu(z:x1)(q:Nat)(w:x3)(B:List x1->x3->(Exit->x3->Prop)->Prop)(A C:x3->Prop)(E:List (Nat×(x3->Prop))):Prop:=
 ∃(f:Type)(o G:Bool)(g:R7)(cap:Array x1)(x:f)(y:f->Prop)(s:f->List x1->f->x3->Prop)(e:(Nat->Prop)->x3->Prop)(I:(Nat->Prop)->f->x3->Prop)(h:(Nat->Prop)->f->Exit->x3->Prop),
  z= .func (.func g) #[] cap/\qv P o G g cap.toList x y s e/\(∀k vs p w,s k vs p w->vs.length=q)/\
  (∀m w w',Ext w w'->e m w->e m w')/\(∀m k V aa,ai (λr=>o=true/\w.heap.size<=r/\¬m r) V aa->fI w.heap.size V aa->I m k V->I m k aa)/\(∀m k ex V aa,ai (λr=>o=true/\w.heap.size<=r/\¬m r) V aa->fI w.heap.size V aa->h m k ex V->h m k ex aa)/\
  e (λ_=>False) w/\I (λ_=>False) x w/\
  si q (lam q λvs=>∀m k p w',(∀r,m r->w.heap.size<=r/\r<w'.heap.size)->w.heap.size<=w'.heap.size->e m w'->s k vs p w'->I m k w'->B vs w' λex a=>match ex with
   | .normal=>bif o then(∃b2,(∀r,b2 r->m r\/w'.heap.size<=r/\r<a.heap.size)/\(∀r,m r->b2 r)/\e b2 a/\I b2 p a)/\e4 w' a/\ai (λr=>r<w.heap.size\/m r) w' a else e m a/\I m p a/\(G=true->e4 w' a)
   |ex=>bif o then False else h m k ex a)/\
  (∀m k w',y k->I m k w'->A w')/\(∀m k w',h m k .ret w'->C w')/\(∀m k i w',h m k (.exit i) w'->nM E i w')
def jW(z:x1)(w:x3)(B:x1->x3->(Exit->x3->Prop)->Prop)(A C:x3->Prop)(E:List (Nat×(x3->Prop))):Prop:=
 ∃(h:Type)(o G:Bool)(g:R7)(cap:Array x1)(x:h)(y:h->Prop)(s:h->List x1->h->x3->Prop)(f:(Nat->Prop)->x3->Prop)(I:(Nat->Prop)->h->x3->Prop)(p:(Nat->Prop)->h->Exit->x3->Prop),
  z= .func (.func g) #[] cap/\qv P o G g cap.toList x y s f/\(∀k vs q w,s k vs q w->vs.length=1)/\
  (∀m w w',Ext w w'->f m w->f m w')/\(∀m k V aa,ai (λr=>o=true/\w.heap.size<=r/\¬m r) V aa->fI w.heap.size V aa->I m k V->I m k aa)/\(∀m k ex V aa,ai (λr=>o=true/\w.heap.size<=r/\¬m r) V aa->fI w.heap.size V aa->p m k ex V->p m k ex aa)/\
  f (λ_=>False) w/\I (λ_=>False) x w/\
  (∀a,∀m k q w',(∀r,m r->w.heap.size<=r/\r<w'.heap.size)->w.heap.size<=w'.heap.size->f m w'->s k [a] q w'->I m k w'->B a w' λex e=>match ex with
   | .normal=>bif o then(∃b2,(∀r,b2 r->m r\/w'.heap.size<=r/\r<e.heap.size)/\(∀r,m r->b2 r)/\f b2 e/\I b2 q e)/\e4 w' e/\ai (λr=>r<w.heap.size\/m r) w' e else f m e/\I m q e/\(G=true->e4 w' e)
   |ex=>bif o then False else p m k ex e)/\
  (∀m k w',y k->I m k w'->A w')/\(∀m k w',p m k .ret w'->C w')/\(∀m k i w',p m k (.exit i) w'->nM E i w')
def pd(z:x1)(w:x3)(B:x1->x1->x3->(Exit->x3->Prop)->Prop)(A C:x3->Prop)(E:List (Nat×(x3->Prop))):Prop:=
 ∃(h:Type)(o G:Bool)(g:R7)(cap:Array x1)(x:h)(y:h->Prop)(s:h->List x1->h->x3->Prop)(f:(Nat->Prop)->x3->Prop)(I:(Nat->Prop)->h->x3->Prop)(p:(Nat->Prop)->h->Exit->x3->Prop),
  z= .func (.func g) #[] cap/\qv P o G g cap.toList x y s f/\(∀k vs q w,s k vs q w->vs.length=2)/\
  (∀m w w',Ext w w'->f m w->f m w')/\(∀m k V aa,ai (λr=>o=true/\w.heap.size<=r/\¬m r) V aa->fI w.heap.size V aa->I m k V->I m k aa)/\(∀m k ex V aa,ai (λr=>o=true/\w.heap.size<=r/\¬m r) V aa->fI w.heap.size V aa->p m k ex V->p m k ex aa)/\
  f (λ_=>False) w/\I (λ_=>False) x w/\
  (∀a b,∀m k q w',(∀r,m r->w.heap.size<=r/\r<w'.heap.size)->w.heap.size<=w'.heap.size->f m w'->s k [a,b] q w'->I m k w'->B a b w' λex e=>match ex with
   | .normal=>bif o then(∃b2,(∀r,b2 r->m r\/w'.heap.size<=r/\r<e.heap.size)/\(∀r,m r->b2 r)/\f b2 e/\I b2 q e)/\e4 w' e/\ai (λr=>r<w.heap.size\/m r) w' e else f m e/\I m q e/\(G=true->e4 w' e)
   |ex=>bif o then False else p m k ex e)/\
  (∀m k w',y k->I m k w'->A w')/\(∀m k w',p m k .ret w'->C w')/\(∀m k i w',p m k (.exit i) w'->nM E i w')
def vj.s{P:W8}{G:Bool}{g:R7}{cap:List x1}{f:Nat->List x1->x3->Prop}{a:x3->Prop}(h:vj P G g cap n f a):
  pb P G g cap 0 (λk=>k=n) (λk vs p w=>k<n/\p=k+1/\f k vs w) a:=by
 refine⟨h.1,λl aA q w r x y ha z=>?_⟩;have:=h.2 l aA (λk w=>q k w) w r x (λk vs w' hk hA B C=>y k (k+1) vs w' hA ⟨hk,T,B⟩ C) ha z;cases this with
 |code h1 E=>exact .code h1 (E.mono λ_ _ ⟨v,F,e⟩=>⟨v,F,e.elim (λh=>.inl ⟨n,T,h⟩) (λ⟨k,_,h⟩=>.inr ⟨k,h⟩)⟩)
 |ext v w' h1 e=>exact .ext v w' h1 (e.elim (λh=>.inl ⟨n,T,h⟩) (λ⟨k,_,h⟩=>.inr ⟨k,h⟩))
def pb.x{P:W8}{s:Type}{G:Bool}{g:R7}{cap:List x1}{E:s}{F:s->Prop}{H:s->List x1->s->x3->Prop}{y:x3->Prop}(h:pb P G g cap E F H y):qv P false G g cap E F H λ_=>y:=by
 refine⟨h.1,λl aA I w K L M hy N=>?_⟩;have:=h.2 l (λk w'=>w.z<=w'.z/\∃D,(∀r,D r->w.z<=r/\r<w'.z)/\aA D k w') (λk w'=>∃D,I D k w') w
  (λk V aa J A ⟨U,D,a,f⟩=>⟨Y9 U J.size,D,λr z=>⟨(a r z).1,Q2 (a r z).2 J.size⟩,K D k V aa (J.ab _) A.o f⟩) (λk V aa J A ⟨D,f⟩=>⟨D,L D k V aa (J.ab _) A.o f⟩)
  (λk O vs w' hQ R ⟨U,D,a,f⟩=>h5.mono (M D k O vs w' a U hQ R f) λv W S=>S.imp (λ⟨h1,⟨D',d1,_,p,B⟩,q,e,_⟩=>⟨h1,p,⟨Y9 U e,D',λr z=>(d1 r z).elim (λh=>⟨(a r h).1,Q2 (a r h).2 e⟩) λh=>⟨Y9 U h.1,h.2⟩,B⟩,λT=>q (.inl T)⟩) λ⟨_,h1,p⟩=>⟨h1,D,p⟩) hy ⟨o4 _,_,λ_ h=>h.elim,N⟩
 cases this with
 |code h1 p=>exact .code h1 (p.mono λ_ _ ⟨v,B,q⟩=>⟨v,B,q.imp (λ⟨k,e,_,D,_,C⟩=>⟨D,k,e,C⟩) (λ⟨k,D,h⟩=>⟨D,k,h⟩)⟩)
 |ext v w' h1 q=>exact .ext v w' h1 (q.imp (λ⟨k,e,_,D,_,C⟩=>⟨D,k,e,C⟩) (λ⟨k,D,h⟩=>⟨D,k,h⟩))
def jW.old{P:W8}{C:x1}{B:x1->x3->(Exit->x3->Prop)->Prop}{E F:x3->Prop}{H:List (Nat×(x3->Prop))}(h:∃(f:Type)(G:Bool)(g:R7)(cap:Array x1)(s:f)(y:f->Prop)(r:f->List x1->f->x3->Prop)(e:x3->Prop)(I:f->x3->Prop)(p:f->Exit->x3->Prop),
  C= .func (.func g) #[] cap/\pb P G g cap.toList s y r e/\(∀k vs q w,r k vs q w->vs.length=1)/\
  (∀w w',Ext w w'->e w->e w')/\(∀k w w',Ext w w'->I k w->I k w')/\(∀k ex w w',Ext w w'->p k ex w->p k ex w')/\
  e w/\I s w/\
  (∀a,∀k q w',e w'->r k [a] q w'->I k w'->B a w' λex z=>match ex with
   | .normal=>e z/\I q z/\(G=true->e4 w' z)
   |ex=>p k ex z)/\
  (∀k w',y k->I k w'->E w')/\(∀k w',p k .ret w'->F w')/\(∀k i w',p k (.exit i) w'->nM H i w')):jW P C w B E F H:=by
 have⟨f,G,g,cap,s,y,r,e,I,p,h1,J,K,L,M,N,O,Q,R,S,T,U⟩:=h;exact⟨f,false,G,g,cap,s,y,r,λ_=>e,λ_=>I,λ_=>p,h1,J.x,K,λ_=>L,λ_ k V aa A _=>M k V aa (A.ext λ_ _ h=>nomatch h.1),λ_ k ex V aa A _=>N k ex V aa (A.ext λ_ _ h=>nomatch h.1),O,Q,
  λa _ k q w' _ _ he W X=>R a k q w' he W X,λ_=>S,λ_=>T,λ_=>U⟩
def pd.old{P:W8}{C:x1}{B:x1->x1->x3->(Exit->x3->Prop)->Prop}{E F:x3->Prop}{H:List (Nat×(x3->Prop))}(h:∃(f:Type)(G:Bool)(g:R7)(cap:Array x1)(s:f)(y:f->Prop)(r:f->List x1->f->x3->Prop)(e:x3->Prop)(I:f->x3->Prop)(p:f->Exit->x3->Prop),
  C= .func (.func g) #[] cap/\pb P G g cap.toList s y r e/\(∀k vs q w,r k vs q w->vs.length=2)/\
  (∀w w',Ext w w'->e w->e w')/\(∀k w w',Ext w w'->I k w->I k w')/\(∀k ex w w',Ext w w'->p k ex w->p k ex w')/\
  e w/\I s w/\
  (∀a b,∀k q w',e w'->r k [a,b] q w'->I k w'->B a b w' λex z=>match ex with
   | .normal=>e z/\I q z/\(G=true->e4 w' z)
   |ex=>p k ex z)/\
  (∀k w',y k->I k w'->E w')/\(∀k w',p k .ret w'->F w')/\(∀k i w',p k (.exit i) w'->nM H i w')):pd P C w B E F H:=by
 have⟨f,G,g,cap,s,y,r,e,I,p,h1,J,K,L,M,N,O,Q,R,S,T,U⟩:=h;exact⟨f,false,G,g,cap,s,y,r,λ_=>e,λ_=>I,λ_=>p,h1,J.x,K,λ_=>L,λ_ k V aa A _=>M k V aa (A.ext λ_ _ h=>nomatch h.1),λ_ k ex V aa A _=>N k ex V aa (A.ext λ_ _ h=>nomatch h.1),O,Q,
  λa b _ k q w' _ _ he W X=>R a b k q w' he W X,λ_=>S,λ_=>T,λ_=>U⟩
def eB(N:Nat)(free:fJ):Code->List Nat->Env->x3->(Exit->Env->x3->Prop)->Prop
 | .skip,_,e,w,K=>K .normal e w
 | .label _,_,e,w,K=>K .normal e w
 | .ret,_,e,w,K=>K .ret e w
 | .exit i,_,e,w,K=>K (.exit i) e w
 | .region _ ops q,_,e,w,K=>
  bif q then ev w λw'=>u1 P free ops e w' (K .normal)
  else o3 P free ops ops.toList e w (K .normal)
 | .seq x y,rd,e,w,K=>
  bif Nat.ble 2 (k7 x)then
   cz (lam (qt N (dD x) (reads y++rd)).length λvs=>λw'=>eB N free y rd (jq (qt N (dD x) (reads y++rd)) vs (l3 (dD x) e)) w' K)
    λaA=>eB N free x (reads y++rd) e w λex a w'=>match ex with
     | .normal=>match kA a (qt N (dD x) (reads y++rd))with
      |some vs=>app (qt N (dD x) (reads y++rd)).length aA vs w'
      |none=>False
     |ex=>K ex a w'
  else eB N free x (reads y++rd) e w λex a w'=>match ex with
   | .normal=>eB N free y rd a w' K
   |ex=>K ex a w'
 | .cond c x y,rd,e,w,K=>
  match eK e c with
  |some (.b true)=>eB N free x rd e w K
  |some (.b false)=>eB N free y rd e w K
  |some (.v v)=>Split v (eB N free x rd e w K) (eB N free y rd e w K)
  |some .u=>False
  |none=>False
 | .block id c,rd,e,w,K=>eB N free c rd e w λex a w'=>match ex with
  | .exit i=>bif S0 i id then K .normal a w' else K (.exit i) a w'
  |ex=>K ex a w'
 | .loop c,rd,e,w,K=>
  match kA e (qu N (dD c) (reads c++rd) e)with
  |some vs=>
   Gq (qu N (dD c) (reads c++rd) e).length vs w λus w' k=>
    eB N free c (reads c++rd) (jq (qu N (dD c) (reads c++rd) e) us (l3 (dD c) e)) w' λex a h=>match ex with
     | .normal=>match kA a (qu N (dD c) (reads c++rd) e)with
      |some r=>k r h
      |none=>False
     |ex=>K ex a h
  |none=>False
 | .scope c,rd,e,w,K=>eB N free c rd e w K
 | .rangeFunc f p s body,_,e,w,K=>
  bif free.1 then False else
  match eK e f with
  |some z=>
   Gu P z.val p.size w
    (λvs w' k=>eB N free s (reads body) (jq p.toList.reverse vs.reverse e) w' λex a h=>match ex with
     | .normal=>Over w.heap.size h λA=>eB N free body [] a A λex _ B=>k ex B
     |_=>False)
    (λw'=>K .normal e w') (bif jr body then λw'=>K .ret e w' else λ_=>False) (vi (λi w'=>K (.exit i) e w') (jV body))
  |none=>False
 | .goto _,_,_,_,_=>False
 | .refuse _,_,_,_,_=>False
end
def sq{w0:x3}(h:cC n w0 w){l:Nat}(p:w0.heap.size<=l)(o:Obj):cC n w0 (w.putObj l o):=
 ⟨h.os,h.tape,h.output,by simpa using h.size,λr x a U=>by
  have e:=(j4.1 a).1;rw[Q0 Ω];exact h.a6 r x a U,λr x f a U=>by
  have e:=(j4.1 a).1;rw[Q0 Ω];exact h.old r x f a U⟩
def Gv{w0:x3}(h:e4 w0 w){l:Nat}{a:Obj}(f:w.heap[l]?=σ a)(p:r5 a=false)(o:Obj):e4 w0 (w.putObj l o):=λr x q U=>by
 have h1:=h r x q U;by_cases e:r=l
 .subst e;rw[f]at h1;cases h1;rw[p]at U;cases U
 .rw[Q0 e];exact h1
def qw{l:Nat}{e:Obj}(h:w.heap[l]?=σ e)(p:fH e=false)(o:Obj):Ext w (w.putObj l o):=
 ⟨Ξ,λr x a U=>by
  by_cases f:r=l
  .subst f;rw[h]at a;cases a;rw[p]at U;cases U
  .rw[Q0 f];exact a⟩
def yW{l:Nat}{o:Obj}(f:fH o=false):Ext (w.putObj l o) w:=
 ⟨Ξ,λr x a U=>by
  by_cases e:r=l
  .subst e;rcases Nat.lt_or_ge r w.z with h|h
   .rw[x3.putObj_heap_same h]at a;cases a;rw[f]at U;cases U
   .rw[Array.getElem?_eq_none (by simpa using h)]at a;cases a
  .rw[Q0 e]at a;exact a⟩
def pe(w:x3)(o:Obj):Ext w (w.alloc o):=ql w o
def pf(w:x3)(o:Obj):cM w (w.alloc o):=qm w o
def kB(D:Nat):Deferred:={target:=.collected D,args:=#[]}
def l4(w:x3)(e:List Deferred):Prop:=∃a:List Nat,e=a.map kB/\a.Nodup/\∀D∈a,w.heap[D]?=σ (.deferred (σ []))
def l4.cw{a:List Deferred}(h:l4 w a)(e:cC n w w'):l4 w' a:=by
 have⟨f,h1,p,q⟩:=h;exact⟨f,h1,p,λD r=>e.a6 D _ (q D r) T⟩
section
variable{P:W8}{N:Nat}
def Gw(w:x3)(e f:List Deferred):Prop:=∃a:List Nat,f=a.map kB++e/\∀D∈a,w.heap.size<=D
def gP(n:Nat)(w:x3)(e:List Deferred)(w':x3)(a:List Deferred):Prop:=cC n w w'/\l4 w' a/\Gw w e a
def gP.refl{a:List Deferred}(h:l4 w a):gP n w a w a:=⟨cC.refl _ _,h,[],T,λ_ h=>by cases h⟩
def gP.trans{V:x3}{a e f:List Deferred}(h:gP n w a V e)(k:gP n V e w' f):gP n w a w' f:=by
 have⟨p,B,q,a3,a4⟩:=h;have⟨r,s,x,y,z⟩:=k;refine⟨p.trans r,s,x++q,by simp[y,a3],λD A=>?_⟩;rcases o5.1 A with h|h
 .exact Y9 p.size (z D h)
 .exact a4 D h
def gP.same{a:List Deferred}(h:l4 w a)(e:cC n w w'):gP n w a w' a:=⟨e,h.cw e,[],T,λ_ h=>by cases h⟩
def k8:Exit->Bool
 | .panic _=>false
 | .outgrown=>false
 | .goto _=>false
 |_=>true
def mO(N:Nat)(free:fJ)(f:Bool)(K:Exit->Env->x3->Prop)(D:List Nat)(a:Act)(w:x3)(ex:Exit)(a':Act)(w':x3):Prop:=
 k8 ex=true/\∃e,K ex e w'/\S7 N e a'/\(∀t,t∉D->a'.tmps.getD t undef=a.tmps.getD t undef)/\(f=true->a'.defers=a.defers)/\
  (free.1=false->gP free.2 w a.defers w' a'.defers)
def mO.step{free:fJ}{f p:Bool}{K:Exit->Env->x3->Prop}{D':List Nat}{a e a':Act}{V:x3}{ex:Exit}(h:mO N free p K D' e V ex a' w')(r:∀t,t∈D'->t∈D)(hk:∀t,t∉D->e.tmps.getD t undef=a.tmps.getD t undef)(s:f=true->p=true)(ae:f=true->e.defers=a.defers)(x:free.1=false->gP free.2 w a.defers V e.defers):mO N free f K D a w ex a' w':=by
 have⟨y,z,h1,A,B,C,E⟩:=h;exact⟨y,z,h1,A,λt q=>(B t λh=>q (r t h)).trans (hk t q),λh=>(C (s h)).trans (ae h),λh=>(x h).trans (E h)⟩
theorem sr{D:List Nat}{t:Nat}{x:eA}:∀{e:Env},look (l3 D e) t=σ x->look e t=σ x/\t∉D
 |[],h=>by cases h
 |(s,y)::r,h=>by
  simp only[l3]at h;cases hm:jp s D with
  |true=>
   rw[hm]at h;simp only[cond_true]at h;have⟨h1,f⟩:=sr h;refine⟨?_,f⟩;simp only[look];cases a:S0 s t with
   |true=>exact absurd (ve.1 hm) (by rw[Nat.eq_of_beq_eq_true a];exact f)
   |false=>exact h1
  |false=>
   rw[hm]at h;simp only[cond_false,look]at h ⊢;cases a:S0 s t with
   |true=>
    rw[a]at h;refine⟨h,λp=>?_⟩;rw[<-Nat.eq_of_beq_eq_true a]at p;rw[ve.2 p]at hm;cases hm
   |false=>
    rw[a]at h;exact sr h
theorem vk{a:Act}{e:Env}:∀{S:List Nat}{vs:List x1},S7 N e a->(∀p∈S.zip vs,a.tmps.getD p.1 undef=p.2)->S7 N (jq S vs e) a
 |[],_,h,_=>by simpa[jq]using h
 |t::r,[],h,_=>by simpa[jq]using h
 |t::r,v::vs,h,q=>by
  have w:=vk (S:=r) (vs:=vs) h λp y=>q p (by simp[y]);refine⟨w.1,λs x U=>?_⟩;simp only[jq,look]at U;cases f:S0 t s with
  |true=>
   rw[f]at U;simp only[cond_true,Y3]at U;subst U;rw[<-Nat.eq_of_beq_eq_true f];exact q (t,v) Ξ
  |false=>rw[f]at U;exact w.2 s x U
theorem ss{e:Env}{a:Act}(s:S7 N e a):∀{S:List Nat}{vs:List x1},kA e S=σ vs->vs.length=S.length/\∀p∈S.zip vs,a.tmps.getD p.1 undef=p.2
 |[],vs,h=>by simp[kA]at h;subst h;simp
 |t::r,vs,h=>by
  simp only[kA]at h;cases q:look e t with
  |none=>rw[q]at h;cases h
  |some x=>
   rw[q]at h;simp only at h;cases ad:kA e r with
   |none=>rw[ad]at h;cases h
   |some us=>
    rw[ad]at h;simp only[Y3]at h;subst h;have⟨h1,w⟩:=ss s ad;refine⟨by simp[h1],λp f=>?_⟩;simp only[List.zip_cons_cons,V2]at f;rcases f with rfl|f
    .exact s.2 t x q
    .exact w p f
def Gx{a a':Act}{e f:Env}(p:S7 N e a)(q:S7 N f a')(hk:∀t,t∉D->a'.tmps.getD t undef=a.tmps.getD t undef):S7 N (l3 D e) a':=
 ⟨q.1,λt x h=>by
  have⟨h1,r⟩:=sr h;rw[hk t r];exact p.2 t x h1⟩
def Gy{o:T3}{t:Nat}(a:o.dst=σ t)(l:List T3)(hm:o∈l):t∈nK l:=by
 induction l with
 |nil=>cases hm
 |cons o' l e=>
  simp only[nK];rcases V2.1 hm with h|h
  .rw[<-h,a];simp
  .have:=e h;cases o'.dst with
   |none=>exact this
   |some d=>exact .tail _ this
def yX{free:fJ}{f:Bool}{K:Exit->Env->x3->Prop}{a a':Act}(p:free.1=false->l4 w a.defers)(h:mK N free (K .normal) D a w a' w'):
  mO N free f K D a w .normal a' w':=by
 have⟨q,h1,r,e,s⟩:=h;exact⟨T,q,h1,r,e.2,λ_=>e.1,λae=>by rw[e.1];exact gP.same (p ae) (s ae)⟩
theorem yY:∀(a:List Nat)(vs:List x1)(p:Nat)(v:x1)(e:Env),a.length=vs.length->jq (a++[p]) (vs++[v]) e=jq a vs ((p,.v v)::e)
 |[],[],_,_,_,_=>rfl
 |[],_::_,_,_,_,h=>by simp at h
 |_::_,[],_,_,_,h=>by simp at h
 |q::a,u::vs,p,v,e,h=>by
  simp only[List.cons_append,jq];rw[yY a vs p v e (by simpa using h)]
theorem yZ:∀(a:List Nat)(vs:List x1)(iS:Array x1)(e:Env),a.length=vs.length->(a.all λt=>Nat.blt t N)=true->S7 N e {tmps:=iS,defers:=[]}->
  S7 N (jq a.reverse vs.reverse e) {tmps:=(a.zip vs).foldl (λiS (p:Nat×x1)=>iS.setIfInBounds p.1 p.2) iS,defers:=[]}
 |[],[],_,_,_,_,h=>h
 |[],_::_,_,_,h,_,_=>by simp at h
 |_::_,[],_,_,h,_,_=>by simp at h
 |p::a,v::vs,iS,e,r,f,h=>by
  have q:a.length=vs.length:=by simpa using r
  simp only[List.all_cons,V5]at f;simp only[List.zip_cons_cons,T5,List.reverse_cons];rw[yY _ _ _ _ _ (by simpa using q)];exact yZ a vs _ _ q f.2 (h.put (d:=σ p) (x:=.v v) (v:=v) f.1 T)
def js(free:fJ)(c:Code):Bool:=free.1|| !ky c
def y0:∀f a b:Bool,(f|| !(a||b))=true->(f|| !a)=true:=Φ
def y1:∀f a b:Bool,(f|| !(a||b))=true->(f|| !b)=true:=Φ
def exitCode:Exit->Option Code
 | .ret=>σ .ret
 | .exit id=>σ (.exit id)
 |_=>ν
end
section
variable{P:W8}{N:Nat}
def Sound(P:W8)(N:Nat)(c:Code):Prop:=
 ∀(free:fJ)(r:Option Nat)(rd:List Nat)(e:Env)(a:Act)(w:x3)(K:Exit->Env->x3->Prop)(Q:Exit->Act->x3->Prop),
  wf N c=true->(∀l,r=σ l->free.1=false/\∃f,w.heap[l]?=σ (.loop f))->(free.1=false->l4 w a.defers)->
  eB P N free c rd e w K->S7 N e a->(∀ex a' w',mO N free (js free c) K (dD c) a w ex a' w'->Q ex a' w')->(∀h a w,¬Q (.panic h) a w)->
  c.wpIn (eu r) 0 P Q a w
def Gz{x y:Code}(J:Sound P N x)(aa:Sound P N y):Sound P N (.seq x y):=by
 intro free r rd e a w K Q E M ab h O R S;simp only[wf,V5]at E;have T:∀t,t∈dD x->t∈dD (.seq x y):=λt s=>by simp[dD,s]
 have ac:∀t,t∈dD y->t∈dD (.seq x y):=λt s=>by simp[dD,s]
 have U:js free (.seq x y)=true->js free x=true:=λh=>y0 _ _ _ h;have af:js free (.seq x y)=true->js free y=true:=λh=>y1 _ _ _ h;apply wpIn_seq;have W:∀(f:Env)(p:Act)(V:x3),eB P N free y rd f V K->S7 N f p->(∀t,t∉dD x->p.tmps.getD t undef=a.tmps.getD t undef)->
   (js free (.seq x y)=true->p.defers=a.defers)->(free.1=false->gP free.2 w a.defers V p.defers)->y.wpIn (eu r) 0 P Q p V:=by
  intro f p V h1 z hk ae q;refine aa free r rd f p V K Q E.2 ?_ (λh=>(q h).2.1) h1 z ?_ S
  .intro l ag;have⟨X,ah,C⟩:=M l ag;exact⟨X,ah,(q X).1.a6 _ _ C rfl⟩
  .intro ex a' w' B;exact R ex a' w' (B.step ac (λt s=>hk t λh=>s (T t h)) af ae q)
 have Y:∀(A:Exit->Env->x3->Prop),eB P N free x (reads y++rd) e w A->
   (∀f p V,mO N free (js free x) A (dD x) a w .normal p V->S7 N f p->A .normal f V->(∀t,t∉dD x->p.tmps.getD t undef=a.tmps.getD t undef)->
    (js free (.seq x y)=true->p.defers=a.defers)->(free.1=false->gP free.2 w a.defers V p.defers)->y.wpIn (eu r) 0 P Q p V)->
   (∀ex f V,ex≠ .normal->A ex f V->K ex f V)->x.wpIn (eu r) 0 P (Exit.then (y.wpIn (eu r) 0 P Q) Q) a w:=by
  intro A ad q ai;refine J free r _ e a w A _ E.1 M ab ad O ?_ ?_
  .intro ex p V B;cases ex with
   |normal=>
    have aj:=B;have⟨C,f,h1,F,G,H,I⟩:=B;exact q f p V aj F h1 G (λh=>H (U h)) I
   |_=>
    have⟨C,f,h1,F,G,H,I⟩:=B;refine R _ p V ⟨C,f,ai _ f V Ξ h1,F,λt s=>G t λh=>s (T t h),λh=>H (U h),I⟩
  .intro ak a w al;exact S ak a w al
 simp only[eB]at h;cases Z:Nat.ble 2 (k7 x)with
 |false=>
  rw[Z]at h;apply Y _ h (λf p V _ z h1 hk ae q=>W f p V h1 z hk ae q);intro ex f V L h1;cases ex<;>first|exact absurd rfl L|exact h1
 |true=>
  rw[Z]at h;refine Y _ h (λf p V _ z h1 hk ae q=>?_) ?_
  .simp only at h1;cases ad:kA f (qt N (dD x) (reads y++rd))with
   |none=>rw[ad]at h1;exact h1.elim
   |some vs=>
    rw[ad]at h1;have⟨am,an⟩:=ss z ad;simp only at h1;rw[sj _ _ _ am]at h1;exact W _ p V h1 (vk (Gx O z hk) an) hk ae q
  .intro ex f V L h1;cases ex<;>first|exact absurd rfl L|exact h1
def GA{c:Code}(ac:Sound P N c):Sound P N (.loop c):=by
 intro free r rd e a w K Q T af ag h F ah ai;simp only[wf]at T;simp only[eB]at h;generalize ay:qu N (dD c) (reads c++rd) e=S at h;cases ad:kA e S with
 |none=>rw[ad]at h;exact h.elim
 |some vs=>
  rw[ad]at h;simp only at h;have⟨I,aj,s,ak⟩:=h;have⟨al,am⟩:=ss F ad;let Inv:Act->x3->Prop:=λf V=>∃us,us.length=S.length/\app S.length I us V/\(∀p∈S.zip us,f.tmps.getD p.1 undef=p.2)/\f.tmps.size=N/\
   (∀t,t∉dD c->f.tmps.getD t undef=a.tmps.getD t undef)/\(js free c=true->f.defers=a.defers)/\(free.1=false->gP free.2 w a.defers V f.defers)
  let y:Act->List x1:=λf=>S.map λt=>f.tmps.getD t undef;have U:∀(f:Act)(us:List x1),us.length=S.length->(∀p∈S.zip us,f.tmps.getD p.1 undef=p.2)->y f=us:=by
   intro f us z A;apply List.ext_getElem
   .simp[y,z]
   .intro i h1 q;have hi:i<S.length:=by simpa[y]using h1
    have an:(S[i],us[i])∈S.zip us:=by
     have:=S3 (l:=S.zip us) (n:=i) (by simp[List.length_zip,z,hi]);simpa using this
    simpa[y]using A _ an
  apply wpIn_loop Inv (λf V=>app S.length aj (y f) V) ⟨vs,al,s,am,F.1,λ_ _=>rfl,λ_=>rfl,λae=>gP.refl (ag ae)⟩;rintro f V ⟨us,z,ao,A,ap,hk,ae,B⟩;have C:=sk S.length _ us ak;rw[sj _ _ _ z]at C;have C:=C V ao;have aq:S7 N (jq S us (l3 (dD c) e)) f:=by
   refine vk (a:=f) (e:=l3 (dD c) e) ⟨ap,λt x E=>?_⟩ A;have⟨h1,q⟩:=sr E;rw[hk t q];exact F.2 t x h1
  refine ac free r _ _ f V _ _ T ?_ (λh=>(B h).2.1) C aq ?_ ?_
  .intro l au;have⟨W,av,s⟩:=af l au;exact⟨W,av,(B W).1.a6 _ _ s rfl⟩
  .intro ex G aa H;have X:∀t,t∉dD c->G.tmps.getD t undef=a.tmps.getD t undef:=by
    have⟨_,_,_,_,J,_,_⟩:=H;exact λt E=>(J t E).trans (hk t E)
   cases ex with
   |normal=>
    have⟨s,L,h1,q,J,M,O⟩:=H;simp only at h1;cases R:kA L S with
    |none=>rw[R]at h1;exact h1.elim
    |some Y=>
     rw[R]at h1;have⟨Z,ab⟩:=ss q R;refine⟨⟨Y,Z,h1.1,ab,q.1,X,λh=>(M h).trans (ae h),λh=>(B h).trans (O h)⟩,?_⟩;rw[U f us z A,U G Y Z ab];exact h1.2
   |_=>
    have⟨s,L,h1,q,J,M,O⟩:=H;exact ah _ G aa ⟨s,L,h1,q,X,λh=>(M h).trans (ae h),λh=>(B h).trans (O h)⟩
  .intro aw a w ax;exact ai aw a w ax
def GB{o:Obj}(h:fH o=false):book o=true\/r5 o=true:=by cases o<;>first|exact .inl rfl|exact .inr rfl|cases h
def GC{l:Nat}{f h:x3}{y z:Obj}(A:f.heap[l]?=σ y)(a:cC n f w)(e:cC n (w.putObj l z) h)(B:l<h.heap.size)(hi:e4 f h):cM f (h.putObj l y):=
 ⟨e.os.trans a.os,jS.trans e.tape a.tape,e.output.trans a.output,by have:=a.size;have C:=e.size;simp at C ⊢;omega,λr x p U=>by
  by_cases s:r=l
  .subst s;rw[A]at p;cases p;exact x3.putObj_heap_same B
  .rw[Q0 s];rcases GB U with q|q
   .exact e.a6 r x (by rw[Q0 s];exact a.a6 r x p q) q
   .exact hi r x p q⟩
theorem GD{f:S4}{V:Array Tmp}{Z body:Code}(be:Sound P N Z)(al:Sound P N body):Sound P N (.rangeFunc f V Z body):=by
 intro free r rd e a w K Q aN U ay h af bf b1;simp only[wf,V5]at aN;obtain⟨bg,bh,bi⟩:=aN;simp only[eB]at h;obtain⟨fr,b⟩:=free;cases fr with
 |true=>exact h.elim
 |false=>
  simp only[cond_false]at h;cases ae:eK e f with
  |none=>rw[ae]at h;exact h.elim
  |some b3=>
   rw[ae]at h;obtain⟨aO,o,G,g,cap,b4,b5,b6,am,I,az,bj,⟨aP,bk⟩,bl,haQ,an,aB,hbm,bn,bo,bp,bq,br⟩:=h;have bt:∀m k ex w',k8 ex=true->ex≠ .normal->az m k ex w'->K ex e w':=by
    intro m k ex w' ag aC J;cases ex with
    |normal=>exact absurd rfl aC
    |ret=>
     have:=bq m k w' J;cases U:jr body with
     |true=>rw[U]at this;exact this
     |false=>rw[U]at this;exact this.elim
    |exit i=>exact yV (br m k i w' J)
    |_=>cases ag
   have bu:a.eval f= .func (.func g) #[] cap:=by rw[af.eK ae];exact bj
   refine wpIn_rangeFunc ?_;intro fn _;obtain⟨D,mark,l,C,y,bw,E,aR,ao,R,aS,ap⟩:∃(D:Nat)(mark:List Deferred)(l:Nat)(C:x3)(y:LoopState->Option Code->Loop),
     (Instr.enterLoop fn a.tmps V Z body (eu r).round).run P w= .ok (l,mark) C/\
     y=(λst bx=>{state:=st,pending:=bx,fn,tmps:=a.tmps,params:=V,assign:=Z,body,defers:=D})/\
     C.heap[l]?=σ (.loop (y .ready ν))/\(mark=[]\/(mark=[kB D]/\C.heap[D]?=σ (.deferred (σ []))/\w.heap.size<=D/\D≠l))/\Ext w C/\cM w C/\w.heap.size<=l:=by
    cases r with
    |none=>
     refine⟨w.heap.size,[kB w.heap.size],w.heap.size+1,_,_,run_enterLoop_outer _ _ _ _ _,rfl,?_,.inr ⟨rfl,?_,o4 _,Ω⟩,?_,?_,Ω⟩
     .have:=x3.alloc_heap_new (w.alloc (.deferred (σ []))) (.loop {state:=.ready,pending:=ν,fn,tmps:=a.tmps,params:=V,assign:=Z,body,defers:=w.heap.size});rwa [x3.size_alloc]at this
     .exact (Below.heap_alloc _ _ _ Ξ).trans (x3.alloc_heap_new w _)
     .exact (pe w _).trans (pe _ _)
     .exact (pf w _).trans (pf _ _)
    |some bz=>
     obtain⟨_,bA,S⟩:=U bz rfl;exact⟨bA.defers,[],w.heap.size,_,_,run_enterLoop_inner S _ _ _ _ _,rfl,x3.alloc_heap_new w _,.inl rfl,pe _ _,pf _ _,o4 _⟩
   let T:x3->Prop:=λq=>mark=[]\/(mark=[kB D]/\q.heap[D]?=σ (.deferred (σ []))/\w.heap.size<=D/\D≠l);have aD:∀{m:Nat}{A B:x3},cC m A B->T A->T B:=λF h=>h.imp id λ⟨h1,s,z⟩=>⟨h1,F.a6 _ _ s rfl,z⟩;have aq:∀{A:x3}(o:Obj),T A->T (A.putObj l o):=λo h=>h.imp id λ⟨h1,s,z,L⟩=>⟨h1,(Q0 L).trans s,z,L⟩;have bB:cC b w C:=aS.b;have aT:=(j4.1 aR).1;have aU:∀{A B:x3},fI C.heap.size A B->T A->T B:=λF h=>h.imp id λ⟨h1,s,z⟩=>⟨h1,F.old _ _ (by
    rcases ao with hm|⟨_,ay,_⟩
    .rw[hm]at h1;cases h1
    .exact (j4.1 ay).1) s rfl,z⟩
   have ah:∀{A:x3}(o:Obj),fI w.heap.size A (A.putObj l o):=λ{A}o=>⟨rfl,.kv,rfl,Ξ,λr x U J _=>by rw[Q0 Ω];exact J⟩;let aA:(Nat->Prop)->aO->x3->Prop:=λm k q=>I m k q/\q.heap[l]?=σ (.loop (y .ready ν))/\cC b w q/\T q;let aV:(Nat->Prop)->aO->x3->Prop:=λm k q=>∃ex c,k8 ex=true/\exitCode ex=σ c/\az m k ex q/\q.heap[l]?=σ (.loop (y .done (σ c)))/\cC b w q/\T q;have own:∀{m:Nat->Prop}{A B:x3},ai (λr=>o=true/\C.heap.size<=r/\¬m r) A B->ai (λr=>o=true/\w.heap.size<=r/\¬m r) A B:=λh=>h.mono λr _ h=>⟨h.1,Y9 R.size h.2.1,h.2.2⟩;have aE:=bk l aA aV C (λm k A B he F ⟨h1,s,z,L⟩=>⟨an m k A B (own he) (F.mono R.size) h1,F.old _ _ aT s rfl,z.yI F R.size,aU F L⟩)
    (λm k A B he F ⟨ex,c,S,h1,s,z,L,aj⟩=>⟨ex,c,S,h1,aB m k ex A B (own he) (F.mono R.size) s,F.old _ _ aT z rfl,L.yI F R.size,aU F aj⟩) ?round (haQ _ _ _ R hbm) ⟨an _ _ _ _ (R.ab _) aS.o bn,aR,bB,ao⟩
   case round=>
    intro m k au vs q aW bC ham aX ⟨hi,av,bD,bE⟩;have aF:=bl k vs au q aX;have aY:=run_yield (P:=P) (args:=vs.toArray) av (by rw[E];simp[aF]);rw[E]at aY;refine⟨fn,_,Z,body,aY,roundIn_of_wpIn trivial ?_⟩;have bF:(V.zip vs.toArray).foldl (λtmps x=>match x with|(t,a)=>tmps.setIfInBounds t a) a.tmps=(V.toList.zip vs).foldl (λiS (p:Nat×x1)=>iS.setIfInBounds p.1 p.2) a.tmps:=by
     rw[<-Array.foldl_toList,Array.toList_zip]
    have aZ:=yZ (N:=N) V.toList vs a.tmps e (by simp[aF]) bg (show S7 N e {tmps:=a.tmps,defers:=[]}from⟨af.1,af.2⟩);rw[<-bF]at aZ;have bG:q.heap[l]?=σ (.loop (y .ready ν)):=av;refine be (false,b) (σ l) _ _ _ q _ _ bh (λl' aG=>⟨rfl,by cases aG;exact⟨_,av⟩⟩) (λ_=>⟨[],rfl,List.nodup_nil,λD ao=>by cases ao⟩) (by have al:=sk _ _ vs bo;rw[sj _ _ _ aF]at al;exact al m k au q (λr U=>⟨Y9 R.size (aW r U).1,(aW r U).2⟩) (Y9 R.size bC) ham aX hi) aZ ?_ (λ_ _ _ h=>h);intro ex a1 H aH;obtain⟨S,b7,h1,s,z,L,aj⟩:=aH;obtain⟨W,bH,_⟩:=aj rfl;cases ex with
    |normal=>
     have aa:H.heap[l]?=σ (.loop (y .ready ν)):=W.a6 _ _ av rfl;have bI:=(j4.1 aa).1;refine⟨_,run_beginRound aa (by rw[E]),?_⟩;have bJ:Ext H (H.putObj l (.loop {y .ready ν with state:=.busy})):=qw aa rfl _;have a2:(H.putObj l (.loop {y .ready ν with state:=.busy})).heap[l]?=σ (.loop {y .ready ν with state:=.busy}):=x3.putObj_heap_same bI;have bK:l4 (H.putObj l (.loop {y .ready ν with state:=.busy})) a1.defers:=by
      obtain⟨aw,ac,ad,ak⟩:=bH;refine⟨aw,ac,ad,λD' X=>?_⟩;have:=ak D' X;have aC:D'≠l:=λhe=>by rw[he,aa]at this;cases this
      rw[Q0 aC];exact this
     have a7:cC b w (H.putObj l (.loop {y .ready ν with state:=.busy})):=sq (bD.trans W) ap _;have a8:=aq (.loop {y .ready ν with state:=.busy}) (aD W bE);have bL:=h1 _ bJ ⟨yW rfl,ah _⟩ (Gv (e4.refl _) aa rfl _);refine al (false,b) (σ l) _ _ a1 _ _ _ bi (λl' aG=>⟨rfl,by cases aG;exact⟨_,a2⟩⟩) (λ_=>bK) bL s ?_ (λ_ _ _ h=>h);intro bM b8 M aH;obtain⟨aI,b9,g1,ca,cb,cc,bN⟩:=aH;obtain⟨O,_,_⟩:=bN rfl;have aJ:M.heap[l]?=σ (.loop {y .ready ν with state:=.busy}):=O.a6 _ _ a2 rfl;have aK:=(j4.1 aJ).1;have ba:=λbO=>run_endRound (P:=P) bO aJ;have ax:∀(o:Obj),Ext M (M.putObj l o):=λo=>qw aJ rfl o;have bb:∀(ex:Exit)(c:Code),k8 ex=true->exitCode ex=σ c->(bif o then False else az m k ex M)->
       ∃v w',(Instr.endRound l (σ c)).run P M= .ok v w'/\∃aL,Ending.returned v= .returned aL/\((aL= .bool true/\(∃b2,(∀r,b2 r->m r\/q.heap.size<=r/\r<w'.heap.size)/\(∀r,m r->b2 r)/\am b2 w'/\aA b2 au w')/\(G=true\/o=true->cM q w')/\q.heap.size<=w'.heap.size/\(o=true->ai (λr=>r<C.heap.size\/m r) q w'))\/(o=false/\aL= .bool false/\aV m k w')):=by
      intro ex c ag bP bc;cases o with
      |true=>exact bc.elim
      |false=>
       refine⟨_,_,ba (σ c),_,rfl,.inr ⟨rfl,rfl,ex,c,ag,bP,aB m k ex _ _ ((ax _).ab _) (ah _) bc,?_,sq (a7.trans O) ap _,aq _ (aD O a8)⟩⟩;rw[x3.putObj_heap_same aK,E];rfl
     cases bM with
     |normal=>
      have bQ:q.heap.size<=M.heap.size:=by
       have h1:=W.size;have s:=O.size;simp at s;omega
      obtain⟨⟨b2,d1,d2,ac,ad⟩,bR,bS⟩:(∃b2,(∀r,b2 r->m r\/q.heap.size<=r/\r<M.heap.size)/\(∀r,m r->b2 r)/\am b2 M/\I b2 au M)/\(G=true\/o=true->e4 q M)/\(o=true->ai (λr=>r<C.heap.size\/m r) q M):=by
       cases o with
       |true=>exact⟨g1.1,λ_=>g1.2.1,λ_=>g1.2.2.mono λr _ h=>h.imp (λh=>Q2 h R.size) id⟩
       |false=>exact⟨⟨m,λr h=>.inl h,λ_ h=>h,g1.1,g1.2.1⟩,λh=>g1.2.2 (h.elim id λh=>nomatch h),λh=>nomatch h⟩
      refine⟨_,_,ba ν,_,rfl,.inl ⟨rfl,⟨b2,by simpa using d1,d2,haQ _ _ _ (ax _) ac,an _ _ _ _ ((ax _).ab _) (ah _) ad,?_,sq (a7.trans O) ap _,aq _ (aD O a8)⟩,λbT=>?_,?_,λbU=>(bS bU).trans ((ax _).ab _)⟩⟩
      .rw[x3.putObj_heap_same aK,E];rfl
      .have:=GC bG W O aK (bR bT);subst E;exact this
      .simpa using bQ
     |ret=>exact bb .ret _ rfl rfl g1
     |exit id=>exact bb (.exit id) _ rfl rfl g1
     |goto t=>cases aI
     |panic bV=>cases aI
     |outgrown=>cases aI
    |_=>exact h1.elim
   have aE:=gN.calls P aE aP;refine⟨l,mark,C,{target:=.fn (.func g) cap,args:=#[.func (.yield l) #[] #[]]},C,g,#[.func (.yield l) #[] #[]]++cap,C,bw,?_,λ_ _=>trivial,?_,uU _ _,?_⟩
   .simp only[resolve,bu];simp[go_sem]
   .simp only[invoke];exact aP _ _
   .have bW:(#[.func (.yield l) #[] #[]]++cap:Array x1)=(x1.func (.yield l) #[] #[]::cap.toList).toArray:=by apply Array.toList_inj.1;simp
    rw[bW];refine CallsIn.mono (yJ aE) ?_;rintro cd H ⟨v,rfl,bX⟩;have left:∀(Y:Loop)(ex:Exit),k8 ex=true->H.heap[l]?=σ (.loop Y)->Y.state≠ .busy->cC b w H->T H->K ex e (H.putObj l (.loop {Y with state:=.exhausted}))->
      Q ex {a with defers:=mark++a.defers} (H.putObj l (.loop {Y with state:=.exhausted})):=by
     intro Y ex ag aa ce W bd bY;have O:cC b w (H.putObj l (.loop {Y with state:=.exhausted})):=sq W ap _;refine bf ex _ _ ⟨ag,e,bY,⟨af.1,af.2⟩,λ_ _=>rfl,(λh=>by simp[js,ky]at h),λ_=>⟨O,?_,?_⟩⟩
     case refine_2=>
      rcases bd with hm|⟨hm,_,bZ,_⟩
      .exact⟨[],by simp[hm],λ_ h=>by cases h⟩
      .exact⟨[D],by simp[hm],λD' X=>by simp at X;omega⟩
     obtain⟨aw,ac,ad,ak⟩:=ay rfl;have aM:=aq (.loop {Y with state:=.exhausted}) bd;rcases aM with hm|⟨hm,aM,bZ,_⟩
     .exact⟨aw,by simp[hm,ac],ad,λD' X=>O.a6 _ _ (ak D' X) rfl⟩
     .refine⟨D::aw,by simp[hm,ac],List.nodup_cons.2 ⟨λb0=>?_,ad⟩,λD' X=>?_⟩
      .have:=(j4.1 (ak D b0)).1;omega
      .rcases V2.1 X with h|h
       .rw[h];exact aM
       .exact O.a6 _ _ (ak D' h) rfl
    rcases bX with⟨m,k,hk,h1,s,z,L⟩|⟨m,k,ex,c,S,h1,s,z,L,aj⟩
    .refine⟨ν,_,by have:=run_endLoop (P:=P) s (by rw[E];simp);rw[E]at this;exact this,?_⟩;have:=left (y .ready ν) .normal rfl s (by rw[E];simp) z L (bp m _ _ hk (an m _ _ _ ((qw s rfl _).ab _) (ah _) h1));rw[E]at this;exact this
    .refine⟨σ c,_,by have:=run_endLoop (P:=P) z (by rw[E];simp);rw[E]at this;exact this,?_⟩;have:=left (y .done (σ c)) ex S z (by rw[E];simp) L aj (bt m k ex _ S (by intro he;rw[he]at h1;cases h1) (aB m _ _ _ _ ((qw z rfl _).ab _) (ah _) s));rw[E]at this;cases ex with
     |normal=>cases h1
     |ret=>cases h1;exact wpIn_ret this
     |exit id=>cases h1;exact wpIn_exit this
     |goto t=>cases S
     |panic bV=>cases S
     |outgrown=>cases S
def su{b:Frame}{a:Act}{k:List Item}{cs:List Frame}{c:Code}:
  step P (lone (b.atR a (.code (.scope c)::k)) cs w)= .next (lone (b.atR a (.code c:: .inScope c::k)) cs w):=
 step_lone_go (by simp[stepG,stepG.exec,Frame.atR])
def GF{b:Frame}{a:Act}{k:List Item}{cs:List Frame}{c:Code}:
  step P (lone (b.atR a (.inScope c::k)) cs w)= .next (lone (b.atR a k) cs w):=
 step_lone_go (by simp[stepG,stepG.exec,Frame.atR])
def GG{F:Fence}{c:Code}{Q:Exit->Act->x3->Prop}{a:Act}(h:c.wpIn F n P (λex a' w'=>k8 ex=true/\Q ex a' w') a w):
  (Code.scope c).wpIn F n P Q a w:=by
 intro b k cs A q r;have f:(lone (b.atR a (.code (.scope c)::k)) cs w).fenced P F:=fenced_calm q r T;have⟨e,s,x,⟨y,z⟩,p⟩:=h b (.inScope c::k) cs A q r;have J:∀id,exitTo id (.inScope c::k)=exitTo id k:=λid=>by simp[exitTo]
 cases e with
 |normal=>exact⟨.normal,s,x,z,.head f su (StepsIn.trans p (.one (fenced_calm q r T) GF))⟩
 |exit id=>
  exact⟨.exit id,s,x,z,λB hk=>.head f su (p.1 B (by rw[J];exact hk)),
   λC hk=>let⟨E,h1,G⟩:=p.2 C (by rw[J];exact hk);⟨E,h1,.head f su G⟩⟩
 |ret=>exact⟨_,s,x,z,.of_steps (.one f su) p⟩
 |goto l=>cases y
 |panic H=>cases y
 |outgrown=>cases y
def sound(hm:P.follows .mixedOrders=true)(c:Code):Sound P N c:=by
 induction c with
 |skip=>exact λfree r rd e a w K Q _ _ q h p A _=>wpIn_skip (A _ _ _ ⟨rfl,e,h,p,λ_ _=>rfl,λ_=>rfl,λae=>gP.refl (q ae)⟩)
 |label l=>exact λfree r rd e a w K Q _ _ q h p A _=>wpIn_label (A _ _ _ ⟨rfl,e,h,p,λ_ _=>rfl,λ_=>rfl,λae=>gP.refl (q ae)⟩)
 |ret=>exact λfree r rd e a w K Q _ _ q h p A _=>wpIn_ret (A _ _ _ ⟨rfl,e,h,p,λ_ _=>rfl,λ_=>rfl,λae=>gP.refl (q ae)⟩)
 |exit i=>exact λfree r rd e a w K Q _ _ q h p A _=>wpIn_exit (A _ _ _ ⟨rfl,e,h,p,λ_ _=>rfl,λ_=>rfl,λae=>gP.refl (q ae)⟩)
 |goto l=>exact λfree r rd e a w K Q _ _ q h p A _=>h.elim
 |refuse s=>exact λfree r rd e a w K Q _ _ q h p A _=>h.elim
 |region id ops aa=>
  intro free r rd e a w K Q B F q h p A G;simp only[wf,V5]at B;have W:∀o∈ops.toList,∀t,o.dst=σ t->t∈nK ops.toList:=λo ab t L=>Gy L _ ab;simp only[eB]at h;cases aa with
  |false=>exact Gd W B.1 h p λa' w' C=>A _ _ _ (yX q C)
  |true=>
   simp only[Y7,Bool.false_or]at B;exact Gm hm B.2 G W B.1 (λw' h1 H I=>h w' h1 H I) p λa' w' C=>A _ _ _ (yX q C)
 |seq x y J S=>exact Gz J S
 |cond c x y J S=>
  intro free r rd e a w K Q B F q h p A G;simp only[wf,V5]at B;have X:∀ex a' w',mO N free (js free x) K (dD x) a w ex a' w'->Q ex a' w':=λex a' w' C=>A ex a' w' (by
   have⟨R,M,h1,H,I,O,T⟩:=C;exact⟨R,M,h1,H,λt L=>I t λh=>L (by simp[dD,h]),(λh=>O (y0 _ _ _ h)),T⟩)
  have Y:∀ex a' w',mO N free (js free y) K (dD y) a w ex a' w'->Q ex a' w':=λex a' w' C=>A ex a' w' (by
   have⟨R,M,h1,H,I,O,T⟩:=C;exact⟨R,M,h1,H,λt L=>I t λh=>L (by simp[dD,h]),(λh=>O (y1 _ _ _ h)),T⟩)
  simp only[eB]at h;cases E:eK e c with
  |none=>rw[E]at h;exact h.elim
  |some v=>
   rw[E]at h;cases v with
   |b t=>
    cases t with
    |true=>exact wpIn_cond (t:=true) (p.eK E) (J free r rd e a w K Q B.1 F q h p X G)
    |false=>exact wpIn_cond (t:=false) (p.eK E) (S free r rd e a w K Q B.2 F q h p Y G)
   |v z=>
    have⟨t,ac,L,ae⟩:=h;apply wpIn_cond (t:=t) ((p.eK E).trans ac);cases t with
    |true=>exact J free r rd e a w K Q B.1 F q (L rfl) p X G
    |false=>exact S free r rd e a w K Q B.2 F q (ae rfl) p Y G
   |u=>exact h.elim
 |block id c E=>
  intro free r rd e a w K Q B F q h p A G;simp only[wf]at B;simp only[eB]at h;refine wpIn_block (E free r rd e a w _ _ B F q h p ?_ λZ a w U=>G Z a w U);intro ex a' w' C;have⟨R,M,h1,H,I,O⟩:=C;cases ex with
  |exit i=>
   simp only[Exit.inBlock];simp only at h1;by_cases hi:i=id
   .rw[if_pos hi];rw[hi,Nat.beq_refl]at h1;exact A _ _ _ ⟨rfl,M,h1,H,I,O⟩
   .rw[if_neg hi];have:S0 i id=false:=by
     cases V:S0 i id with
     |true=>exact absurd (Nat.eq_of_beq_eq_true V) hi
     |false=>rfl
    rw[this]at h1;exact A _ _ _ ⟨rfl,M,h1,H,I,O⟩
  |_=>exact A _ _ _ ⟨R,M,h1,H,I,O⟩
 |loop c E=>exact GA E
 |scope c E=>
  intro free r rd e a w K Q B F q h p A G;exact GG (E free r rd e a w K (λex a' w'=>k8 ex=true/\Q ex a' w') B F q h p (λex a' w' C=>⟨C.1,A ex a' w' C⟩) λZ a w U=>by cases U.1)
 |rangeFunc f af ag body ad V=>exact GD ad V
def k9:Nat->List x1->Env
 |_,[]=>[]
 |i,v::r=>(i,.v v)::k9 (i+1) r
def nN(P:W8)(e:Env)(w:x3):List ResultVar->(List x1->Prop)->Prop
 |[],K=>K []
 | .tmp t::r,K=>match look e t with
  |some x=>nN P e w r λvs=>K (x.val::vs)
  |none=>False
 | .cell a t::r,K=>match look e a with
  |some x=>ac P (do loadVar t (<-asAddr x.val)) w λv=>nN P e w r λvs=>K (v::vs)
  |none=>False
def sw:List x1->x1
 |[v]=>v
 |vs=>.tuple vs.toArray
def l5(P:W8)(a:List ResultVar)(marks:Bool)(n:Nat)(Q:x1->x3->Prop):Exit->Env->x3->Prop
 | .normal,e,w| .ret,e,w=>nN P e w a λvs=>bif marks then vg n w λw'=>Q (sw vs) w' else Q (sw vs) w
 |_,_,_=>False
def mP:List ResultVar->List Nat
 |[]=>[]
 | .tmp t::r=>t::mP r
 | .cell a _::r=>a::mP r
theorem y2:∀(vs:List x1)(i t:Nat)(x:eA),look (k9 i vs) t=σ x->∃j v,t=i+j/\vs[j]?=σ v/\x= .v v
 |[],_,_,_,h=>by cases h
 |v::r,i,t,x,h=>by
  simp only[k9,look]at h;cases a:S0 i t with
  |true=>
   rw[a]at h;simp only[cond_true,Y3]at h;exact⟨0,v,by rw[Nat.eq_of_beq_eq_true a];rfl,T,h.symm⟩
  |false=>
   rw[a]at h;have⟨j,u,h1,e,f⟩:=y2 r (i+1) t x h;exact⟨j+1,u,Ω,by simpa using e,f⟩
def vl(vs:List x1)(h:vs.length<=n):S7 n (k9 0 vs) {tmps:=vs.toArray++Array.replicate (n-vs.toArray.size) undef,defers:=[]}:=by
 refine⟨Θ,λt x J=>?_⟩;obtain⟨j,v,h1,a,rfl⟩:=y2 vs 0 t x J;have h1:t=j:=Ω
 subst h1;have e:t<vs.length:=(x4.1 a).1;rw[Array.getD_eq_getD_getElem?,Array.getElem?_append_left (by simpa using e)];simp[a,eA.val]
def sx(iS:Array x1):ResultVar->Sem x1
 | .tmp t=>pure (iS.getD t undef)
 | .cell b t=>do loadVar t (<-asAddr (iS.getD b undef))
def GH(fn:Func)(iS:Array x1):results fn iS=(do let vs <-fn.results.mapM (sx iS);pure (if h:vs.size=1 then vs[0]else .tuple vs)):=by
 unfold results;congr 2
theorem vm{e:Env}{a:Act}{w:x3}(p:S7 N e a):∀(q:List ResultVar)(K:List x1->Prop),nN P e w q K->
  ∃vs,K vs/\vs.length=q.length/\∀w',Ext w w'->(q.mapM (sx a.tmps)).run P w'= .ok vs w'
 |[],K,h=>⟨[],h,T,λw' _=>by simp[V3]⟩
 | .tmp t::r,K,h=>by
  simp only[nN]at h;cases f:look e t with
  |none=>rw[f]at h;exact h.elim
  |some x=>
   rw[f]at h;have⟨vs,h1,s,y⟩:=vm p r _ h;refine⟨x.val::vs,h1,by simp[s],λw' hw=>?_⟩;rw[List.mapM_cons];simp only[sx,W5,V3,W7,y w' hw,p.2 t x f]
 | .cell b t::r,K,h=>by
  simp only[nN]at h;cases f:look e b with
  |none=>rw[f]at h;exact h.elim
  |some x=>
   rw[f]at h;have⟨v,ad,h⟩:=h;have⟨vs,h1,s,y⟩:=vm p r _ h;refine⟨v::vs,h1,by simp[s],λw' hw=>?_⟩;rw[List.mapM_cons];have:=ad w' hw;rw[<-p.2 b x f]at this;rw[sx,W5,this];simp only[W7,W5,y w' hw,V3]
def vn{fn:Func}{e:Env}{a:Act}(p:S7 N e a){K:List x1->Prop}(h:nN P e w fn.results.toList K):
  ∃vs,K vs/\∀w',Ext w w'->(results fn a.tmps).run P w'= .ok (sw vs) w':=by
 have⟨vs,h1,q,f⟩:=vm p _ _ h;refine⟨vs,h1,λw' hw=>?_⟩;have f:=f w' hw;rw[GH,W5,Array.mapM_eq_mapM_toList,map_eq_pure_bind,W5,f];simp only[W7,V3];cases vs with
 |nil=>rfl
 |cons v r=>
  cases r with
  |nil=>rfl
  |cons u r=>simp[sw]
theorem y3{fn:Func}{tmps:Array x1}{R:Ending->x3->Prop}:∀(a:List Nat)(w:x3),a.Nodup->(∀D∈a,w.heap[D]?=σ (.deferred (σ [])))->
  (∀w',Ext w w'->Ext w' w->w'.os=w.os->jS w w'->w'.output=w.output->w.heap.size=w'.heap.size->
   (∀r,r∉a->w'.heap[r]?=w.heap[r]?)->∃v,(results fn tmps).run P w'= .ok v w'/\R (.returned v) w')->
  LeavesInM Fence.wide 0 P fn tmps R (a.map kB) .returning w
 |[],w,_,_,h=>by
  have⟨v,h1,e⟩:=h w (Ext.refl _) (Ext.refl _) T .kv T rfl λ_ _=>rfl;exact⟨v,h1,e⟩
 |D::a,w,f,p,h=>by
  rw[List.nodup_cons]at f;have q:=p D (.head _);refine⟨Ξ,.inl ⟨D,_,T,run_takeDeferred q,?_⟩⟩;refine y3 a _ f.2 (λD' s=>?_) λw' h1 e y z A B C=>?_
  .rw[Q0 (λhe=>f.1 (by rw[<-he];exact s))];exact p D' (.tail _ s)
  .refine h w' ((qw q T _).trans h1) (e.trans (yW T)) y z A (by simpa using B) λr x=>?_;rw[C r λhm=>x (.tail _ hm),Q0 λhe=>x (by rw[he];exact .head _)]
theorem am.enter(hm:P.follows .mixedOrders=true){f:R7}{fn:Func}{c:Code}(ae:P.funcs[f]?=σ fn)(z:fn.body=σ c)(A:(fn.name == "runtime.NumGoroutine")=false)(M:wf fn.ntmps c=true){args:List x1}(N:Nat.ble args.length fn.ntmps=true){w:x3}{Q:x1->x3->Prop}(h:eB P fn.ntmps (false,w.heap.size) c (mP fn.results.toList) (k9 0 args) w (l5 P fn.results.toList true w.heap.size Q)):am P f args w Q:=by
 refine .code (Enters.of P ae z A) (callsIn_wide (n:=0).1 (callsIn_of_wp_marks ae z trivial ?_));have O:=vl (n:=fn.ntmps) args (Nat.le_of_ble_eq_true N);refine wpIn_mono (Q:=λex a' w'=>k8 ex=true/\bodyPostM Fence.wide 0 P fn (λe w'=>∃v,e= .returned v/\cM w w'/\Q v w') ex a' w') ?_ λ_ _ _ h=>h.2;refine sound hm c (false,w.heap.size) ν _ _ _ w _ _ M (λl R=>by cases R) (λ_=>⟨[],rfl,List.nodup_nil,λD s=>by cases s⟩) h O ?_ (λ_ _ _ h=>by cases h.1)
 .intro ex a' w' S;obtain⟨T,V,p,W,_,_,U⟩:=S;obtain⟨a,⟨x,B,X,s⟩,Y,Z,ab⟩:=U rfl;have C:∀D∈x,w.heap.size<=D:=by
   intro D ac;have h1:kB D∈Y.map kB:=by
    have:kB D∈x.map kB:=j5.2 ⟨D,ac,rfl⟩;rw[<-B,Z]at this;simpa using this
   obtain⟨E,y,ad⟩:=j5.1 h1;have:E=D:=by simpa[kB]using ad
   exact this▸ab E y
  have F:l5 P fn.results.toList true w.heap.size Q .ret V w'->LeavesInM Fence.wide 0 P fn a'.tmps (λe G=>∃v,e= .returned v/\cM w G/\Q v G) a'.defers .returning w':=by
   intro p;rw[B];obtain⟨vs,h1,y⟩:=vn (fn:=fn) W p;refine y3 x w' X s λaa g1 af H I J K L=>⟨_,y aa g1,_,rfl,?_,h1 aa g1 ⟨af,H,I,J,Nat.le_of_eq K,λr o A q _=>by rw[L r λhm=>by have:=C r hm;omega];exact q⟩⟩;have a:=a.cw (o4 _);refine⟨H.trans a.os,I.trans a.tape,J.trans a.output,by rw[<-K];exact a.size,λr o q ag=>?_⟩;have ah:=(j4.1 q).1;rw[L r λhm=>by have:=C r hm;omega];exact a.a6 r o q ag
  cases ex with
  |normal=>exact⟨rfl,F p⟩
  |ret=>exact⟨rfl,F p⟩
  |exit id=>exact p.elim
  |_=>cases T
def am.GI(hm:P.follows .mixedOrders=true){f:R7}{fn:Func}{c:Code}(ae:P.funcs[f]?=σ fn)(p:fn.body=σ c)(s:(fn.name == "runtime.NumGoroutine")=false)(x:wf fn.ntmps c=true){args:List x1}(y:Nat.ble args.length fn.ntmps=true)(aB:ky c=false){w:x3}{Q:x1->x3->Prop}(h:eB P fn.ntmps (false,w.heap.size) c (mP fn.results.toList) (k9 0 args) w (l5 P fn.results.toList false 0 Q)):am P f args w Q:=by
 refine .code (Enters.of P ae p s) (callsIn_wide (n:=0).1 (callsIn_of_wp ae p trivial ?_));have z:=vl (n:=fn.ntmps) args (Nat.le_of_ble_eq_true y);refine wpIn_mono (Q:=λex a' w'=>k8 ex=true/\bodyPost P fn (λe w'=>∃v,e= .returned v/\cM w w'/\Q v w') ex a' w') ?_ λ_ _ _ h=>h.2;refine sound hm c (false,w.z) ν _ _ _ w _ _ x (λl A=>by cases A) (λ_=>⟨[],T,List.nodup_nil,λD B=>by cases B⟩) h z ?_ (λ_ _ _ h=>by cases h.1);intro ex a' w' C;have⟨E,F,a,G,_,H,U⟩:=C;have I:a'.defers=[]:=H (by simp[js,aB]);have q:l5 P fn.results.toList false 0 Q .ret F w'->a'.defers=[]/\∃v,(results fn a'.tmps).run P w'= .ok v w'/\∃r,Ending.returned v= .returned r/\cM w w'/\Q r w':=by
  intro a;have⟨vs,h1,J⟩:=vn (fn:=fn) G a;exact⟨I,_,J w' (Ext.refl _),_,T,(U T).1.cw (o4 _),h1⟩
 cases ex with
 |normal=>exact⟨T,q a⟩
 |ret=>exact⟨T,q a⟩
 |exit id=>exact a.elim
 |_=>cases E
def gN.enter(hm:P.follows .mixedOrders=true){f:R7}{fn:Func}{c:Code}(ae:P.funcs[f]?=σ fn)(p:fn.body=σ c)(s:(fn.name == "runtime.NumGoroutine")=false)(x:wf fn.ntmps c=true){args:List x1}(y:Nat.ble args.length fn.ntmps=true){w:x3}{Q:x1->x3->Prop}(h:eB P fn.ntmps (true,0) c (mP fn.results.toList) (k9 0 args) w (l5 P fn.results.toList false 0 Q)):gN P f args w Q:=by
 refine .code (Enters.of P ae p s) (callsIn_wide (n:=0).1 (callsIn_of_wp ae p trivial ?_));have z:=vl (n:=fn.ntmps) args (Nat.le_of_ble_eq_true y);refine wpIn_mono (Q:=λex a' w'=>k8 ex=true/\bodyPost P fn (λe w'=>∃v,e= .returned v/\Q v w') ex a' w') ?_ λ_ _ _ h=>h.2;refine sound hm c (true,0) ν _ _ _ w _ _ x (λl A=>by cases A) (λh=>by cases h) h z ?_ (λ_ _ _ h=>by cases h.1);intro ex a' w' B;have⟨C,E,a,F,_,G,U⟩:=B;have H:a'.defers=[]:=G T;have q:l5 P fn.results.toList false 0 Q .ret E w'->a'.defers=[]/\∃v,(results fn a'.tmps).run P w'= .ok v w'/\∃r,Ending.returned v= .returned r/\Q r w':=by
  intro a;have⟨vs,h1,I⟩:=vn (fn:=fn) F a;exact⟨H,_,I w' (Ext.refl _),_,T,h1⟩
 cases ex with
 |normal=>exact⟨T,q a⟩
 |ret=>exact⟨T,q a⟩
 |exit id=>exact a.elim
 |_=>cases C
end
def qx(l:List S4)(d:Nat):Nat:=
 match l with
 |[]=>d
 | .tmp t::r=>qx r (Nat.lor d (Nat.shiftLeft 1 t))
 |_::r=>qx r d
def pg:List T3->Nat->Option T3
 |[],_=>ν
 |o::_,0=>σ o
 |_::l,n+1=>pg l n
def y4(a b:Nat):Nat:=Nat.xor a (Nat.land a b)
def qy(m t:Nat):Bool:=S0 (Nat.land (Nat.shiftRight m t) 1) 1
def kC(m t:Nat):Nat:=Nat.lor m (Nat.shiftLeft 1 t)
def GJ(ops:List T3)(o:T3):Nat:=
 match o.guard with
 |none=>0
 |some (j,_)=>match pg ops j with
  |some ⟨σ d,_,_,_,_,_⟩=>Nat.shiftLeft 1 d
  |_=>0
def sy:List T3->Nat->Nat
 |[],d=>d
 |⟨σ t,_,_,_,_,_⟩::l,d=>sy l (kC d t)
 |_::l,d=>sy l d
def y5(ops:List T3):List T3->Nat->Nat->Nat
 |[],_,r=>r
 |o::l,d,r=>y5 ops l (match o.dst with|some t=>kC d t|none=>d) (Nat.lor r (y4 (qx (opsOf o.op) (GJ ops o)) d))
def sz:List Nat->Nat->Nat
 |[],_=>0
 |x::_,0=>x
 |_::l,n+1=>sz l n
def y6(e:Edge):Bool:=
 match e.ground with
 | .textOnly _=>false
 | .gcOnly _=>false
 |_=>true
def y7(bs:List Nat):List Edge->Nat->Nat
 |[],s=>s
 |e::r,s=>y7 bs r (bif y6 e then Nat.lor (kC s e.on) (sz bs e.on)else s)
def vo:List T3->List Nat->List Nat
 |[],bs=>bs
 |o::l,bs=>vo l (bs++[y7 bs o.after.toList 0])
def y8:List T3->Bool
 |[]=>false
 |⟨_,_,_,_,_,σ _⟩::_=>true
 |_::l=>y8 l
def vp(bs:List Nat)(j k:Nat):Bool:=!(S0 k j)&&(!(qy (sz bs j) k)&& !(qy (sz bs k) j))
def y9(bs:List Nat)(j:Nat):Nat->List T3->Bool
 |_,[]=>false
 |i,o::l=>bif Nat.ble j i then false else(!(jo o)&&vp bs j i)||y9 bs j (Nat.succ i) l
def za(ops:List T3)(bs:List Nat):Nat->List T3->Bool
 |_,[]=>false
 |j,o::l=>(!(jo o)&&y9 bs j 0 ops)||za ops bs (Nat.succ j) l
def l6:Code->Nat
 | .region _ ops e=>bif (e&&za ops.toList (vo ops.toList []) 0 ops.toList)||y8 ops.toList then 2 else 1
 | .seq a b=>bif S0 (l6 a) 0 then 0 else l6 b
 | .cond _ a b=>Nat.add (l6 a) (l6 b)
 | .block id c=>Nat.add (l6 c) (jU id c)
 | .loop _=>0
 | .scope c=>l6 c
 | .exit _=>0
 | .goto _=>0
 | .ret=>0
 | .refuse _=>0
 |_=>1
def iw:Code->Nat
 | .region _ ops _=>sy ops.toList 0
 | .seq a b=>Nat.lor (iw a) (iw b)
 | .cond _ a b=>Nat.lor (iw a) (iw b)
 | .block _ c=>iw c
 | .loop c=>iw c
 | .scope c=>iw c
 |_=>0
def l7:Code->Nat
 | .region _ ops _=>sy ops.toList 0
 | .seq a b=>Nat.lor (l7 a) (l7 b)
 | .cond _ a b=>bif S0 (l6 a) 0 then l7 b else bif S0 (l6 b) 0 then l7 a else Nat.land (l7 a) (l7 b)
 | .block id c=>bif S0 (jU id c) 0 then l7 c else 0
 | .scope c=>l7 c
 |_=>0
def gA:Code->Nat
 | .region _ ops _=>y5 ops.toList ops.toList 0 0
 | .seq a b=>Nat.lor (gA a) (y4 (gA b) (l7 a))
 | .cond c a b=>qx [c] (Nat.lor (gA a) (gA b))
 | .block _ c=>gA c
 | .loop c=>gA c
 | .scope c=>gA c
 | .rangeFunc f _ a b=>qx [f] (Nat.lor (gA a) (gA b))
 |_=>0
def mQ:Nat->Nat->Nat->List Nat
 |0,_,_=>[]
 |n+1,k,m=>bif S0 m 0 then[]else bif S0 (Nat.land m 1) 1 then k::mQ n (Nat.succ k) (Nat.shiftRight m 1)else mQ n (Nat.succ k) (Nat.shiftRight m 1)
def qz(e:Env):List Nat->List Nat
 |[]=>[]
 |t::r=>match look e t with
  |some _=>t::qz e r
  |none=>qz e r
structure mR(B S aY:Type) where
 la:{x:x1}->x1
 tup:List x1->x1
 no:B
 lb:B
 and:B->B->B
 or:B->B->B
 ext:x3->x3->B
 stays:S->x1->x3->B
 split:x1->B->B->B
 vq:S->x3->(x1->B)->B
 zb:S->x3->(x1->x3->B)->B
 zc:aY->x3->(x3->B)->B
 runN:{fr:Bool}->{n:Nat}->S->x3->(x1->x3->B)->B
 zd:{f:R7}->List x1->x3->(x1->x3->B)->B
 ze:{f:R7}->List x1->x3->(x1->x3->B)->B
 zf:{fr:Bool}->x1->List x1->x3->(x1->x3->B)->B
 drew:x3->(x3->B)->B
 again:{n:Nat}->x3->(x3->B)->B
 over:{n:Nat}->x3->(x3->B)->B
 dc:(x3->B)->((x3->B)->B)->B
 aV:(x1->x3->B)->((x1->x3->B)->B)->B
 gQ:(x1->x1->x3->B)->((x1->x1->x3->B)->B)->B
 zg:(x1->x1->x1->x3->B)->((x1->x1->x1->x3->B)->B)->B
 zh:(x1->x1->x1->x1->x3->B)->((x1->x1->x1->x1->x3->B)->B)->B
 zi:(x1->x1->x1->x1->x1->x3->B)->((x1->x1->x1->x1->x1->x3->B)->B)->B
 zj:x3->(x3->(x3->B)->B)->B
 zk:x1->x3->(x1->x3->(x1->x3->B)->B)->B
 zl:x1->x1->x3->(x1->x1->x3->(x1->x1->x3->B)->B)->B
 zm:x1->x1->x1->x3->(x1->x1->x1->x3->(x1->x1->x1->x3->B)->B)->B
 zn:x1->x1->x1->x1->x3->(x1->x1->x1->x1->x3->(x1->x1->x1->x1->x3->B)->B)->B
 zo:x1->x1->x1->x1->x1->x3->(x1->x1->x1->x1->x1->x3->(x1->x1->x1->x1->x1->x3->B)->B)->B
 zp:x1->x1->x1->x1->x1->x1->x3->(x1->x1->x1->x1->x1->x1->x3->(x1->x1->x1->x1->x1->x1->x3->B)->B)->B
 zq:x1->x3->(x1->x3->(Exit->x3->B)->B)->(x3->B)->(x3->B)->List (Nat×(x3->B))->B
 zr:x1->x3->(x1->x1->x3->(Exit->x3->B)->B)->(x3->B)->(x3->B)->List (Nat×(x3->B))->B
 loadVar:{t:p9}->x1->S
 alloc:{t:p9}->S
 box:{t:p9}->x1->S
 build:{t:p9}->List (Nat×x1)->S
 buildSlice:{t:p9}->{n:Nat}->List (Nat×x1)->S
 load:{t:p9}->x1->S
 nil:x1->S
 bin:{op:BinOp}->{t:p9}->Bool->Bool->x1->x1->S
 un:{op:UnOp}->x1->S
 conv:{s d:p9}->x1->S
 zs:{t:p9}->x1->S
 zt:{f:Fn}->List x1->List x1->S
 zu:{t:p9}->Option x1->S
 zv:{t:p9}->x1->x1->S
 slice:{t:p9}->x1->Option x1->Option x1->Option x1->S
 zw:{t:p9}->x1->{f:Nat}->S
 field:{t:p9}->x1->{f:Nat}->S
 zx:{t:p9}->x1->x1->S
 index:{t:p9}->x1->x1->S
 lookup:{t:p9}->x1->x1->{ok:Bool}->S
 zy:{t:p9}->x1->x1->S
 range:{t:p9}->x1->S
 entry:x1->S
 assert:{t a:p9}->x1->{ok:Bool}->S
 extract:x1->{i:Nat}->S
 next:x1->{b:Bool}->S
 append:{ats:Array p9}->{t:p9}->List x1->S
 cap:{ats:Array p9}->{t:p9}->List x1->S
 clear:{ats:Array p9}->{t:p9}->List x1->S
 copy:{ats:Array p9}->{t:p9}->List x1->S
 delete:{ats:Array p9}->{t:p9}->List x1->S
 len:{ats:Array p9}->{t:p9}->List x1->S
 max:{ats:Array p9}->{t:p9}->List x1->S
 min:{ats:Array p9}->{t:p9}->List x1->S
 store:{t:p9}->x1->x1->aY
 vr:{t:p9}->x1->x1->x1->aY
 zz:{t:p9}->x1->x1->x1->aY
section
variable{B S aY:Type}(A:mR B S aY)
def eA.g:eA->x1
 | .v x=>x
 | .b c=>.bool c
 | .u=>A.la (x:=undef)
def nO(e:Env):S4->eA
 | .tmp t=>match look e t with
  |some x=>x
  |none=>.u
 | .const (.bool c)=>.b c
 | .const x=>.v (A.la (x:=x))
 | .global g=>.v (A.la (x:=Γ g))
 | .func f=>.v (A.la (x:=.func (.func f) #[] #[]))
def c3(e:Env)(x:S4):x1:=(nO A e x).g A
def nP(e:Env):List S4->List x1
 |[]=>[]
 |x::r=>c3 A e x::nP e r
def sA(e:Env):Option S4->Option x1
 |none=>ν
 |some x=>σ (c3 A e x)
def vt(e:Env):List (Nat×S4)->List (Nat×x1)
 |[]=>[]
 |(i,x)::r=>(i,c3 A e x)::vt e r
def GK(b:Z3)(ats:Array p9)(t:p9)(l:List x1)(K:S->B):B:=
 match b with
 | .append=>K (A.append (ats:=ats) (t:=t) l)
 | .cap=>K (A.cap (ats:=ats) (t:=t) l)
 | .clear=>K (A.clear (ats:=ats) (t:=t) l)
 | .copy=>K (A.copy (ats:=ats) (t:=t) l)
 | .delete=>K (A.delete (ats:=ats) (t:=t) l)
 | .len=>K (A.len (ats:=ats) (t:=t) l)
 | .max=>K (A.max (ats:=ats) (t:=t) l)
 | .min=>K (A.min (ats:=ats) (t:=t) l)
 |_=>A.no
def zA(e:Env)(t:p9)(K:S->B)(p:aY->B):Op->B
 | .alloc t=>K (A.alloc (t:=t))
 | .box t x=>K (A.box (t:=t) (c3 A e x))
 | .build t q=>K (A.build (t:=t) (vt A e q.toList))
 | .buildSlice t n q=>K (A.buildSlice (t:=t) (n:=n) (vt A e q.toList))
 | .load t x=>K (A.load (t:=t) (c3 A e x))
 | .nilCheck x=>K (A.nil (c3 A e x))
 | .binOp op t x y _=>K (A.bin (op:=op) (t:=t) (o0 x) (o0 y) (c3 A e x) (c3 A e y))
 | .unOp op _ x=>K (A.un (op:=op) (c3 A e x))
 | .convert s d x=>K (A.conv (s:=s) (d:=d) (c3 A e x))
 | .makeInterface t x=>K (A.zs (t:=t) (c3 A e x))
 | .makeFunc f a b=>K (A.zt (f:=f) (nP A e a.toList) (nP A e b.toList))
 | .makeMap t r=>K (A.zu (t:=t) (sA A e r))
 | .makeSlice t l c=>K (A.zv (t:=t) (c3 A e l) (c3 A e c))
 | .slice t x l h m=>K (A.slice (t:=t) (c3 A e x) (sA A e l) (sA A e h) (sA A e m))
 | .fieldAddr t x f=>K (A.zw (t:=t) (c3 A e x) (f:=f))
 | .field t x f=>K (A.field (t:=t) (c3 A e x) (f:=f))
 | .indexAddr t x i=>K (A.zx (t:=t) (c3 A e x) (c3 A e i))
 | .index t x i=>K (A.index (t:=t) (c3 A e x) (c3 A e i))
 | .lookup t x i ok=>K (A.lookup (t:=t) (c3 A e x) (c3 A e i) (ok:=ok))
 | .mapEntry t m k=>K (A.zy (t:=t) (c3 A e m) (c3 A e k))
 | .range t x=>K (A.range (t:=t) (c3 A e x))
 | .entry x=>K (A.entry (c3 A e x))
 | .typeAssert x t a ok=>K (A.assert (t:=t) (a:=a) (c3 A e x) (ok:=ok))
 | .extract x i=>K (A.extract (c3 A e x) (i:=i))
 | .call ⟨.builtin b,args,ats⟩=>GK A b ats t (nP A e args.toList) K
 | .store t a x=>p (A.store (t:=t) (c3 A e a) (c3 A e x))
 | .mapUpdate t m k x=>p (A.vr (t:=t) (c3 A e m) (c3 A e k) (c3 A e x))
 | .insert t m k x=>p (A.vr (t:=t) (c3 A e m) (c3 A e k) (c3 A e x))
 | .entryStore t m k x=>p (A.zz (t:=t) (c3 A e m) (c3 A e k) (c3 A e x))
 |_=>A.no
def hD(e:Env)(d:Option Tmp)(x:eA):Env:=
 match d with
 |some t=>(t,x)::e
 |none=>e
def zB(o:T3)(e:Env)(w:x3)(K:Env->(x3->B)->B):B:=
 match o with
 |⟨d,.move x,_,_,_,_⟩=>K (hD e d (nO A e x)) (λ_=>A.lb)
 |⟨d,.assign x,_,_,_,_⟩=>K (hD e d (nO A e x)) (λ_=>A.lb)
 |⟨d,.pick c a b,_,_,_,_⟩=>
  match nO A e c with
  | .b true=>K (hD e d (nO A e a)) (λ_=>A.lb)
  | .b false=>K (hD e d (nO A e b)) (λ_=>A.lb)
  | .v x=>A.split x (K (hD e d (.v (c3 A e a))) (λ_=>A.lb)) (K (hD e d (.v (c3 A e b))) (λ_=>A.lb))
  | .u=>A.no
 |⟨d,op,t,_,_,_⟩=>zA A e t (λs=>A.vq s w λv=>K (hD e d (.v v)) (A.stays s v)) (λ_=>A.no) op
def GL(fr:Bool)(n:Nat)(o:T3)(e:Env)(w:x3)(K:Env->x3->B):B:=
 match o with
 |⟨d,.call ⟨.value (.func f),args,_⟩,_,_,_,_⟩=>
  bif fr then A.ze (f:=f) (nP A e args.toList) w λv w'=>K (hD e d (.v v)) w'
  else A.zd (f:=f) (nP A e args.toList) w λv w'=>K (hD e d (.v v)) w'
 |⟨d,.call ⟨.value x,args,_⟩,_,_,_,_⟩=>A.zf (fr:=fr) (c3 A e x) (nP A e args.toList) w λv w'=>K (hD e d (.v v)) w'
 |⟨d,.next x b,_,_,_,_⟩=>A.runN (fr:=fr) (n:=n) (A.next (c3 A e x) (b:=b)) w λv w'=>K (hD e d (.v v)) w'
 |⟨d,op,t,_,_,_⟩=>zA A e t (λs=>A.zb s w λv w'=>K (hD e d (.v v)) w') (λu=>A.zc u w λw'=>K (hD e d (.v (A.la (x:=undef)))) w') op
def zC(fr:Bool)(n:Nat)(o:T3)(e:Env)(w:x3)(K:Env->x3->B):B:=
 bif jo o then zB A o e w (λa _=>K a w)else GL A fr n o e w K
def vu(ops:List T3)(o:T3)(e:Env)(D N:Env->B):B:=
 match o.guard with
 |none=>D e
 |some (j,b)=>
  match pg ops j with
  |some ⟨σ s,_,_,_,_,_⟩=>
   match look e s with
   |some (.b c)=>bif xor c b then N e else D e
   |some (.v x)=>A.split x (bif b then D ((s,.b true)::e)else N ((s,.b true)::e)) (bif b then N ((s,.b false)::e)else D ((s,.b false)::e))
   |some .u=>N e
   |none=>A.no
  |_=>A.no
def vv(fr:Bool)(n:Nat)(ops:List T3):List T3->Env->x3->(Env->x3->B)->B
 |[],e,w,K=>K e w
 |o::l,e,w,K=>vu A ops o e (λe=>zC A fr n o e w λa w'=>vv fr n ops l a w' K) (λe=>vv fr n ops l (hD e o.dst .u) w K)
def zD:List Edge->Nat->Bool
 |[],_=>true
 |e::r,a=>(bif y6 e then qy a e.on else true)&&zD r a
def sB(a:Nat):Nat->List T3->List Nat
 |_,[]=>[]
 |i,o::l=>bif qy a i then sB a (Nat.succ i) l else bif zD o.after.toList a then i::sB a (Nat.succ i) l else sB a (Nat.succ i) l
def zE(ops:List T3):List Nat->Option Nat
 |[]=>ν
 |i::r=>match pg ops i with
  |some o=>bif jo o then σ i else zE ops r
  |none=>ν
def zF(p:Nat->B):List Nat->B
 |[]=>A.lb
 |[i]=>p i
 |i::r=>A.and (p i) (zF p r)
def zG(same:Bool)(q:Nat)(w:x3)(st:x3->B)(a:List (x3×List (Nat×(x3->B)))):List (x3×List (Nat×(x3->B))):=
 match same,a with
 |true,g::r=>(g.1,(q,st)::g.2)::r
 |_,a=>(w,[(q,st)])::a
def zH(bs:List Nat)(j:Nat):List (Nat×(x3->B))->Bool
 |[]=>false
 |(i,_)::r=>vp bs j i||zH bs j r
def vw(bs:List Nat)(j:Nat)(w':x3):List (Nat×(x3->B))->B
 |[]=>A.lb
 |(i,p)::r=>bif vp bs j i then A.and (p w') (vw bs j w' r)else vw bs j w' r
def sC(bs:List Nat)(j:Nat)(w':x3)(C:B):List (x3×List (Nat×(x3->B)))->B
 |[]=>C
 |(w,l)::r=>bif zH bs j l then A.and (A.or (A.ext w w') (vw A bs j w' l)) (sC bs j w' C r)else sC bs j w' C r
def nQ(fr:Bool)(n:Nat)(ops:List T3)(bs:List Nat):Nat->Nat->Bool->List (x3×List (Nat×(x3->B)))->Env->x3->(Env->x3->B)->B
 |0,_,_,_,e,w,K=>K e w
 |fuel+1,f,same,a,e,w,K=>
  match sB f 0 ops with
  |[]=>K e w
  |i::r=>
   match zE ops (i::r)with
   |some q=>
    match pg ops q with
    |some o=>vu A ops o e
      (λe=>zB A o e w λh st=>
       bif l0 o then nQ fr n ops bs fuel (kC f q) same a h w K
       else nQ fr n ops bs fuel (kC f q) true (zG same q w st a) h w K)
      (λe=>bif l0 o then nQ fr n ops bs fuel (kC f q) same a (hD e o.dst .u) w K
       else nQ fr n ops bs fuel (kC f q) true (zG same q w (λ_=>A.lb) a) (hD e o.dst .u) w K)
    |none=>A.no
   |none=>
    zF A (λj=>match pg ops j with
     |some o=>vu A ops o e (λe=>zC A fr n o e w λh w'=>sC A bs j w' (nQ fr n ops bs fuel (kC f j) false a h w' K) a)
       (λe=>sC A bs j w (nQ fr n ops bs fuel (kC f j) false a (hD e o.dst .u) w K) a)
     |none=>A.no) (i::r)
def sD(e:Env):List Nat->List x1
 |[]=>[]
 |t::r=>(match look e t with|some x=>x.g A|none=>A.la (x:=undef))::sD e r
def vx(l:List Nat)(vs:List x1)(e:Env):Env:=
 match l,vs with
 |t::r,v::vs=>(t,.v v)::vx r vs e
 |_,_=>e
def sE(d:Nat):Env->Env
 |[]=>[]
 |(t,x)::r=>bif qy d t then sE d r else(t,x)::sE d r
def GM(l:List Nat)(aA:List x1->x3->B)(e:(List x1->x3->B)->B):B:=
 match l with
 |[]=>A.dc (λw=>aA [] w) λk=>e λ_ w=>k w
 |[_]=>A.aV (λa w=>aA [a] w) λk=>e λvs w=>match vs with
  |[a]=>k a w
  |_=>A.no
 |[_,_]=>A.gQ (λa b w=>aA [a,b] w) λk=>e λvs w=>match vs with
  |[a,b]=>k a b w
  |_=>A.no
 |[_,_,_]=>A.zg (λa b c w=>aA [a,b,c] w) λk=>e λvs w=>match vs with
  |[a,b,c]=>k a b c w
  |_=>A.no
 |[_,_,_,_]=>A.zh (λa b c d w=>aA [a,b,c,d] w) λk=>e λvs w=>match vs with
  |[a,b,c,d]=>k a b c d w
  |_=>A.no
 |[_,_,_,_,_]=>A.zi (λa b c d f w=>aA [a,b,c,d,f] w) λk=>e λvs w=>match vs with
  |[a,b,c,d,f]=>k a b c d f w
  |_=>A.no
 |_=>A.no
def GN(us:List x1)(w:x3)(e:List x1->x3->(List x1->x3->B)->B):B:=
 match us with
 |[]=>A.zj w λw k=>e [] w λ_ w=>k w
 |[a]=>A.zk a w λa w k=>e [a] w λvs w=>match vs with
  |[a]=>k a w
  |_=>A.no
 |[a,b]=>A.zl a b w λa b w k=>e [a,b] w λvs w=>match vs with
  |[a,b]=>k a b w
  |_=>A.no
 |[a,b,c]=>A.zm a b c w λa b c w k=>e [a,b,c] w λvs w=>match vs with
  |[a,b,c]=>k a b c w
  |_=>A.no
 |[a,b,c,d]=>A.zn a b c d w λa b c d w k=>e [a,b,c,d] w λvs w=>match vs with
  |[a,b,c,d]=>k a b c d w
  |_=>A.no
 |[a,b,c,d,f]=>A.zo a b c d f w λa b c d f w k=>e [a,b,c,d,f] w λvs w=>match vs with
  |[a,b,c,d,f]=>k a b c d f w
  |_=>A.no
 |[a,b,c,d,f,g]=>A.zp a b c d f g w λa b c d f g w k=>e [a,b,c,d,f,g] w λvs w=>match vs with
  |[a,b,c,d,f,g]=>k a b c d f g w
  |_=>A.no
 |_=>A.no
def vy(K:Nat->x3->B):List Nat->List (Nat×(x3->B))
 |[]=>[]
 |i::r=>(i,λw=>K i w)::vy K r
def h7(fr:Bool)(n:Nat):Code->Nat->Env->x3->(Exit->Env->x3->B)->B
 | .skip,_,e,w,K=>K .normal e w
 | .label _,_,e,w,K=>K .normal e w
 | .ret,_,e,w,K=>K .ret e w
 | .exit i,_,e,w,K=>K (.exit i) e w
 | .region _ ops E,_,e,w,K=>
  bif E then A.drew w λw'=>nQ A fr n ops.toList (vo ops.toList []) (ops.toList.length) 0 false [] e w' (K .normal)
  else vv A fr n ops.toList ops.toList e w (K .normal)
 | .seq x y,rd,e,w,K=>
  bif Nat.ble 2 (l6 x)then
   GM A (mQ 1000 0 (Nat.land (iw x) (Nat.lor (gA y) rd))) (λvs w'=>h7 fr n y rd (vx (mQ 1000 0 (Nat.land (iw x) (Nat.lor (gA y) rd))) vs (sE (iw x) e)) w' K)
    λaA=>h7 fr n x (Nat.lor (gA y) rd) e w λex h w'=>match ex with
     | .normal=>aA (sD A h (mQ 1000 0 (Nat.land (iw x) (Nat.lor (gA y) rd)))) w'
     |ex=>K ex h w'
  else h7 fr n x (Nat.lor (gA y) rd) e w λex h w'=>match ex with
   | .normal=>h7 fr n y rd h w' K
   |ex=>K ex h w'
 | .cond c x y,rd,e,w,K=>
  match nO A e c with
  | .b true=>h7 fr n x rd e w K
  | .b false=>h7 fr n y rd e w K
  | .v v=>A.split v (h7 fr n x rd e w K) (h7 fr n y rd e w K)
  | .u=>A.no
 | .block id c,rd,e,w,K=>h7 fr n c rd e w λex h w'=>match ex with
  | .exit i=>bif S0 i id then K .normal h w' else K (.exit i) h w'
  |ex=>K ex h w'
 | .loop c,rd,e,w,K=>
  GN A (sD A e (qz e (mQ 1000 0 (Nat.land (iw c) (Nat.lor (gA c) rd))))) w λus w' k=>
   h7 fr n c (Nat.lor (gA c) rd) (vx (qz e (mQ 1000 0 (Nat.land (iw c) (Nat.lor (gA c) rd)))) us (sE (iw c) e)) w' λex h r=>match ex with
    | .normal=>k (sD A h (qz e (mQ 1000 0 (Nat.land (iw c) (Nat.lor (gA c) rd))))) r
    |ex=>K ex h r
 | .scope c,rd,e,w,K=>h7 fr n c rd e w K
 | .rangeFunc f F C body,_,e,w,K=>
  match F.toList with
  |[p]=>A.zq (c3 A e f) w
    (λa w' k=>h7 fr n C (gA body) ((p,.v a)::e) w' λex h r=>match ex with
     | .normal=>A.over (n:=w.heap.size) r λs=>h7 fr n body 0 h s λex _ z=>k ex z
     |_=>A.no)
    (λw'=>K .normal e w') (bif jr body then λw'=>K .ret e w' else λ_=>A.no) (vy (λi w'=>K (.exit i) e w') (jV body))
  |[p,q]=>A.zr (c3 A e f) w
    (λa b w' k=>h7 fr n C (gA body) ((q,.v b)::(p,.v a)::e) w' λex h r=>match ex with
     | .normal=>A.over (n:=w.heap.size) r λs=>h7 fr n body 0 h s λex _ z=>k ex z
     |_=>A.no)
    (λw'=>K .normal e w') (bif jr body then λw'=>K .ret e w' else λ_=>A.no) (vy (λi w'=>K (.exit i) e w') (jV body))
  |_=>A.no
 | .goto _,_,_,_,_=>A.no
 | .refuse _,_,_,_,_=>A.no
def zI:Nat->List x1->Env
 |_,[]=>[]
 |i,v::r=>(i,.v (A.la (x:=v)))::zI (i+1) r
def sF(e:Env)(w:x3):List ResultVar->(List x1->B)->B
 |[],K=>K []
 | .tmp t::r,K=>sF e w r λvs=>K ((match look e t with|some x=>x.g A|none=>A.la (x:=undef))::vs)
 | .cell a t::r,K=>A.vq (A.loadVar (t:=t) (match look e a with|some x=>x.g A|none=>A.la (x:=undef))) w λv=>sF e w r λvs=>K (v::vs)
def sG(vs:List x1)(K:x1->B):B:=
 match vs with
 |[v]=>K v
 |vs=>K (A.tup vs)
def vz:List ResultVar->Nat->Nat
 |[],s=>s
 | .tmp t::r,s=>vz r (kC s t)
 | .cell a _::r,s=>vz r (kC s a)
def GO(a:List ResultVar)(marks:Bool)(n:Nat)(Q:x1->x3->B):Exit->Env->x3->B
 | .normal,e,w=>sF A e w a λvs=>bif marks then A.again (n:=n) w λw'=>sG A vs λv=>Q v w' else sG A vs λv=>Q v w
 | .ret,e,w=>sF A e w a λvs=>bif marks then A.again (n:=n) w λw'=>sG A vs λv=>Q v w' else sG A vs λv=>Q v w
 |_,_,_=>A.no
def vA(fr marks:Bool)(fn:Func)(c:Code)(args:List x1)(w:x3)(Q:x1->x3->B):B:=
 h7 A fr n c (vz fn.results.toList 0) (zI A 0 args) w (GO A fn.results.toList marks n Q)
end
def ph(P:W8):mR Prop (Sem x1) (Sem Unit) where
 la {x}:=x
 tup l:=.tuple l.toArray
 no:=False
 lb:=True
 and:=And
 or:=Or
 ext:=Ext
 stays:=cD P
 split:=Split
 vq:=ac P
 zb:=aE P
 zc u w K:=aE P u w λ_ w'=>K w'
 runN {fr n}:=r7 P (fr,n)
 zd {f}:=am P f
 ze {f}:=gN P f
 zf {fr}:=sd P fr
 drew:=ev
 again {n}:=vg n
 over {n}:=Over n
 dc:=cz
 aV:=cz
 gQ:=cz
 zg:=cz
 zh:=cz
 zi:=cz
 zj:=Gr
 zk:=cp
 zl:=bT
 zm:=kz
 zn:=sm
 zo:=qs
 zp:=Gs
 zq:=jW P
 zr:=pd P
 loadVar {t} x:=do loadVar t (<-asAddr x)
 alloc {t}:=Q1 t true (.tuple #[])
 box {t} x:=Instr.box t x
 build {t} l:=Instr.build t l.toArray
 buildSlice {t n} l:=Y5 t n l.toArray
 load {t} x:=u5 t x
 nil x:=bQ x
 bin {op t} a b x y:=aO op t a b x y
 un {op} x:=Op.unary op x
 conv {s d} x:=convert s d x
 zs {t} x:=Instr.makeInterface t x
 zt {f} a b:=Instr.makeFunc f a.toArray b.toArray
 zu {t} x:=Instr.makeMap t x
 zv {t} l c:=Instr.makeSlice t l c
 slice {t} x l h m:=V9 t x l h m
 zw {t} x {f}:=u6 t x f
 field {t} x {f}:=Instr.field t x f
 zx {t} x i:=j9 t x i
 index {t} x i:=Instr.index t x i
 lookup {t} x i {ok}:=Instr.lookup t x i ok
 zy {t} m k:=Instr.mapEntry t m k
 range {t} x:=Instr.range t x
 entry x:=Instr.entry x
 assert {t a} x {ok}:=Instr.typeAssert x t a ok
 extract x {i}:=Y0 x i
 next x {b}:=Instr.next x b 0
 append {ats t} l:=Z0 ats t l.toArray
 cap {ats t} l:=Z3.cap_ ats t l.toArray
 clear {ats t} l:=Z3.clear_ ats t l.toArray
 copy {ats t} l:=Z3.copy_ ats t l.toArray
 delete {ats t} l:=Z3.delete_ ats t l.toArray
 len {ats t} l:=V0 ats t l.toArray
 max {ats t} l:=Z3.max_ ats t l.toArray
 min {ats t} l:=Z3.min_ ats t l.toArray
 store {t} a x:=o8 t a x
 vr {t} m k x:=Instr.mapUpdate t m k x
 zz {t} m k x:=Instr.entryStore t m k x
end Go.Vc
namespace Go.Proofs.YtikkpokkcdocoabGreatDoor
open Go Go.Vc Go.RowKit Go.Proofs Go.Proofs.Tryz
set_option maxRecDepth 100000
def mixed:x7.follows .mixedOrders=true:=Ψ
def zJ:Nat:=4
def GP:Nat:=7
def GQ:Nat:=8
def GR:Nat:=9
def GS:Nat:=11
def GU:Nat:=12
def GV:Nat:=13
def GW:Nat:=15
def GX:Nat:=16
def zK:Nat:=17
def GY:Nat:=18
def GZ:Nat:=19
def vB:Nat:=20
def G0:Nat:=21
def G1:Nat:=22
def G2:Nat:=23
def G3:Nat:=24
def G4:Nat:=25
def G5:Nat:=26
def zL:Nat:=27
def zM:Nat:=28
def G6:Nat:=29
def G7:Nat:=30
def G8:Nat:=31
def G9:Nat:=32
def Ha:Nat:=34
def Hb:Nat:=35
def Hc:Nat:=36
def Hd:Nat:=37
def He:Nat:=38
def Hf:Nat:=39
def Hg:Nat:=40
def Hh:Nat:=41
def zN:Nat:=43
def Hi:Nat:=44
def Hj:Nat:=45
def Hk:Nat:=46
def zO:Nat:=47
def Hl:Nat:=48
def Hm:Nat:=49
def Hn:Nat:=50
def zP:Nat:=51
def vC:Nat:=53
def Ho:Nat:=54
def Hp:Nat:=55
def Hq:Nat:=56
def Hr:Nat:=57
def zQ:Nat:=58
def Hs:Nat:=59
def Ht:Nat:=60
def Hu:Nat:=61
def Hv:Nat:=62
def Tl:Nat:=63
def vD:Nat:=64
def Hw:Nat:=65
def Hx:Nat:=66
def Hy:Nat:=67
def Hz:Nat:=68
def HA:Nat:=69
def HB:Nat:=70
def HC:Nat:=71
def zR:Nat:=72
def HD:Nat:=73
def HE:Nat:=74
def HF:Nat:=75
def qA:Nat:=76
def HG:Nat:=77
def HH:Nat:=78
def HI:Nat:=79
def HJ:Nat:=81
def cmp_isNaN_int:Nat:=82
def zS:Nat:=83
def HK:Nat:=84
def HL:Nat:=85
def HM:Nat:=86
def HN:Nat:=87
def HO:Nat:=88
def HP:Nat:=89
def HQ:Nat:=90
def HR:Nat:=91
def HS:Nat:=92
def HT:Nat:=93
def HU:Nat:=94
def iT:Nat:=95
def HV:Nat:=96
def HW:Nat:=97
def HX:Nat:=98
def l8:Nat:=99
def HY:Nat:=100
def HZ:Nat:=101
def H0:Nat:=102
def H1:Nat:=103
def zT:Nat:=104
def zU:Nat:=105
def qB:Nat:=106
def nR:Nat:=107
def ld:Nat:=108
def zV:Nat:=109
def vE:Nat:=110
def nS:Nat:=111
def zW:Nat:=112
def vF:Nat:=113
def H2:Nat:=114
def H3:Nat:=115
def sH:Nat:=116
def ma:Nat:=117
def zX:Nat:=118
def nT:Nat:=119
def H4:Nat:=120
def H5:Nat:=121
def H6:Nat:=122
def H7:Nat:=123
def zY:Nat:=124
def H8:Nat:=125
def H9:Nat:=126
def zZ:Nat:=127
def z1:Nat:=128
def Ia:Nat:=129
def Ib:Nat:=130
def Ic:Nat:=131
def Ie:Nat:=132
def vG:Nat:=133
def If:Nat:=134
def Ig:Nat:=135
def Ih:Nat:=136
def Ii:Nat:=137
def Ij:Nat:=138
def Ik:Nat:=139
def Il:Nat:=140
def Im:Nat:=141
def nU:Nat:=142
def nV:Nat:=143
def In:Nat:=144
def Io:Nat:=145
def Ip:Nat:=146
def Iq:Nat:=147
def Ir:Nat:=148
def Is:Nat:=149
def It:Nat:=150
def Iu:Nat:=151
def Iv:Nat:=152
def Iw:Nat:=153
def Ix:Nat:=154
def Tm:Nat:=155
def Iy:Nat:=156
def Iz:Nat:=157
def IA:Nat:=158
def z6:Nat:=159
def IB:Nat:=160
def IC:Nat:=161
def Tn:Nat:=162
def ID:Nat:=172
def IE:Nat:=173
def IF:Nat:=174
def IG:Nat:=175
def IH:Nat:=176
def II:Nat:=177
def IJ:Nat:=178
def IK:Nat:=179
def IL:Nat:=180
def z7:Nat:=181
def IM:Nat:=182
def IN:Nat:=183
def IP:Nat:=184
def IQ:Nat:=185
def IR:Nat:=186
def pi:Nat:=187
def IS:Nat:=188
def IT:Nat:=189
def sI:Nat:=190
def IU:Nat:=191
def IV:Nat:=192
def z8:Nat:=193
def Aa:Nat:=194
def Ab:Nat:=195
def IW:Nat:=196
def qC:Nat:=197
def IX:Nat:=198
def vH:Nat:=199
def IY:Nat:=200
def IZ:Nat:=201
def Ac:Nat:=202
def I0:Nat:=203
def I1:Nat:=204
def I2:Nat:=205
def I3:Nat:=206
def I4:Nat:=207
def Ad:Nat:=208
def I5:Nat:=209
def I6:Nat:=210
def I7:Nat:=211
def I8:Nat:=212
def Ae:Nat:=213
def I9:Nat:=214
def Ja:Nat:=215
def Jb:Nat:=216
def Jc:Nat:=217
def Af:Nat:=218
def Jd:Nat:=219
def Je:Nat:=220
def Jf:Nat:=221
def Jg:Nat:=222
def Jh:Nat:=223
def sJ:Nat:=224
def Ji:Nat:=225
def Jj:Nat:=226
def Jk:Nat:=232
def vI:Nat:=233
def sK:Nat:=234
def vJ:Nat:=235
def Jl:Nat:=236
def vK:Nat:=237
def Jm:Nat:=238
def Jn:Nat:=239
def vL:Nat:=240
def Jo:Nat:=241
def Jp:Nat:=242
def Ag:Nat:=243
def Ah:Nat:=244
def Jq:Nat:=245
def Jr:Nat:=246
def Js:Nat:=247
def Jt:Nat:=248
def Ju:Nat:=249
def Jv:Nat:=250
def Jw:Nat:=251
def To:Nat:=252
def Ai:Nat:=254
def vM:Nat:=255
def sL:Nat:=256
def Jx:Nat:=257
def Jy:Nat:=258
def Aj:Nat:=259
def Jz:Nat:=260
def JA:Nat:=261
def JB:Nat:=262
def JC:Nat:=263
def JD:Nat:=264
def JE:Nat:=265
def JF:Nat:=266
def mb:Nat:=267
def mc:Nat:=268
def Ak:Nat:=269
def JG:Nat:=271
def Tp:Nat:=272
def JH:Nat:=273
def Tq:Nat:=274
def JI:Nat:=275
def JJ:Nat:=276
def pj:Nat:=277
def JK:Nat:=278
def JL:Nat:=279
def JM:Nat:=280
def JN:Nat:=289
def sM:Nat:=290
def JO:Nat:=291
def JP:Nat:=292
def JQ:Nat:=293
def JR:Nat:=294
def md:Nat:=295
def JS:Nat:=296
def JT:Nat:=297
def JU:Nat:=298
def Tr:Nat:=299
def Ts:Nat:=304
def JV:Nat:=305
def JW:Nat:=306
def JX:Nat:=308
def JY:Nat:=309
def JZ:Nat:=310
def Tt:Nat:=311
def J0:Nat:=312
def Tu:Nat:=313
def Tv:Nat:=314
def Tw:Nat:=315
def Tx:Nat:=316
def Ty:Nat:=317
def cmp_Less_int:Nat:=318
def Tz:Nat:=319
def TA:Nat:=320
def TB:Nat:=330
def TC:Nat:=331
abbrev J1:Nat:=0
abbrev Al:Nat:=1
abbrev aq:Nat:=2
abbrev ah:Nat:=3
abbrev e5:Nat:=4
abbrev cJ:Nat:=5
abbrev cQ:Nat:=9
abbrev cN:Nat:=22
abbrev nW:Nat:=23
abbrev dd:Nat:=25
abbrev an:Nat:=26
abbrev cU:Nat:=27
abbrev jt:Nat:=28
abbrev dZ:Nat:=29
abbrev eC:Nat:=30
abbrev aX:Nat:=33
abbrev dL:Nat:=36
abbrev jX:Nat:=37
abbrev df:Nat:=43
abbrev ay:Nat:=50
abbrev aZ:Nat:=54
abbrev c4:Nat:=56
abbrev c5:Nat:=61
abbrev mS:Nat:=83
abbrev qD:Nat:=84
abbrev fK:Nat:=85
abbrev cI:Nat:=88
abbrev pk:Nat:=89
abbrev fL:Nat:=93
abbrev b5:Nat:=95
abbrev pm:Nat:=100
abbrev bF:Nat:=102
abbrev fo:Nat:=104
abbrev vN:Nat:=111
abbrev vO:Nat:=113
abbrev vP:Nat:=116
abbrev cV:Nat:=123
abbrev dI:Nat:=125
abbrev mT:Nat:=133
abbrev pn:Nat:=144
abbrev eL:Nat:=150
abbrev ix:Nat:=151
abbrev nX:Nat:=152
abbrev sN:Nat:=153
abbrev fM:Nat:=155
abbrev sO:Nat:=165
abbrev e6:Nat:=168
abbrev hE:Nat:=169
abbrev cj:Nat:=171
abbrev ju:Nat:=176
abbrev iU:Nat:=177
abbrev b7:Nat:=179
abbrev dM:Nat:=185
abbrev cE:Nat:=187
abbrev eU:Nat:=188
abbrev cF:Nat:=190
abbrev fp:Nat:=192
abbrev dE:Nat:=196
abbrev bD:Nat:=198
abbrev dJ:Nat:=200
abbrev ct:Nat:=202
abbrev ec:Nat:=206
abbrev ba:Nat:=208
abbrev lf:Nat:=213
abbrev fN:Nat:=215
abbrev eV:Nat:=216
abbrev hF:Nat:=220
abbrev J2:Nat:=237
abbrev qE:Nat:=239
abbrev TD:Nat:=250
abbrev po:Nat:=258
abbrev h8:Nat:=263
abbrev jY:Nat:=269
abbrev ed:Nat:=274
abbrev cg:Nat:=278
abbrev gB:Nat:=280
abbrev cW:Nat:=285
abbrev iV:Nat:=296
abbrev fO:Nat:=298
abbrev pp:Nat:=299
abbrev gC:Nat:=302
abbrev cX:Nat:=305
abbrev gD:Nat:=307
abbrev lg:Nat:=309
abbrev sP:Nat:=329
abbrev hh:Nat:=331
abbrev gi:Nat:=334
abbrev cG:Nat:=336
abbrev Am:Nat:=345
abbrev lh:Nat:=358
abbrev jv:Nat:=360
abbrev me:Nat:=380
abbrev mU:Nat:=397
abbrev sQ:Nat:=414
def az{f:R7}{fn:Func}{c:Code}{Q:x1->x3->Prop}{Z:{B S aY:Type}->mR B S aY->(x1->x3->B)->B}{a:Prop}(ae:x7.funcs[f]?=σ fn)(h:a)(p:fn.body=σ c:=by rfl)(_:∀{B S aY:Type}(A:mR B S aY)(Q:x1->x3->B),vA A false false (n:=w.heap.size) fn c args w Q=Z A Q:=by intros;conv=>lhs;reduce)(_:Z (ph x7) Q=a:=by dsimp only[ph])(e:a=eB x7 fn.ntmps (false,w.heap.size) c (mP fn.results.toList) (k9 0 args) w (l5 x7 fn.results.toList false 0 Q):=by kernel_rfl)(hk:(!(fn.name == "runtime.NumGoroutine")&&wf fn.ntmps c&&Nat.ble args.length fn.ntmps&& !ky c)=true:=by kernel_rfl):am x7 f args w Q:=by
 simp only[V5,Bool.not_eq_true']at hk;exact am.GI mixed ae p hk.1.1.1 hk.1.1.2 hk.1.2 hk.2 (e▸h)
def hG{f:R7}{fn:Func}{c:Code}{Q:x1->x3->Prop}{Z:{B S aY:Type}->mR B S aY->(x1->x3->B)->B}{a:Prop}(ae:x7.funcs[f]?=σ fn)(h:a)(p:fn.body=σ c:=by rfl)(_:∀{B S aY:Type}(A:mR B S aY)(Q:x1->x3->B),vA A false true (n:=w.heap.size) fn c args w Q=Z A Q:=by intros;conv=>lhs;reduce)(_:Z (ph x7) Q=a:=by dsimp only[ph])(e:a=eB x7 fn.ntmps (false,w.heap.size) c (mP fn.results.toList) (k9 0 args) w (l5 x7 fn.results.toList true w.heap.size Q):=by kernel_rfl)(hk:(!(fn.name == "runtime.NumGoroutine")&&wf fn.ntmps c&&Nat.ble args.length fn.ntmps)=true:=by kernel_rfl):am x7 f args w Q:=by
 simp only[V5,Bool.not_eq_true']at hk;exact am.enter mixed ae p hk.1.1 hk.1.2 hk.2 (e▸h)
def qF{f:R7}{fn:Func}{c:Code}{Q:x1->x3->Prop}{Z:{B S aY:Type}->mR B S aY->(x1->x3->B)->B}{a:Prop}(ae:x7.funcs[f]?=σ fn)(h:a)(p:fn.body=σ c:=by rfl)(_:∀{B S aY:Type}(A:mR B S aY)(Q:x1->x3->B),vA A true false (n:=0) fn c args w Q=Z A Q:=by intros;conv=>lhs;reduce)(_:Z (ph x7) Q=a:=by dsimp only[ph])(e:a=eB x7 fn.ntmps (true,0) c (mP fn.results.toList) (k9 0 args) w (l5 x7 fn.results.toList false 0 Q):=by kernel_rfl)(hk:(!(fn.name == "runtime.NumGoroutine")&&wf fn.ntmps c&&Nat.ble args.length fn.ntmps)=true:=by kernel_rfl):gN x7 f args w Q:=by
 simp only[V5,Bool.not_eq_true']at hk;exact gN.enter mixed ae p hk.1.1 hk.1.2 hk.2 (e▸h)
def iT.enters:Enters x7 iT:=Enters.of x7 (show x7.funcs[iT]?=σ Tryz.f95 from Tryz.func95) T Ψ
def l8.enters:Enters x7 l8:=Enters.of x7 (show x7.funcs[l8]?=σ Tryz.f99 from Tryz.func99) T Ψ
def mb.enters:Enters x7 mb:=Enters.of x7 (show x7.funcs[mb]?=σ Tryz.f267 from Tryz.func267) T Ψ
def pj.enters:Enters x7 pj:=Enters.of x7 (show x7.funcs[pj]?=σ Tryz.f277 from Tryz.func277) T Ψ
def md.enters:Enters x7 md:=Enters.of x7 (show x7.funcs[md]?=σ Tryz.f295 from Tryz.func295) T Ψ
end Go.Proofs.YtikkpokkcdocoabGreatDoor
namespace Go.Vc
open Go Go.RowKit
def vQ{b o:Nat}(h:w.cell? ⟨b,o,ν⟩=σ v):∃c e f,w.heap[b]?=σ (.cells c e f)/\c[o]?=σ v:=by
 simp only[x3.cell?]at h;split at h
 .rename_i c e f a;exact⟨c,e,f,a,by simpa using h⟩
 .cases h
def An(J:ai S w w'){b o:Nat}(a:¬S b)(h:w.cell? ⟨b,o,ν⟩=σ v):w'.cell? ⟨b,o,ν⟩=σ v:=by
 have⟨c,e,f,p,ad⟩:=vQ h;simp[x3.cell?,J.a6 b _ p T a,ad]
def iW(J:Ext w w'){b o:Nat}(h:w.cell? ⟨b,o,ν⟩=σ v):w'.cell? ⟨b,o,ν⟩=σ v:=
 An (J.ab λ_=>False) (λh=>h) h
def nY(J:Ext w w'){b o:Nat}(h:w.rangeAt b o cs):w'.rangeAt b o cs:=λj v ad=>iW J (h j v ad)
def jw(J:ai S w w'){b o:Nat}(a:¬S b)(h:w.rangeAt b o cs):w'.rangeAt b o cs:=λj v ad=>An J a (h j v ad)
def ag(w:x3)(g:Nat)(e:p9)(cs:List x1):Prop:=w.heap[g]?=σ (.cells cs.toArray e (0,0))
def ag.ext{g:Nat}(h:ag w g e cs)(J:Ext w w'):ag w' g e cs:=J.a6 g _ h T
def ag.ab{g:Nat}(h:ag w g e cs)(J:ai S w w')(a:¬S g):ag w' g e cs:=J.a6 g _ h T a
def ag.lt{g:Nat}(h:ag w g e cs):g<w.heap.size:=(j4.1 h).1
def ag.cell{g:Nat}(h:ag w g e cs){o:Nat}(ad:cs[o]?=σ v):w.cell? ⟨g,o,ν⟩=σ v:=by
 unfold ag at h;simp[x3.cell?,h,ad]
def ag.Qz{w:World}{g:Nat}{e:TypeId}{cs:List Value}{v:Value}(h:ag w g e cs)(I:cs[0]?=σ v):w.cell? ⟨g,0,ν⟩=σ v:=h.cell I
def ag.range{g:Nat}(h:ag w g e cs):w.rangeAt g 0 cs:=λj v ad=>by rw[X2];exact h.cell ad
def ag.frozen{g:Nat}(h:ag w g e cs)(o:Nat)(a:Option Nat):w.frozen? ⟨g,o,a⟩=false:=by
 unfold ag at h;simp[x3.frozen?,h]
def ck(w:x3)(k:Nat)(v:x1)(n:Nat)(cs:List x1):Prop:=
 cs.length=n*k/\∃b o base cap,v= .slice base n cap/\n<=cap/\cap<=maxLen/\(0<n->base=σ ⟨b,o,ν⟩)/\w.rangeAt b o cs
def ck.ext{k:Nat}(h:ck w k v n cs)(J:Ext w w'):ck w' k v n cs:=by
 have⟨h1,b,o,base,cap,a,e,f,p,q⟩:=h;exact⟨h1,b,o,base,cap,a,e,f,p,nY J q⟩
def ck.le{k:Nat}(h:ck w k v n cs):n<=maxLen:=by
 have⟨_,_,_,_,_,_,a,e,_⟩:=h;exact Y9 a e
def ck.nil(w:x3)(k:Nat):ck w k (.slice ν 0 0) 0 []:=⟨Ξ,0,0,ν,0,T,o4 _,X5 _,λh=>absurd h (Nat.lt_irrefl _),λj v h=>by simp at h⟩
def aS(P:W8)(t:p9)(k b:Nat)(z:x1):Prop:=∃i,P.info? t=σ i/\i.size=k/\i.bytes=b/\i.zero=σ z
def aS.of{P:W8}{k b:Nat}(h:(P.info? t).map (λi=>(i.size,i.bytes,i.zero))=σ (k,b,σ z)):aS P t k b z:=by
 cases hi:P.info? t with
 |none=>simp[hi]at h
 |some i=>simp[hi]at h;exact⟨i,hi,h⟩
def aS.size{P:W8}{k b:Nat}(h:aS P t k b z):(P.info? t).map (·.size)=σ k:=by
 have⟨i,hi,U,_⟩:=h;simp[hi,U]
def bM(P:W8)(t:p9)(pl:List (Nat×Nat)):Prop:=∃a,P.underlying t=σ (.struct a)/\a.toList.map (λf=>(f.offset,((P.info? f.type).map (·.size)).getD 0))=pl
def Ao(P:W8)(t:p9):Option (List (Nat×Nat)):=match P.underlying t with
 |some (.struct a)=>σ (a.toList.map λf=>(f.offset,((P.info? f.type).map (·.size)).getD 0))
 |_=>ν
def bM.of{P:W8}{pl:List (Nat×Nat)}(h:Ao P t=σ pl):bM P t pl:=by
 unfold Ao at h;split at h
 .rename_i a hu;exact⟨a,hu,by simpa using h⟩
 .cases h
section
variable{P:W8}{w:x3}
def ac.of{s:Sem x1}(h:∀w',Ext w w'->s.run P w'= .ok v w'):ac P s w K=K v:=by
 refine propext ⟨λ⟨a,h',k⟩=>?_,λk=>⟨v,h,k⟩⟩;have:=h' w (Ext.refl w);rw[h w (Ext.refl w)]at this;cases this;exact k
def aE.of{α:Type}{s:Sem α}{v:α}{K:α->x3->Prop}(h:s.run P w= .ok v w')(a:cM w w')(k:K v w'):aE P s w K:=⟨v,w',h,a,k⟩
def ca{c:Bool}{A B:Prop}:Split (.bool c) A B=((c=true->A)/\(c=false->B)):=by
 refine propext ⟨λ⟨e,h,h1,a⟩=>?_,λ⟨h1,a⟩=>⟨c,T,h1,a⟩⟩;cases h;exact⟨h1,a⟩
def al{p:Prop}[Decidable p]{A B:Prop}:Split (.bool (decide p)) A B=((p->A)/\(¬p->B)):=by rw[ca];simp
def bV{A B:Prop}:Split (.bool true) A B=A:=by rw[ca];simp
def a8{A B:Prop}:Split (.bool false) A B=B:=by rw[ca];simp
def aN{b:Int}:ac P (aO .add t cx cy (.int k a) (.int k b)) w K=K (.int k (k.wrap (a+b))):=
 ac.of λw' _=>by simp[aO,eqGuard,binOp,Op.intArith]
def dN{b:Int}:ac P (aO .sub t cx cy (.int k a) (.int k b)) w K=K (.int k (k.wrap (a-b))):=
 ac.of λw' _=>by simp[aO,eqGuard,binOp,Op.intArith]
def h9{b:Int}:ac P (aO .mul t cx cy (.int k a) (.int k b)) w K=K (.int k (k.wrap (a*b))):=
 ac.of λw' _=>by simp[aO,eqGuard,binOp,Op.intArith]
def sR{b:Int}(e:b≠0):ac P (aO .quo t cx cy (.int k a) (.int k b)) w K=K (.int k (k.wrap (a.tdiv b))):=
 ac.of λw' _=>by simp[aO,eqGuard,binOp,Op.intDiv,e]
def sS{b:Int}(e:b≠0):ac P (aO .rem t cx cy (.int k a) (.int k b)) w K=K (.int k (a.tmod b)):=
 ac.of λw' _=>by simp[aO,eqGuard,binOp,Op.intDiv,e]
def aP{b:Int}:ac P (aO .lss t cx cy (.int k a) (.int k b)) w K=K (.bool (decide (a<b))):=
 ac.of λw' _=>by simp[aO,eqGuard,binOp,Op.intCmp]
def Υ{k:IntKind}{P:Program}{t:TypeId}{cx cy:Bool}{a b:Int}{w:World}{A B:Prop}(hA:a<b->A)(h:a<b:=by omega):ac P (aO .lss t cx cy (.int k a) (.int k b)) w λv=>Split v A B:=by
 rw[aP,al];exact⟨hA,λe=>absurd h e⟩
def mV{b:Int}:ac P (aO .leq t cx cy (.int k a) (.int k b)) w K=K (.bool (decide (a<=b))):=
 ac.of λw' _=>by simp[aO,eqGuard,binOp,Op.intCmp]
def bJ{b:Int}:ac P (aO .gtr t cx cy (.int k a) (.int k b)) w K=K (.bool (decide (b<a))):=
 ac.of λw' _=>by simp[aO,eqGuard,binOp,Op.intCmp]
def cO{b:Int}:ac P (aO .geq t cx cy (.int k a) (.int k b)) w K=K (.bool (decide (b<=a))):=
 ac.of λw' _=>by simp[aO,eqGuard,binOp,Op.intCmp]
def be{b:Int}:ac P (aO .eql t cx cy (.int k a) (.int k b)) w K=K (.bool (decide (a=b))):=
 ac.of λw' _=>by
  have:(a == b)=decide (a=b):=by by_cases h:a=b<;>simp[h]
  simp[aO,eqGuard,binOp,Op.intCmp,this]
def bB{b:Int}:ac P (aO .neq t cx cy (.int k a) (.int k b)) w K=K (.bool (decide (a≠b))):=
 ac.of λw' _=>by
  have:(a != b)=decide (a≠b):=by by_cases h:a=b<;>simp[h,bne]
  simp[aO,eqGuard,binOp,Op.intCmp,this]
def Ap{e:o7}{b:Int}(f:0<=b):ac P (aO .shl t cx cy (.int k a) (.int e b)) w K=K (.int k (k.wrap (a*2 ^ min b.toNat k.bits))):=
 ac.of λw' _=>by simp[aO,eqGuard,binOp,Op.shift,show¬b<0 by omega]
def bK{c:Bool}:ac P (Op.unary .not (.bool c)) w K=K (.bool !c):=ac.of λw' _=>by simp[Op.unary]
def mf:ac P (Op.unary .neg (.int k a)) w K=K (.int k (k.wrap (0-a))):=ac.of λw' _=>by simp[Op.unary,Op.intArith]
def fq{s d:p9}{e:o7}(U:P.underlying s=σ (.int e))(f:P.underlying d=σ (.int k)):
  ac P (convert s d (.int e a)) w K=K (.int k (k.wrap a)):=ac.of λw' _=>by simp[convert,run_underlying U,run_underlying f,Conv.intToInt]
def Aq{x y:x1}{r:Bool}(a:∀w',(eqGuard .eql t (a7 cx) (a7 cy) x y).run P w'= .ok () w')(e:binOp .eql t x y=(do pure (.bool (<-Op.equal t x y))))(h:∀w',Ext w w'->(Op.equal t x y).run P w'= .ok r w'):ac P (aO .eql t cx cy x y) w K=K (.bool r):=ac.of λw' J=>by
 unfold aO;rw[e,W5,a w',Result.andThen_ok,W5,h w' J];rfl
def Ar{x y:x1}{r:Bool}(a:∀w',(eqGuard .neq t (a7 cx) (a7 cy) x y).run P w'= .ok () w')(e:binOp .neq t x y=(do pure (.bool (!(<-Op.equal t x y)))))(h:∀w',Ext w w'->(Op.equal t x y).run P w'= .ok r w'):ac P (aO .neq t cx cy x y) w K=K (.bool !r):=ac.of λw' J=>by
 unfold aO;rw[e,W5,a w',Result.andThen_ok,W5,h w' J];rfl
def As(w:x3)(d:Nat){p:Option Addr}(h:P.underlying t=σ (.pointer e)):(Op.equalIn (d+1) t (.pointer p) (.pointer ν)).run P w= .ok p.isNone w:=by
 cases p<;>simp[Op.equalIn,run_underlying h]
def mW{base:Option Addr}(a:P.underlying t=σ (.slice e)):
  ac P (aO .eql t cx cy (.slice base n c) (.slice ν 0 0)) w K=K (.bool base.isNone):=Aq (λ_=>rfl) T λw' _=>run_equal_slice_nil w' t e base n c a
def di{p:Option Addr}(a:P.underlying t=σ (.pointer e)):
  ac P (aO .eql t cx cy (.pointer p) (.pointer ν)) w K=K (.bool p.isNone):=Aq (λ_=>rfl) T λw' _=>As w' 9999 a
def Au{p:Option Addr}(a:P.underlying t=σ (.pointer e)):
  ac P (aO .neq t cx cy (.pointer p) (.pointer ν)) w K=K (.bool !p.isNone):=Ar (λ_=>rfl) T λw' _=>As w' 9999 a
def hI{a:p9}{base:Option Addr}(f:P.underlying t=σ (.slice e)):
  ac P (V0 #[t] a #[.slice base n c]) w K=K (Δ n):=ac.of λw' _=>by simp[V0,run_underlying f,goInt]
def mg{e:Array p9}{f:p9}{b:Int}:
  ac P (Z3.min_ e f #[.int k a,.int k b]) w K=K (.int k (min a b)):=ac.of λw' _=>by
 simp only[Z3.min_,List.foldlM,Z3.min2];simp only[W5,V3,Result.andThen_ok,Int.min_def];congr 2;split<;>split<;>omega
def vR{e:Array p9}{f:p9}{b:Int}:
  ac P (Z3.max_ e f #[.int k a,.int k b]) w K=K (.int k (max a b)):=ac.of λw' _=>by
 simp only[Z3.max_,List.foldlM,Z3.max2];simp only[W5,V3,Result.andThen_ok,Int.max_def];congr 2;split<;>split<;>omega
def iX{vs:Array x1}{i:Nat}(h:vs[i]?=σ v):ac P (Y0 (.tuple vs) i) w K=K v:=ac.of λw' _=>by simp[Y0,h]
def iy{f:Fn}{a b:Array x1}:ac P (Instr.makeFunc f a b) w K=K (.func f a b):=ac.of λ_ _=>rfl
def jZ(P:W8)(t:p9):Bool:=match P.underlying t with
 |some (.struct _)|some (.array _ _)|none=>false
 |_=>true
def ax{b o:Nat}(a:jZ P t=true)(h:w.cell? ⟨b,o,ν⟩=σ v):
  ac P (u5 t (.pointer (σ ⟨b,o,ν⟩))) w K=K v:=ac.of λw' J=>by
 have h':=iW J h;unfold jZ at a;cases hu:P.underlying t with
 |none=>rw[hu]at a;cases a
 |some d=>
  rw[hu]at a;cases d<;>first|(cases a;done)|simp[u5,Instr.sureAddr,loadVar,isAgg,run_underlying hu,h']
def Av{d:TypeDesc}{b o k a:Nat}(hu:P.underlying t=σ d)(e:d.isRow=true)(hi:aS P t k a z)(f:cs.length=k)(h:w.rangeAt b o cs):ac P (u5 t (.pointer (σ ⟨b,o,ν⟩))) w K=K (.agg cs.toArray):=ac.of λw' J=>
 run_loadAt_mid (P:=P) w' b o t cs d (nY J h) hu e (by rw[hi.size,f])
def bR{pl:List (Nat×Nat)}{b o k a:Nat}(hu:bM P t pl)(hi:aS P t k a z)(e:cs.length=k)(h:w.rangeAt b o cs):ac P (u5 t (.pointer (σ ⟨b,o,ν⟩))) w K=K (.agg cs.toArray):=by
 have⟨f,hu,_⟩:=hu;exact Av hu T hi e h
def aU{pl:List (Nat×Nat)}{i b o z:Nat}(p:bM P t pl)(ae:pl[i]?=σ (off,z+1)):
  ac P (u6 t (.pointer (σ ⟨b,o,ν⟩)) i) w K=K (.pointer (σ ⟨b,o+off,ν⟩)):=ac.of λw' _=>by
 obtain⟨q,hu,rfl⟩:=p;rw[x8]at ae;cases a:q[i]? with
 |none=>rw[S9,a]at ae;cases ae
 |some f=>
  rw[S9,a]at ae;simp only[Z6,Y3,T1]at ae;obtain⟨rfl,h⟩:=ae;cases e:P.info? f.type with
  |none=>simp[e]at h
  |some j=>
   have U:j.size=z+1:=by simpa[e]using h
   simp[u6,run_underlying hu,a,Instr.sureAddr,fieldPlace,sizeOf,typeInfo,e,U,U9]
def Aw{i:Int}{b o z f:Nat}{h:x1}{base:Option Addr}(hu:P.underlying t=σ (.slice e))(p:aS P e z f h)(q:0<=i)(hi:i<n)(a:0<n->base=σ ⟨b,o,ν⟩):
  ac P (j9 t (.slice base n c) (.int k i)) w K=K (.pointer (σ ⟨b,o+i.toNat*z,ν⟩)):=ac.of λw' _=>by
 have a:=a Ω;subst a;have⟨j,r,U,_⟩:=p;simp[j9,asIntOf,run_underlying hu,q,hi,sizeOf,typeInfo,r,U,U9]
def fg{i:Nat}{b o z a:Nat}{base:Option Addr}(hu:P.underlying t=σ (.slice e))(h:aS P e z a f)(hi:i<n)(p:0<n->base=σ ⟨b,o,ν⟩):
  ac P (j9 t (.slice base n c) (.int k (i:Int))) w K=K (.pointer (σ ⟨b,o+i*z,ν⟩)):=by
 rw[Aw (i:=(i:Int)) hu h Ω Ω p];rfl
def J3{i:Int}{b o z a:Nat}(hu:P.underlying t=σ (.array n e))(h:aS P e z a f)(p:0<=i)(hi:i<n):
  ac P (j9 t (.pointer (σ ⟨b,o,ν⟩)) (.int k i)) w K=K (.pointer (σ ⟨b,o+i.toNat*z,ν⟩)):=ac.of λw' _=>by
 have⟨j,q,U,_⟩:=h;simp[j9,asIntOf,run_underlying hu,Instr.sureAddr,p,hi,sizeOf,typeInfo,q,U,U9]
def sT{i:Nat}{b o z a:Nat}(hu:P.underlying t=σ (.array n e))(h:aS P e z a f)(hi:i<n):
  ac P (j9 t (.pointer (σ ⟨b,o,ν⟩)) (.int k (i:Int))) w K=K (.pointer (σ ⟨b,o+i*z,ν⟩)):=by
 rw[J3 (i:=(i:Int)) hu h Ω Ω];rfl
def mh:Option x1->Nat->Prop
 |none,l=>l=0
 |some v,l=>∃k,v= .int k l
def mi:Option x1->Nat->Nat->Prop
 |none,n,h=>h=n
 |some v,_,h=>∃k,v= .int k h
def maxOf:Option x1->Option x1->Nat->Nat->Prop
 |none,_,c,m=>m=c
 |some v,σ _,_,m=>∃k,v= .int k m
 |some _,ν,_,_=>False
def pq{l:Nat}:mh (σ (.int k (l:Int))) l:=⟨_,T⟩
def nZ(l:Nat)(x:Int)(h:x=(l:Int)):mh (σ (.int k x)) l:=⟨k,by rw[h]⟩
def n0(l:Nat)(x:Int)(h:x=(l:Int)):mi (σ (.int k x)) n l:=⟨k,by rw[h]⟩
def jx:mh ν 0:=rfl
def pr:mi (σ (.int k (h:Int))) n h:=⟨_,T⟩
def jy:mi ν n n:=rfl
def fh{h:Option x1}:maxOf ν h c c:=by cases h<;>rfl
def sU(w:x3){sl:Bool}{l m:Nat}{low high mx:Option x1}(h1:mh low l)(e:mi high n h)(a:maxOf mx high c m)(f:l<=h)(aB:h<=m)(hm:m<=c):
  (Instr.sliceBounds sl n c low high mx).run P w= .ok (l,h,m) w:=by
 cases low<;>cases high<;>cases mx<;>simp only[mh,mi,maxOf]at h1 e a<;>(try exact a.elim)<;>(try obtain⟨p,rfl⟩:=h1)<;>(try obtain⟨q,rfl⟩:=e)<;>(try obtain⟨r,rfl⟩:=a)<;>(try subst h1)<;>(try subst e)<;>(try subst a) <;>
  simp[Instr.sliceBounds,Instr.sliceBound,asIntOf,f,aB,hm]
def hj{z a l m:Nat}{base:Option Addr}{low high mx:Option x1}(hu:P.underlying t=σ (.slice e))(p:aS P e z a f)(h1:mh low l)(q:mi high n h)(r:maxOf mx high c m)(s:l<=h)(aB:h<=m)(hm:m<=c):
  ac P (V9 t (.slice base n c) low high mx) w K=K (.slice (if m=l then base else base.map (·.add (l*z))) (h-l) (m-l)):=ac.of λw' _=>by
 have⟨j,x,U,_⟩:=p;simp[V9,Instr.slice,run_underlying hu,sU w' h1 q r s aB hm,sizeOf,typeInfo,x,U]
def sV{z a l m b o:Nat}{low high mx:Option x1}(hu:P.underlying t=σ (.array n e))(p:aS P e z a f)(h1:mh low l)(q:mi high n h)(r:maxOf mx high n m)(s:l<=h)(aB:h<=m)(hm:m<=n):
  ac P (V9 t (.pointer (σ ⟨b,o,ν⟩)) low high mx) w K=K (.slice (σ (if m=l then⟨b,o,ν⟩else⟨b,o+l*z,ν⟩)) (h-l) (m-l)):=ac.of λw' _=>by
 have⟨j,x,U,_⟩:=p;simp[V9,Instr.sureAddr,run_underlying hu,sU w' h1 q r s aB hm,sizeOf,typeInfo,x,U,U9]
def cY{parts:Array (Nat×x1)}{cs:Array x1}(h:P.built t parts.toList=σ cs):ac P (Instr.build t parts) w K=K (.agg cs):=ac.of λw' _=>
 run_build (P:=P) w' t parts cs h
end
def ck.part{k l m:Nat}{base:Option Addr}(U:ck w k (.slice base n c) n cs)(p:l<=h)(aB:h<=n)(hm:h<=m)(q:m<=c):
  ck w k (.slice (if m=l then base else base.map (·.add (l*k))) (h-l) (m-l)) (h-l) ((cs.drop (l*k)).take ((h-l)*k)):=by
 have⟨h1,b,o,r,cap,he,s,x,a,e⟩:=U;cases he;have y:h*k<=n*k:=X9 _ aB;have z:l*k+(h-l)*k=h*k:=by rw[<-U3];congr 1;omega
 refine⟨by simp[h1];omega,b,o+l*k,_,m-l,T,Ω,Ω,λA=>?_,λj v ad=>?_⟩
 .rw[a Ω,if_neg Ω];simp[U9]
 .have f:=(x4.1 ad).1;simp at f;rw[Z7 Ω,List.getElem?_drop]at ad;rw[R4];exact e _ _ ad
section
variable{P:W8}{w:x3}
structure jz(g:Nat)(w w':x3):Prop where
 os:w'.os=w.os
 tape:jS w w'
 output:w'.output=w.output
 size:w'.heap.size=w.heap.size
 a6:∀r,r≠g->w'.heap[r]?=w.heap[r]?
def jz.refl(g:Nat)(w:x3):jz g w w:=⟨T,.kv,T,T,λ_ _=>rfl⟩
def jz.trans{g:Nat}{a b c:x3}(h:jz g a b)(k:jz g b c):jz g a c:=
 ⟨k.os.trans h.os,k.tape.trans h.tape,k.output.trans h.output,k.size.trans h.size,λr e=>(k.a6 r e).trans (h.a6 r e)⟩
def jz.ab{g:Nat}{w:x3}(h:jz g w w'):ai (λr=>r=g) w w':=⟨Nat.le_of_eq h.size.symm,λr o a _ e=>by rw[h.a6 r e];exact a⟩
def jz.cw{g:Nat}{w:x3}(h:jz g w w')(f:ag w g e cs):cM w w':=
 ⟨h.os,h.tape,h.output,Nat.le_of_eq h.size.symm,λr o a U=>by
  by_cases p:r=g
  .subst p;unfold ag at f;rw[f]at a;cases a;simp[fH]at U
  .rw[h.a6 r p];exact a⟩
def Ax{g:Nat}(h:ag w g e cs)(o:Nat)(v:x1):ag (w.setCell ⟨g,o,ν⟩ v) g e (cs.set o v)/\jz g w (w.setCell ⟨g,o,ν⟩ v):=by
 unfold ag at h;refine⟨?_,T,.kv,T,by simp[x3.setCell],λr a=>?_⟩
 .simp[ag,x3.setCell,Array.getElem?_modify,h]
 .simp[x3.setCell,Array.getElem?_modify,Ne.symm a]
def over(cs:List x1):Nat->List x1->List x1
 |_,[]=>cs
 |o,v::r=>over (cs.set o v) (o+1) r
theorem lj:∀(vs cs:List x1)(o:Nat),(over cs o vs).length=cs.length
 |[],_,_=>rfl
 |v::r,cs,o=>by simp[over,lj r]
theorem mX:∀(vs cs:List x1)(o:Nat),o+vs.length<=cs.length->∀j,(over cs o vs)[j]?=if o<=j/\j<o+vs.length then vs[j-o]? else cs[j]?
 |[],cs,o,_,j=>by simp[over];intro h1 a;omega
 |v::r,cs,o,h,j=>by
  simp only[b6]at h;rw[over,mX r (cs.set o v) (o+1) Θ j];simp only[b6];by_cases h1:o+1<=j/\j<o+1+r.length
  .rw[if_pos h1,if_pos Ω];rw[show j-o=(j-(o+1))+1 by omega,List.getElem?_cons_succ]
  .rw[if_neg h1];by_cases a:j=o
   .subst a;rw[if_pos Ω,c8 Ω];simp
   .rw[if_neg Ω,Y2 (Ne.symm a)]
def mY{o:Nat}(h:o+vs.length<=cs.length):over cs o vs=cs.take o++vs++cs.drop (o+vs.length):=by
 apply Y4;intro j;rw[mX vs cs o h];by_cases h1:j<o
 .rw[if_neg Ω,Y6 Θ,Y6 Θ,Z7 h1]
 .by_cases a:j<o+vs.length
  .rw[if_pos Ω,Y6 Θ,Y8 Θ];congr 1;simp;omega
  .rw[if_neg Ω,Y8 Θ,List.getElem?_drop];congr 1;simp;omega
theorem n1{g:Nat}{e:p9}:∀(vs:List x1)(cs:List x1)(o:Nat)(w:x3),ag w g e cs->ag (w.setCells g o vs) g e (over cs o vs)/\jz g w (w.setCells g o vs)
 |[],cs,o,w,h=>⟨h,jz.refl _ _⟩
 |v::r,cs,o,w,h=>by
  have⟨h1,a⟩:=Ax h o v;have⟨f,p⟩:=n1 r (cs.set o v) (o+1) _ h1;exact⟨f,a.trans p⟩
def sW(w:x3)(c:List x1)(e:p9):ag (w.alloc (.cells c.toArray e)) w.heap.size e c/\Ext w (w.alloc (.cells c.toArray e))/\cM w (w.alloc (.cells c.toArray e)):=
 ⟨heap_alloc_new w _,ql w _,qm w _⟩
def bu{k a:Nat}{K:x1->x3->Prop}(hi:aS P t k a z)(h:∀g w',g=w.heap.size->Ext w w'->ag w' g t z.cells.toList->K (Γ g) w'):aE P (Q1 t true (.tuple #[])) w K:=by
 have⟨i,hi,_,_,e⟩:=hi;have⟨h1,f,p⟩:=sW w z.cells.toList t;refine .of ?_ p (h _ _ T f h1);simp[Q1,zeroValue,typeInfo,hi,e,newVar,newRow]
def bd{K:x1->x3->Prop}(h:∀g w',g=w.heap.size->Ext w w'->ag w' g t v.cells.toList->K (Γ g) w'):aE P (Instr.box t v) w K:=by
 have⟨h1,a,e⟩:=sW w v.cells.toList t;refine .of ?_ e (h _ _ T a h1);simp[Instr.box,newVar,newRow]
def dT(z:Array x1)(n:Nat):List x1:=((Array.range n).map (z[·% z.size]!)).toList
def n2(z:Array x1)(n:Nat):(dT z n).length=n:=by simp[dT]
def kD{k p:Nat}{parts:Array (Nat×x1)}{cs:Array x1}{K:x1->x3->Prop}(f:P.underlying t=σ (.slice e))(hi:aS P e k p z)(y:n*k<=2 ^ 24)(ae:Instr.fill (λj=>σ (j*k,k)) ((Array.range (n*k)).map ((if n*k=0 then#[]else z.cells)[·% (if n*k=0 then#[]else z.cells).size]!)) parts.toList=σ cs)(h:∀g w',g=w.heap.size->Ext w w'->ag w' g e cs.toList->K (.slice (σ ⟨g,0,ν⟩) n n) w'):aE P (Y5 t n parts) w K:=by
 obtain⟨i,hi,rfl,_,q⟩:=hi;have⟨h1,r,s⟩:=sW w cs.toList e;refine .of ?_ s (h _ _ T r h1);have x:¬(16777216<n*i.size):=Ω
 by_cases a:n*i.size=0
 .simp only[a,if_true]at ae;simp[Y5,run_underlying f,sizeOf,typeInfo,hi,a,newRow];simp at ae;simp[ae]
 .simp only[a,if_false]at ae;simp[Y5,run_underlying f,sizeOf,typeInfo,hi,x,a,newRow,zeroValue,q,ae]
def bq{p g o:Nat}{K:Unit->x3->Prop}(hi:aS P t 1 p z)(h1:v.cells= #[v])(ad:v.oneCell'=true)(a:ag w g e cs)(q:o<cs.length)(h:∀w',ai (λr=>r=g) w w'->w'.heap.size=w.heap.size->ag w' g e (cs.set o v)->K () w'):aE P (o8 t (.pointer (σ ⟨g,o,ν⟩)) v) w K:=by
 have⟨i,hi,U,_⟩:=hi;have⟨s,f⟩:=Ax a o v;refine .of (w':=w.setCell ⟨g,o,ν⟩ v) ?_ (f.cw a) (h _ f.ab f.size s);have x:=a.cell (x6 q);have y:(⟨g,o,ν⟩:Addr).add 0=⟨g,o,ν⟩:=rfl;simp[o8,Instr.sureAddr,storeVar,sizeOf,typeInfo,hi,U,h1,storeCells,y,run_store P w _ v _ ad,x,a.frozen]
def vS{k p g o:Nat}{K:Unit->x3->Prop}(hi:aS P t k p z)(q:vs.length=k)(ad:∀v∈vs,v.oneCell'=true)(a:ag w g e cs)(y:o+vs.length<=cs.length)(h:∀w',ai (λr=>r=g) w w'->w'.heap.size=w.heap.size->ag w' g e (over cs o vs)->K () w'):aE P (o8 t (.pointer (σ ⟨g,o,ν⟩)) (.agg vs.toArray)) w K:=by
 have⟨s,f⟩:=n1 vs cs o w a;refine .of (w':=w.setCells g o vs) ?_ (f.cw a) (h _ f.ab f.size s);exact run_storeAt_mid (P:=P) w g o t vs.toArray (λj x=>⟨by rw[a.cell (x6 (show o+j<cs.length by simp at x;omega))];rfl,a.frozen _ _⟩) (by rw[hi.size];simp[q]) (by simpa using ad)
def b1(w:x3)(g:Nat)(e:p9)(k:Nat)(v:x1)(n:Nat)(xs:List x1):Prop:=
 xs.length=n*k/\((v= .slice ν 0 0/\n=0)\/∃cap cs,v= .slice (σ ⟨g,0,ν⟩) n cap/\ag w g e cs/\n<=cap/\cap<=maxLen/\cs.length=cap*k/\cs.take (n*k)=xs)
def b1.nil(w:x3)(g:Nat)(e:p9)(k:Nat):b1 w g e k (.slice ν 0 0) 0 []:=⟨Ξ,.inl ⟨T,T⟩⟩
def b1.full{g:Nat}{k:Nat}(h:ag w g e cs)(a:cs.length=n*k)(f:n<=maxLen):b1 w g e k (.slice (σ ⟨g,0,ν⟩) n n) n cs:=
 ⟨a,.inr ⟨n,cs,T,h,o4 _,f,a,by rw[<-a,o6]⟩⟩
def b1.ab{g:Nat}{k:Nat}(h:b1 w g e k v n xs)(J:ai S w w')(f:g<w.heap.size->¬S g):b1 w' g e k v n xs:=
 ⟨h.1,h.2.imp id λ⟨cap,cs,h1,a,p⟩=>⟨cap,cs,h1,a.ab J (f a.lt),p⟩⟩
def b1.ext{g:Nat}{k:Nat}(h:b1 w g e k v n xs)(J:Ext w w'):b1 w' g e k v n xs:=h.ab (J.ab λ_=>False) (λ_ h=>h)
def b1.sl{g:Nat}{k:Nat}(h:b1 w g e k v n xs):ck w k v n xs:=by
 obtain⟨h1,⟨rfl,rfl⟩|⟨cap,cs,rfl,a,f,p,r,q⟩⟩:=h
 .have:xs=[]:=j6 (by simpa using h1);subst this;exact ck.nil w k
 .refine⟨h1,g,0,_,cap,T,f,p,λ_=>rfl,λj v ad=>?_⟩;rw[X2];have s:=(x4.1 ad).1;rw[<-q,Z7 Ω]at ad;exact a.cell ad
def ck.src{k:Nat}{x:x1}{m:Nat}{a:List x1}{f h:p9}(U:ck w k x m a)(hk:P.underlying f=σ (.slice h))(h1:∀u∈a,u.oneCell'=true)(p:0<m):Src P k f x m a w:=by
 obtain⟨q,b,o,base,cap,rfl,_,_,e,r⟩:=U;have e:=e p;subst e;exact Src.ofSlice w hk ⟨b,o,ν⟩ m cap a q (λj u hu=>by rw[U9];exact r j u hu) h1
def ck.J4{k:Nat}{x:x1}{f:List x1}{h:p9}(U:ck w k x 0 f)(hk:P.underlying e=σ (.slice h)):Src P k e x 0 [] w:=by
 obtain⟨p,b,o,base,cap,rfl,_,_,q,r⟩:=U;cases base with
 |none=>exact Src.ofNil w hk cap
 |some a=>exact Src.ofSlice w hk a 0 cap [] Ξ Ξ Ξ
def Ay{p s L W:p9}{k M g m:Nat}{x:x1}{a:List x1}{K:x1->x3->Prop}(B:P.underlying t=σ (.slice e))(C:P.underlying p=σ (.slice W))(hi:aS P e k M z)(X:z.cells.size=k)(N:b1 w g L k v n xs)(U:ck w k x m a)(h1:∀u∈a,u.oneCell'=true)(Y:(n+m)*M<=140737488355328)(O:n+m<=maxLen)(h:∀E F w' G,(F=g/\G=L/\(v=E\/g<w.heap.size/\v≠ .slice ν 0 0)\/F=w.heap.size/\G=e)->b1 w' F G k E (n+m) (xs++a)->ai (λr=>r=g/\v≠ .slice ν 0 0) w w'->K E w'):
  aE P (Z0 #[t,p] s #[v,x]) w K:=by
 obtain⟨i,hi,rfl,rfl,Z⟩:=hi;have aa:=N.sl;have⟨f,H⟩:=N;have q:=U.1;have grow:∀(base:Option Addr)(cap:Nat),v= .slice base n cap->cap<n+m->0<m->(Z3.firstCells i.size n (.slice base n cap)).run P w.drew= .ok xs.toArray w.drew->aE P (Z0 #[t,p] s #[v,x]) w K:=by
  rintro base cap rfl Q hm ac;have y:=run_append_grow_src (P:=P) w t p s e i z B hi Z base n cap xs ac x m a (U.src C h1 hm) Q (by simp only[maxLen]at O;omega) (growslice_fits Q Y);have ad:n+m<=grownCap w (n+m) cap e:=grownCap_ge w _ _ _;have I:grownCap w (n+m) cap e<=maxLen:=grownCap_le_maxLen w (n+m) cap e O;have ae:Ext w (w.drew.alloc (.cells ((xs++a).toArray++Z3.zeroCells z.cells (grownCap w (n+m) cap e-(n+m))) e)):=(r6 w _).trans (ql _ _);refine .of y ((qk w _ (Nat.le_succ _)).trans (qm _ _)) (h _ w.z _ _ (.inr ⟨rfl,rfl⟩) ⟨by simp[f,q,U3],.inr ⟨_,((xs++a).toArray++Z3.zeroCells z.cells (grownCap w (n+m) cap e-(n+m))).toList,rfl,?_,ad,I,?_,?_⟩⟩ (ae.ab _))
  .show _=_;rw[Array.toArray_toList];exact heap_alloc_new w.drew _
  .simp[f,q,size_zeroCells,X,<-U3];congr 1;omega
  .rw[Array.toList_append,List.toList_toArray,U3,<-f,<-q,<-r9];exact List.take_left
 rcases Q3 m with rfl|hm
 .have af:a=[]:=j6 (by simpa using q);subst af;have ag:=U.J4 C;have R:∀base cap,v= .slice base n cap->n<=cap->aE P (Z0 #[t,p] s #[v,x]) w K:=by
   rintro base cap rfl I;refine .of (run_append_nothing (P:=P) w t p s e i B hi base n cap I x ag) (cM.refl _) (h _ g _ _ (.inl ⟨rfl,rfl,.inl rfl⟩) ?_ (ai.refl _ _));rw[Nat.add_zero,W6];exact⟨f,H⟩
  obtain⟨rfl,rfl⟩|⟨cap,cs,rfl,_,S,_⟩:=H
  .exact R _ _ rfl (o4 _)
  .exact R _ _ rfl S
 .obtain⟨rfl,rfl⟩|⟨cap,cs,rfl,A,S,ah,T,aj⟩:=H
  .have ak:xs=[]:=j6 (by simpa using f);subst ak;exact grow ν 0 rfl Ω hm (run_firstCells_none w.drew i.size 0 0 0)
  .by_cases J:n+m<=cap
   .have al:n*i.size+a.length<=cs.length:=by rw[q,T,<-U3];exact X9 _ J
    have y:=run_append_room_src (P:=P) w t p s e i B hi g 0 n cap x m a (U.src C h1 hm) J
     (λj aq=>by rw[A.cell (x6 (show 0+n*i.size+j<cs.length by omega))];rfl) (λj _=>A.frozen _ _)
    have⟨am,V⟩:=n1 a cs (n*i.size) w A;rw[X2]at y;refine .of y (V.cw A) (h _ g _ _ (.inl ⟨rfl,rfl,.inr ⟨A.lt,Ξ⟩⟩) ⟨by simp[f,q,U3],.inr ⟨cap,_,rfl,am,J,ah,by rw[lj,T],?_⟩⟩ (V.ab.mono λr _ h=>⟨h,Ξ⟩));rw[mY al,aj,U3,<-f,<-q,<-r9];exact List.take_left
   .refine grow _ cap rfl Ω hm (run_firstCells_some w.drew i.size n _ n cap xs f λj u hu=>?_);rw[U9];have⟨_,b,o,base,au,he,_,_,an,y⟩:=aa;cases he;have ao:0<n:=by
     rcases Q3 n with rfl|ap
     .simp at f;subst f;simp at hu
     .exact ap
    have:=an ao;cases this;simpa using y j u hu
def n3{q A B:p9}{k s g m:Nat}{x:x1}{p:List x1}{K:x1->x3->Prop}(C:P.underlying t=σ (.slice e))(E:P.underlying q=σ (.slice B))(hi:aS P e k s z)(F:z.cells.size=k)(G:b1 w g e k v n xs)(U:ck w k x m p)(h1:∀u∈p,u.oneCell'=true)(H:(n+m)*s<=140737488355328)(I:n+m<=maxLen)(h:∀f a w',(a=g\/w.heap.size<=a)->b1 w' a e k f (n+m) (xs++p)->ai (λr=>r=g) w w'->K f w'):
  aE P (Z0 #[t,q] A #[v,x]) w K:=
 Ay C E hi F G U h1 H I λf a w' L y hm J=>by
  refine h f a w' (y.imp And.left λh=>Nat.le_of_eq h.1.symm) ?_ (J.mono λr _ h=>h.1);obtain⟨_,rfl,_⟩|⟨_,rfl⟩:=y<;>exact hm
theorem Az{f q s:p9}{I g o hJ y:Nat}{x:x1}{base:Option Addr}{C:p9}{K:x1->x3->Prop}(E:P.underlying f=σ (.slice e))(hi:aS P e 1 I z)(a:ag w g C cs)(J:0<hJ->base=σ ⟨g,o,ν⟩)(V:o+hJ<=cs.length)(U:ck w 1 x n xs)(h1:∀u∈xs,u.oneCell'=true)(h:∀w',ai (λr=>r=g) w w'->w'.heap.size=w.heap.size->ag w' g C (over cs o (xs.take hJ))->K (Δ (min n hJ:Nat)) w'):
  aE P (Z3.copy_ #[f,q] s #[.slice base hJ y,x]) w K:=by
 obtain⟨A,b,o',L,cap,rfl,_,_,M,N⟩:=U;simp only[U2]at A;have F:(P.info? e).map (·.size)=σ 1:=hi.size;by_cases p:Nat.min n hJ=0
 .have he:xs.take hJ=[]:=j6 (by rw[l9,A];rw[Nat.min_comm];exact p);rw[he]at h;refine .of (run_copy_none (P:=P) w f q s e base L hJ y n cap E F p) (cM.refl _) ?_;have G:min n hJ=0:=p;rw[G]at h;exact h w (ai.refl _ _) rfl a
 .have G:min n hJ≠0:=p;have O:=M Ω;have Q:=J Ω;subst O;subst Q;have H:(xs.take hJ).length=min n hJ:=by rw[l9,A,Nat.min_comm]
  obtain⟨R,B⟩:=n1 (xs.take hJ) cs o w a;have S:=run_copy_cells (P:=P) w f q s e g o hJ y ⟨b,o',ν⟩ n cap (xs.take hJ) E F H
   (λj u hu=>by
    rw[U9];have T:=(x4.1 hu).1;rw[Z7 Ω]at hu;exact N j u hu)
   (λj T=>by rw[a.cell (x6 (show o+j<cs.length by omega))];rfl) (λj _=>a.frozen _ _) (λu hu=>h1 u (T9 hu))
  refine .of S (B.cw a) ?_;rw[H];exact h _ B.ab B.size R
def am.mono{f:R7}{K e:x1->x3->Prop}(h:am P f args w K)(p:∀v w',cM w w'->K v w'->e v w'):am P f args w e:=by
 cases h with
 |code h1 a=>exact .code h1 (a.mono λ_ w' ⟨v,h1,q,a⟩=>⟨v,h1,q,p v w' q a⟩)
 |ext v w' h1 a r=>exact .ext v w' h1 a (p v w' a r)
def gN.mono{f:R7}{K e:x1->x3->Prop}(h:gN P f args w K)(p:∀v w',K v w'->e v w'):gN P f args w e:=by
 cases h with
 |code h1 a=>exact .code h1 (a.mono λ_ w' ⟨v,h1,a⟩=>⟨v,h1,p v w' a⟩)
 |ext v w' h1 q=>exact .ext v w' h1 (p v w' q)
end
end Go.Vc
namespace Go.Proofs.YtikkpokkcdocoabGreatDoor
open Go Go.Vc Go.RowKit Go.Proofs Go.Proofs.Tryz
set_option maxRecDepth 100000
def aq.u:x7.underlying aq=σ (.int .i64):=Ψ
def aq.i:aS x7 aq 1 8 (Δ 0):=aS.of Ψ
def ah.u:x7.underlying ah=σ (.int .i64):=Ψ
def ah.i:aS x7 ah 1 8 (Δ 0):=aS.of Ψ
def e5.u:x7.underlying e5=σ .bool:=Ψ
def e5.i:aS x7 e5 1 1 (.bool false):=aS.of Ψ
def cJ.u:x7.underlying cJ=σ (.int .u8):=Ψ
def cJ.i:aS x7 cJ 1 1 (.int .u8 0):=aS.of Ψ
def cQ.u:x7.underlying cQ=σ .string:=Ψ
def cQ.i:aS x7 cQ 1 16 (.string ⟨#[]⟩):=aS.of Ψ
def cN.u:x7.underlying cN=σ (.slice cJ):=Ψ
def nW.u:x7.underlying nW=σ (.slice c5):=Ψ
def dd.u:x7.underlying dd=σ (.pointer cI):=Ψ
def an.u:x7.underlying an=σ (.slice ah):=Ψ
def an.i:aS x7 an 1 24 (.slice ν 0 0):=aS.of Ψ
def cU.u:x7.underlying cU=σ (.slice an):=Ψ
def cU.i:aS x7 cU 1 24 (.slice ν 0 0):=aS.of Ψ
def jt.u:x7.underlying jt=σ (.slice e5):=Ψ
def jt.i:aS x7 jt 1 24 (.slice ν 0 0):=aS.of Ψ
def dZ.u:x7.underlying dZ=σ (.slice ay):=Ψ
def dZ.i:aS x7 dZ 1 24 (.slice ν 0 0):=aS.of Ψ
def eC.u:x7.underlying eC=σ (.slice c4):=Ψ
def eC.i:aS x7 eC 1 24 (.slice ν 0 0):=aS.of Ψ
def aX.p:bM x7 aX [(0,1),(1,1),(2,1),(3,1),(4,1),(5,1),(6,1),(7,1)]:=bM.of Ψ
def aX.i:aS x7 aX 8 160 (.agg #[(Δ 0),(.slice ν 0 0),(Δ 0),(.slice ν 0 0),(.slice ν 0 0),(.slice ν 0 0),(.slice ν 0 0),(.slice ν 0 0)]):=aS.of Ψ
def dL.u:x7.underlying dL=σ (.slice df):=Ψ
def dL.i:aS x7 dL 1 24 (.slice ν 0 0):=aS.of Ψ
def jX.i:aS x7 jX 1 8 (Δ 0):=aS.of Ψ
def df.p:bM x7 df [(0,1),(1,1),(2,1),(3,1)]:=bM.of Ψ
def df.i:aS x7 df 4 32 (.agg #[(Δ 0),(Δ 0),(Δ 0),(Δ 0)]):=aS.of Ψ
def ay.u:x7.underlying ay=σ (.slice aq):=Ψ
def ay.i:aS x7 ay 1 24 (.slice ν 0 0):=aS.of Ψ
def aZ.p:bM x7 aZ [(0,1),(1,1),(2,1)]:=bM.of Ψ
def aZ.i:aS x7 aZ 3 72 (.agg #[(.slice ν 0 0),(.slice ν 0 0),(.slice ν 0 0)]):=aS.of Ψ
def c4.p:bM x7 c4 [(0,3),(3,1)]:=bM.of Ψ
def c4.i:aS x7 c4 4 80 (.agg #[(.slice ν 0 0),(.slice ν 0 0),(.slice ν 0 0),(.bool false)]):=aS.of Ψ
def c5.p:bM x7 c5 [(0,1),(1,1),(2,1),(3,1),(4,1)]:=bM.of Ψ
def c5.i:aS x7 c5 5 40 (.agg #[(.int .u8 0),(Δ 0),(Δ 0),(Δ 0),(Δ 0)]):=aS.of Ψ
def mS.u:x7.underlying mS=σ (.pointer fN):=Ψ
def qD.u:x7.underlying qD=σ (.pointer fM):=Ψ
def fK.u:x7.underlying fK=σ (.slice fo):=Ψ
def fK.i:aS x7 fK 1 24 (.slice ν 0 0):=aS.of Ψ
def cI.p:bM x7 cI [(0,1),(1,1),(2,1),(3,1),(4,1)]:=bM.of Ψ
def pk.i:aS x7 pk 1 8 .nilFunc:=aS.of Ψ
def fL.u:x7.underlying fL=σ (.int .u64):=Ψ
def fL.i:aS x7 fL 1 8 (.int .u64 0):=aS.of Ψ
def b5.p:bM x7 b5 [(0,1),(1,1)]:=bM.of Ψ
def b5.i:aS x7 b5 2 16 (.agg #[(.int .u64 0),(Δ 0)]):=aS.of Ψ
def pm.i:aS x7 pm 1 8 .nilFunc:=aS.of Ψ
def bF.p:bM x7 bF [(0,1)]:=bM.of Ψ
def bF.i:aS x7 bF 1 24 (.agg #[(.slice ν 0 0)]):=aS.of Ψ
def fo.p:bM x7 fo [(0,1),(1,1),(2,1)]:=bM.of Ψ
def fo.i:aS x7 fo 3 56 (.agg #[(.slice ν 0 0),(.slice ν 0 0),(Δ 0)]):=aS.of Ψ
def vO.u:x7.underlying vO=σ (.pointer cE):=Ψ
def vP.u:x7.underlying vP=σ (.pointer dJ):=Ψ
def cV.u:x7.underlying cV=σ (.slice aZ):=Ψ
def cV.i:aS x7 cV 1 24 (.slice ν 0 0):=aS.of Ψ
def dI.p:bM x7 dI [(0,1),(1,1),(2,1),(3,1),(4,1)]:=bM.of Ψ
def dI.i:aS x7 dI 5 88 (.agg #[(Δ 0),(.slice ν 0 0),(Δ 0),(.slice ν 0 0),(.slice ν 0 0)]):=aS.of Ψ
def mT.u:x7.underlying mT=σ (.array 5 cQ):=Ψ
def mT.i:aS x7 mT 5 80 (.agg #[(.string ⟨#[]⟩),(.string ⟨#[]⟩),(.string ⟨#[]⟩),(.string ⟨#[]⟩),(.string ⟨#[]⟩)]):=aS.of Ψ
def pn.u:x7.underlying pn=σ (.int .u64):=Ψ
def eL.p:bM x7 eL [(0,1),(1,1)]:=bM.of Ψ
def eL.i:aS x7 eL 2 16 (.agg #[(Δ 0),(.int .u64 0)]):=aS.of Ψ
def ix.u:x7.underlying ix=σ (.slice eL):=Ψ
def ix.i:aS x7 ix 1 24 (.slice ν 0 0):=aS.of Ψ
def nX.u:x7.underlying nX=σ (.slice lg):=Ψ
def nX.i:aS x7 nX 1 24 (.slice ν 0 0):=aS.of Ψ
def sN.u:x7.underlying sN=σ (.slice gD):=Ψ
def fM.p:bM x7 fM [(0,1),(1,1),(2,1),(3,1)]:=bM.of Ψ
def sO.u:x7.underlying sO=σ (.pointer h8):=Ψ
def e6.p:bM x7 e6 [(0,1),(1,1),(2,1),(3,1)]:=bM.of Ψ
def hE.u:x7.underlying hE=σ (.slice jY):=Ψ
def hE.i:aS x7 hE 1 24 (.slice ν 0 0):=aS.of Ψ
def cj.p:bM x7 cj [(0,1),(1,4),(5,1),(6,1)]:=bM.of Ψ
def ju.u:x7.underlying ju=σ (.slice b7):=Ψ
def iU.u:x7.underlying iU=σ (.slice ed):=Ψ
def iU.i:aS x7 iU 1 24 (.slice ν 0 0):=aS.of Ψ
def b7.p:bM x7 b7 [(0,1),(1,1),(2,1),(3,1)]:=bM.of Ψ
def b7.i:aS x7 b7 4 80 (.agg #[(.slice ν 0 0),(.slice ν 0 0),(Δ 0),(.slice ν 0 0)]):=aS.of Ψ
def dM.u:x7.underlying dM=σ (.slice cF):=Ψ
def dM.i:aS x7 dM 1 24 (.slice ν 0 0):=aS.of Ψ
def cE.p:bM x7 cE [(0,1),(1,1),(2,1),(3,1)]:=bM.of Ψ
def eU.u:x7.underlying eU=σ (.pointer fO):=Ψ
def eU.i:aS x7 eU 1 8 (.pointer ν):=aS.of Ψ
def cF.p:bM x7 cF [(0,1),(1,1)]:=bM.of Ψ
def cF.i:aS x7 cF 2 32 (.agg #[(.slice ν 0 0),(.pointer ν)]):=aS.of Ψ
def fp.u:x7.underlying fp=σ (.slice ct):=Ψ
def fp.i:aS x7 fp 1 24 (.slice ν 0 0):=aS.of Ψ
def dE.u:x7.underlying dE=σ (.slice ba):=Ψ
def dE.i:aS x7 dE 1 24 (.slice ν 0 0):=aS.of Ψ
def bD.p:bM x7 bD [(0,1),(1,1),(2,1),(3,1),(4,1),(5,1),(6,1),(7,1),(8,1)]:=bM.of Ψ
def dJ.p:bM x7 dJ [(0,1),(1,1),(2,1),(3,1)]:=bM.of Ψ
def ct.p:bM x7 ct [(0,1),(1,1)]:=bM.of Ψ
def ct.i:aS x7 ct 2 24 (.agg #[(.string ⟨#[]⟩),(Δ 0)]):=aS.of Ψ
def ec.u:x7.underlying ec=σ (.slice cg):=Ψ
def ec.i:aS x7 ec 1 24 (.slice ν 0 0):=aS.of Ψ
def ba.p:bM x7 ba [(0,1),(1,1),(2,1),(3,1)]:=bM.of Ψ
def ba.i:aS x7 ba 4 80 (.agg #[(.slice ν 0 0),(.slice ν 0 0),(Δ 0),(.slice ν 0 0)]):=aS.of Ψ
def lf.u:x7.underlying lf=σ (.slice hF):=Ψ
def lf.i:aS x7 lf 1 24 (.slice ν 0 0):=aS.of Ψ
def fN.p:bM x7 fN [(0,1),(1,1),(2,1),(3,1)]:=bM.of Ψ
def eV.u:x7.underlying eV=σ (.pointer cX):=Ψ
def eV.i:aS x7 eV 1 8 (.pointer ν):=aS.of Ψ
def hF.p:bM x7 hF [(0,1),(1,1)]:=bM.of Ψ
def hF.i:aS x7 hF 2 32 (.agg #[(.slice ν 0 0),(.pointer ν)]):=aS.of Ψ
def qE.p:bM x7 qE [(0,1),(1,1)]:=bM.of Ψ
def po.u:x7.underlying po=σ (.int .u32):=Ψ
def h8.p:bM x7 h8 [(0,1),(1,1),(2,1)]:=bM.of Ψ
def jY.p:bM x7 jY [(0,1),(1,1)]:=bM.of Ψ
def jY.i:aS x7 jY 2 48 (.agg #[(.slice ν 0 0),(.slice ν 0 0)]):=aS.of Ψ
def ed.p:bM x7 ed [(0,1),(1,1)]:=bM.of Ψ
def ed.i:aS x7 ed 2 32 (.agg #[(.slice ν 0 0),(Δ 0)]):=aS.of Ψ
def cg.p:bM x7 cg [(0,1),(1,1)]:=bM.of Ψ
def cg.i:aS x7 cg 2 32 (.agg #[(.slice ν 0 0),(Δ 0)]):=aS.of Ψ
def gB.u:x7.underlying gB=σ (.slice cW):=Ψ
def cW.p:bM x7 cW [(0,1),(1,1)]:=bM.of Ψ
def cW.i:aS x7 cW 2 32 (.agg #[(.slice ν 0 0),(.pointer ν)]):=aS.of Ψ
def iV.u:x7.underlying iV=σ (.map cG aq):=Ψ
def fO.p:bM x7 fO [(0,1),(1,1),(2,1),(3,1)]:=bM.of Ψ
def pp.u:x7.underlying pp=σ (.slice gC):=Ψ
def gC.p:bM x7 gC [(0,1),(1,1)]:=bM.of Ψ
def gC.i:aS x7 gC 2 32 (.agg #[(.slice ν 0 0),(Δ 0)]):=aS.of Ψ
def cX.p:bM x7 cX [(0,1),(1,1),(2,1)]:=bM.of Ψ
def gD.p:bM x7 gD [(0,1),(1,1),(2,1)]:=bM.of Ψ
def gD.i:aS x7 gD 3 24 (.agg #[(Δ 0),(Δ 0),(.int .u64 0)]):=aS.of Ψ
def lg.i:aS x7 lg 3 24 (.agg #[(Δ 0),(Δ 0),(.int .u64 0)]):=aS.of Ψ
def sP.u:x7.underlying sP=σ (.array 64 cJ):=Ψ
def hh.u:x7.underlying hh=σ (.map cQ ah):=Ψ
def gi.u:x7.underlying gi=σ (.int .i8):=Ψ
def gi.i:aS x7 gi 1 1 (.int .i8 0):=aS.of Ψ
def cG.u:x7.underlying cG=σ (.array 6 gi):=Ψ
def cG.i:aS x7 cG 6 6 (.agg #[(.int .i8 0),(.int .i8 0),(.int .i8 0),(.int .i8 0),(.int .i8 0),(.int .i8 0)]):=aS.of Ψ
def lh.u:x7.underlying lh=σ (.slice gi):=Ψ
def jv.u:x7.underlying jv=σ (.slice cG):=Ψ
def jv.i:aS x7 jv 1 24 (.slice ν 0 0):=aS.of Ψ
def me.u:x7.underlying me=σ (.map aq ah):=Ψ
def mU.u:x7.underlying mU=σ (.array 24 cJ):=Ψ
def mU.i:aS x7 mU 24 24 (.agg #[(.int .u8 0),(.int .u8 0),(.int .u8 0),(.int .u8 0),(.int .u8 0),(.int .u8 0),(.int .u8 0),(.int .u8 0),(.int .u8 0),(.int .u8 0),(.int .u8 0),(.int .u8 0),(.int .u8 0),(.int .u8 0),(.int .u8 0),(.int .u8 0),(.int .u8 0),(.int .u8 0),(.int .u8 0),(.int .u8 0),(.int .u8 0),(.int .u8 0),(.int .u8 0),(.int .u8 0)]):=aS.of Ψ
def sQ.u:x7.underlying sQ=σ (.array 20 fL):=Ψ
end Go.Proofs.YtikkpokkcdocoabGreatDoor
namespace Go.Vc
open Go Go.RowKit
def bW:x1->Int
 | .int _ i=>i
 |_=>0
def wrap_i64{x:Int}(h1: -9223372036854775808<=x)(a:x<9223372036854775808):X6.wrap x=x:=by
 simp only[o7.wrap,o7.bits,o7.signed];simp;omega
def wrap_u8{x:Int}(h1:0<=x)(a:x<256):o7.u8.wrap x=x:=by
 simp only[o7.wrap,o7.bits,o7.signed];simp;omega
def J5{x:Int}(h1: -128<=x)(a:x<128):o7.i8.wrap x=x:=by
 simp only[o7.wrap,o7.bits,o7.signed];simp;omega
def wrap_u64{x:Int}(h1:0<=x)(a:x<18446744073709551616):U6.wrap x=x:=by
 simp only[o7.wrap,o7.bits,o7.signed];simp;omega
abbrev ints(k:o7)(l:Λ):List x1:=l.map (V6 k)
def qG(k:o7)(l:Λ):∀u∈ints k l,u.oneCell'=true:=by
 intro u hu;obtain⟨x,_,rfl⟩:=j5.1 hu;rfl
def lk{i:Nat}{x:Int}(h:l[i]?=σ x):(ints k l)[i]?=σ (.int k x):=by simp[ints,h]
def vT{α:Type}{a b:List α}{i:Nat}{x y:α}(h:a.take i=b.take i)(e:a[i]?=σ x)(f:b[i]?=σ y)(p:x=y):a.take (i+1)=b.take (i+1):=by
 rw[u9,u9,h,e,f,p]
def dc{aA:x3->Prop}{B:(x3->Prop)->Prop}(G:x3->Prop)(h1:∀w,G w->aA w)(e:∀a:x3->Prop,(∀w,G w->a w)->B a):cz aA B:=e aA h1
def aV{aA:x1->x3->Prop}{B:(x1->x3->Prop)->Prop}(G:x1->x3->Prop)(h1:∀v w,G v w->aA v w)(e:∀a:x1->x3->Prop,(∀v w,G v w->a v w)->B a):cz aA B:=e aA h1
def gQ{aA:x1->x1->x3->Prop}{B:(x1->x1->x3->Prop)->Prop}(G:x1->x1->x3->Prop)(h1:∀u v w,G u v w->aA u v w)(e:∀a:x1->x1->x3->Prop,(∀u v w,G u v w->a u v w)->B a):cz aA B:=e aA h1
def am.calls{P:W8}{f:R7}{K:x1->x3->Prop}(h:am P f args w K)(a:Enters P f):Calls P f args.toArray w λe w'=>∃v,e= .returned v/\cM w w'/\K v w':=by
 cases h with
 |code _ h=>exact h
 |ext v w' h1=>rw[a]at h1;cases h1
def J6(J:Ext w w')(a:cM w w'):Below w.heap.size w w':=
 ⟨a.os,a.tape.1,a.output,J.size,λk hk=>by
  have e:w.heap[k]?=σ w.heap[k]:=Array.getElem?_eq_getElem hk;rw[e];cases U:fH w.heap[k]with
  |true=>exact J.a6 k _ e U
  |false=>exact a.a6 k _ e U⟩
def vU{x:Addr}(h:w.cell? x=σ v):x=⟨x.block,x.off,ν⟩:=by
 have⟨b,o,s⟩:=x;cases s with
 |none=>rfl
 |some s=>
  unfold x3.cell? at h;split at h<;>simp at h
def J7{a:Option Addr}{len cap:Nat}{e:Λ}(h:(a=ν/\len=0/\cap=0/\e=[])\/
   ∃x,a=σ x/\len<=cap/\cap<=maxLen/\e.length=cap/\(∀i,i<e.length->w.cell? (x.add i)=σ (.int k (e.getD i 0)))/\∀n∈e,(Lit.int k n).wf=true):
  ck w 1 (.slice a len cap) len (ints k (e.take len))/\∀n∈e.take len,k.min<=n/\n<=k.max:=by
 rcases h with⟨rfl,rfl,rfl,rfl⟩|⟨x,rfl,h1,q,r,f,s⟩
 .exact⟨ck.nil _ _,Ξ⟩
 .refine⟨⟨by simp[r,h1],x.block,x.off,σ x,cap,T,h1,q,λA=>?_,λj v ad=>?_⟩,λn y=>?_⟩
  .have:=f 0 Ω;exact congrArg σ (vU this)
  .have z:=(x4.1 ad).1;rw[r8,l9]at z;have J:x=⟨x.block,x.off,ν⟩:=vU (v:=.int k (e.getD 0 0)) (f 0 Ω);have p:=f j Ω;rw[J,U9]at p;rw[p,<-ad,ints,x8,Z7 Ω,u4,x6 Ω];rfl
  .have:=s n (T9 y);simpa[Lit.wf]using this
def aI(k:o7)(w:x3)(v:x1)(l:Λ):Prop:=ck w 1 v l.length (ints k l)
def av(k:o7)(e:p9)(w:x3)(g:Nat)(v:x1)(l:Λ):Prop:=b1 w g e 1 v l.length (ints k l)
def aI.ext(h:aI k w v l)(J:Ext w w'):aI k w' v l:=ck.ext h J
def av.ext{g:Nat}(h:av k e w g v l)(J:Ext w w'):av k e w' g v l:=b1.ext h J
def av.ab{g:Nat}(h:av k e w g v l)(J:ai S w w')(a:g<w.heap.size->¬S g):av k e w' g v l:=b1.ab h J a
def av.ls{g:Nat}(h:av k e w g v l):aI k w v l:=b1.sl h
def aI.of(h:ck w 1 v n (ints k l)):aI k w v l:=by
 have:l.length=n:=by simpa using h.1
 unfold aI;rw[this];exact h
def av.of{g:Nat}(h:b1 w g e 1 v n (ints k l)):av k e w g v l:=by
 have:l.length=n:=by simpa using h.1
 unfold av;rw[this];exact h
def aI.le(h:aI k w v l):l.length<=9223372036854775807:=by
 have:=ck.le h;simpa[maxLen]using this
def aI.cells(h:aI k w v l):v.cells= #[v]/\v.oneCell'=true:=by
 obtain⟨_,_,_,_,_,rfl,_⟩:=h;exact⟨T,T⟩
def av.nil(k:o7)(e:p9)(w:x3)(g:Nat):av k e w g (.slice ν 0 0) []:=b1.nil w g e 1
section
variable{P:W8}{w:x3}
def aW{a:p9}(f:P.underlying t=σ (.slice e))(h:aI k w v l):
  ac P (V0 #[t] a #[v]) w K=K (Δ l.length):=by
 obtain⟨_,_,_,_,_,rfl,_⟩:=h;exact hI f
def bc{a:o7}{b:Nat}{i:Nat}{x:Int}(f:P.underlying t=σ (.slice e))(hi:aS P e 1 b z)(h1:jZ P e=true)(h:aI k w v l)(J:l[i]?=σ x):ac P (j9 t v (.int a (i:Int))) w (λp=>ac P (u5 e p) w K)=K (.int k x):=by
 have q:=(x4.1 J).1;obtain⟨_,_,_,_,_,rfl,_,_,r,s⟩:=h;rw[fg f hi q r,U2,ax h1 (s i _ (lk J))]
def fP{a:o7}{b:Nat}{i:Nat}{x:Int}(f:y=(i:Int))(q:P.underlying t=σ (.slice e))(hi:aS P e 1 b z)(h1:jZ P e=true)(h:aI k w v l)(J:l[i]?=σ x):ac P (j9 t v (.int a y)) w (λp=>ac P (u5 e p) w K)=K (.int k x):=by
 subst f;exact bc q hi h1 h J
def jA{q:p9}{b g:Nat}{x:x1}{m:Λ}{K:x1->x3->Prop}(p:P.underlying t=σ (.slice e))(hi:aS P e 1 b z)(s:z.cells.size=1)(h:av k e w g v l)(J:aI k w x m)(y:(l.length+m.length)*b<=140737488355328)(A:l.length+m.length<=9223372036854775807)(B:∀f a w',(a=g\/w.heap.size<=a)->av k e w' a f (l++m)->ai (λr=>r=g) w w'->K f w'):aE P (Z0 #[t,t] q #[v,x]) w K:=
 n3 p p hi s h J (qG _ _) y (by simpa[maxLen]using A) λf a w' h1 C E=>B f a w' h1 (av.of (by rw[ints,Z4];exact C)) E
def eD{b:Nat}{x:Int}{K:x1->x3->Prop}(p:P.underlying t=σ (.slice e))(hi:aS P e 1 b z)(s:z.cells.size=1)(h:∀v g w',g=w.heap.size->Ext w w'->av k e w' g v [x]->K v w'):aE P (Y5 t 1 #[(0,.int k x)]) w K:=
 kD p hi Ω (cs:=#[.int k x]) (by
   have U:∀(a:Array x1),a.size=1->a.setIfInBounds 0 (.int k x)= #[.int k x]:=λa f=>by
    apply Array.ext
    .simp[f]
    .intro i h1 y;have:i=0:=by simp[f]at h1;exact h1
     subst this;simp
   simp only[Instr.fill,x1.cells,List.zipIdx];simp;exact U _ Ξ) λg w' q J r=>h _ g w' q J (av.of (n:=1) (b1.full r T (by simp[maxLen])))
def am.free{f:R7}{K:x1->x3->Prop}(h:am P f args w K):gN P f args w λv w'=>cM w w'/\K v w':=by
 cases h with
 |code h1 a=>exact .code h1 (a.mono λ_ w' ⟨v,h1,e,a⟩=>⟨v,h1,e,a⟩)
 |ext v w' h1 a p=>exact .ext v w' h1 ⟨a,p⟩
def bZ{a:Addr}:ac P (bQ (.pointer (σ a))) w K=K (.pointer (σ a)):=ac.of λ_ _=>by
 simp[bQ,sa,execOp]
def aL{u:p9}{pl:List (Nat×Nat)}{b z:Nat}{K:x1->x1->Prop}(a:bM P t pl)(i:Nat)(f:ag w b e cs)(ad:cs[(pl[i]?.getD (0,0)).1]?=σ v)(ae:pl[i]?=σ (off,z+1):=by rfl)(h:jZ P u=true:=by kernel_rfl):
  ac P (u6 t (Γ b) i) w (λx=>ac P (u5 u x) w (K x))=K (.pointer (σ ⟨b,0+off,ν⟩)) v:=by
 rw[ae]at ad;rw[aU a ae,ax h (f.cell (by rw[X2];exact ad))]
def aT{u:p9}{pl:List (Nat×Nat)}{b z:Nat}{K:x1->x1->x1->Prop}(a:bM P t pl)(i:Nat)(f:ag w b e cs)(ad:cs[(pl[i]?.getD (0,0)).1]?=σ v)(ae:pl[i]?=σ (off,z+1):=by rfl)(h:jZ P u=true:=by kernel_rfl):
  ac P (bQ (Γ b)) w (λy=>ac P (u6 t y i) w (λx=>ac P (u5 u x) w (K y x)))=K (Γ b) (.pointer (σ ⟨b,0+off,ν⟩)) v:=by
 rw[bZ,aL a i f ad ae h]
def AA{a f:o7}{k p:Nat}{K:x1->x3->Prop}(r:P.underlying t=σ (.slice e))(hi:aS P e k p z)(B:n*p<=281474976710656)(C:n<=9223372036854775807)(h:∀g w',g=w.heap.size->Ext w w'->ag w' g e (dT z.cells (n*k))->K (.slice (σ ⟨g,0,ν⟩) n n) w'):aE P (Instr.makeSlice t (.int a (n:Int)) (.int f (n:Int))) w K:=by
 obtain⟨i,hi,rfl,rfl,s⟩:=hi;have x:(i.bytes:Int)*(n:Int)<=281474976710656:=by
  rw[Int.mul_comm];have h:((n*i.bytes:Nat):Int)<=281474976710656:=Ω
  rwa [Int.natCast_mul]at h
 have q:=run_make (P:=P) w t e i z r hi s a f n n Ω (Int.le_refl _) x Ω;have hm:madeCells z.cells ((n:Int).toNat*i.size)=(dT z.cells (n*i.size)).toArray:=by rw[dT,Array.toArray_toList];rfl
 rw[hm]at q;have⟨h1,y,A⟩:=sW w (dT z.cells (n*i.size)) e;exact .of q A (h _ _ T y h1)
def J8(v:x1)(n:Nat):dT #[v] n=p8 n v:=by
 apply List.ext_getElem
 .simp[dT]
 .intro i h1 a;simp[dT,Nat.mod_one]
def j0{f p:o7}{a:Nat}{K:x1->x3->Prop}(q:P.underlying t=σ (.slice e))(hi:aS P e 1 a (.int k 0))(r:n*a<=281474976710656)(s:n<=9223372036854775807)(h:∀g w',g=w.heap.size->Ext w w'->ag w' g e (ints k (p8 n 0))->K (.slice (σ ⟨g,0,ν⟩) n n) w'):aE P (Instr.makeSlice t (.int f (n:Int)) (.int p (n:Int))) w K:=
 AA q hi r s λg w' x J y=>h g w' x J (by
  have e:dT (V6 k 0).cells (n*1)=ints k (p8 n 0):=by rw[U2];show dT #[_] n=_;rw[J8];simp[ints]
  rw[<-e];exact y)
def fQ{pl:List (Nat×Nat)}{b o k a:Nat}(hu:bM P t pl)(hi:aS P t k a z)(e:cs.length=k)(h:w.rangeAt b o cs):ac P (do loadVar t (<-asAddr (.pointer (σ ⟨b,o,ν⟩)))) w K=K (.agg cs.toArray):=ac.of λw' J=>by
 have⟨f,hu,_⟩:=hu;have:=run_loadVar_mid (P:=P) w' b o t cs (.struct f) (nY J h) hu T (by rw[hi.size,e]);simp only[asAddr,W5,V3,Result.andThen_ok,this]
def AB(h:vs.length=cs.length):over cs 0 vs=vs:=by
 rw[mY Ω];simp[h]
def cd{k f g:Nat}{K:Unit->x3->Prop}(hi:aS P t k f z)(p:vs.length=k)(x:cs.length=k)(ad:∀v∈vs,v.oneCell'=true)(q:ag w g e cs)(h:∀w',ai (λr=>r=g) w w'->w'.heap.size=w.heap.size->ag w' g e vs->K () w'):aE P (o8 t (Γ g) (.agg vs.toArray)) w K:=
 vS hi p ad q Ω λw' h1 s a=>h w' h1 s (by rw[AB Ω]at a;exact a)
end
section
variable{P:W8}{w w' aa:x3}{t:p9}{cx cy:Bool}{k:o7}{a b:Int}{A B:Prop}{x y z:x1}{K:x1->Prop}
def bo:ac P (Y0 (.tuple #[x,y]) 0) w K=K x:=iX T
def bp:ac P (Y0 (.tuple #[x,y]) 1) w K=K y:=iX T
def fR:ac P (Y0 (.tuple #[x,y,z]) 0) w K=K x:=iX T
def fS:ac P (Y0 (.tuple #[x,y,z]) 1) w K=K y:=iX T
def fT:ac P (Y0 (.tuple #[x,y,z]) 2) w K=K z:=iX T
def bz(h:a<b)(e:A):ac P (aO .lss t cx cy (.int k a) (.int k b)) w λv=>Split v A B:=by
 rw[aP,al];exact⟨λ_=>e,λf=>absurd h f⟩
def b4(h:¬a<b)(e:B):ac P (aO .lss t cx cy (.int k a) (.int k b)) w λv=>Split v A B:=by
 rw[aP,al];exact⟨λf=>absurd f h,λ_=>e⟩
def Ext.put{g:Nat}(J:Ext w w')(a:ai (λr=>r=g) w' aa)(h:w.heap.size<=g):Ext w aa:=J.then a λr e he=>by
 have he:r=g:=he;omega
def aH{α:Type}{l:List α}{i:Nat}(h:i<l.length):∃x,l[i]?=σ x:=⟨_,x6 h⟩
end
abbrev ak:=Nat->Prop
def kE(S:ak)(w:x3)(k:Nat)(v:x1)(n:Nat)(cs:List x1):Prop:=
 cs.length=n*k/\∃b o base cap,v= .slice base n cap/\n<=cap/\cap<=maxLen/\(0<n->base=σ ⟨b,o,ν⟩)/\(0<cs.length->S b)/\w.rangeAt b o cs
def kE.sl{S:ak}{k:Nat}(h:kE S w k v n cs):ck w k v n cs:=by
 have⟨h1,b,o,base,cap,a,e,f,p,_,q⟩:=h;exact⟨h1,b,o,base,cap,a,e,f,p,q⟩
def AC{b o:Nat}(h:w.rangeAt b o cs)(a:0<cs.length):b<w.heap.size:=by
 have:=h 0 cs[0] (x6 a);have⟨c,e,f,p,_⟩:=vQ this;exact(j4.1 p).1
def kE.ab{S T:ak}{k:Nat}(h:kE S w k v n cs)(J:ai T w w')(p:∀r,r<w.heap.size->S r->¬T r):kE S w' k v n cs:=by
 have⟨h1,b,o,base,cap,q,s,x,y,e,f⟩:=h;refine⟨h1,b,o,base,cap,q,s,x,y,e,?_⟩;rcases Q3 cs.length with a|a
 .intro j v ad;have:=(x4.1 ad).1;omega
 .exact jw J (p b (AC f a) (e a)) f
def kE.mono{S T:ak}{k:Nat}(h:kE S w k v n cs)(f:∀r,r<w.heap.size->S r->T r):kE T w k v n cs:=by
 have⟨h1,b,o,base,cap,p,q,s,x,y,a⟩:=h;exact⟨h1,b,o,base,cap,p,q,s,x,λe=>f b (AC a e) (y e),a⟩
class au(α:Type) where
 n:Nat
 rep:Bool->ak->ak->x3->List x1->α->Prop
 len:∀{m S R w cs a},rep m S R w cs a->cs.length=n
 one:∀{m S R w cs a},rep m S R w cs a->∀u∈cs,u.oneCell'=true
 ab:∀{m S R T w w' cs a},rep m S R w cs a->ai T w w'->(∀r,r<w.heap.size->S r\/R r->¬T r)->rep m S R w' cs a
 mono:∀{m S S' R R' w cs a},rep m S R w cs a->(∀r,r<w.heap.size->S r->S' r)->(∀r,r<w.heap.size->R r->R' r)->rep m S' R' w cs a
 h6:∀{m S R w cs a},rep m S R w cs a->rep false (λ_=>False) (λr=>S r\/R r) w cs a
section
variable{α β:Type}[au α][au β]{m:Bool}{S R T:ak}{w w':x3}
abbrev bI(S R:ak)(w:x3)(cs:List x1)(a:α):Prop:=au.rep true S R w cs a
abbrev Seen(R:ak)(w:x3)(cs:List x1)(a:α):Prop:=au.rep false (λ_=>False) R w cs a
abbrev eM:ak:=λ_=>True
def bA{a:α}(h:au.rep m S R w cs a)(J:Ext w w'):au.rep m S R w' cs a:=au.ab h (J.ab λ_=>False) λ_ _ _ h=>h
def mZ{a:α}(h:au.rep m S R w cs a):au.rep m (λr=>S r/\r<w.heap.size) R w cs a:=au.mono h (λ_ h1 e=>⟨e,h1⟩) λ_ _ h=>h
def jB{a:α}(h:au.rep m S R w cs a):Seen eM w cs a:=au.mono (au.h6 h) (λ_ _ h=>h.elim) λ_ _ _=>trivial
def qH{a:α}{Q:ak}(h:au.rep m S R w cs a)(e:∀r,r<w.heap.size->S r\/R r->Q r):Seen Q w cs a:=au.mono (au.h6 h) (λ_ _ h=>h.elim) e
instance:au Int where
 n:=1
 rep _ _ _ _ cs a:=cs=[Δ a]
 len h:=by subst h;rfl
 one h:=by subst h;intro u hu;simp at hu;subst hu;rfl
 ab h _ _:=h
 mono h _ _:=h
 h6 h:=h
instance:au Bool where
 n:=1
 rep _ _ _ _ cs a:=cs=[.bool a]
 len h:=by subst h;rfl
 one h:=by subst h;intro u hu;simp at hu;subst hu;rfl
 ab h _ _:=h
 mono h _ _:=h
 h6 h:=h
instance:au ByteArray where
 n:=1
 rep _ _ _ _ cs a:=cs=[.string a]
 len h:=by subst h;rfl
 one h:=by subst h;intro u hu;simp at hu;subst hu;rfl
 ab h _ _:=h
 mono h _ _:=h
 h6 h:=h
def mj(_:o7):Type:=Int
instance (k:o7):au (mj k) where
 n:=1
 rep _ _ _ _ cs a:=cs=[.int k a]
 len h:=by subst h;rfl
 one h:=by subst h;intro u hu;simp at hu;subst hu;rfl
 ab h _ _:=h
 mono h _ _:=h
 h6 h:=h
def Rd(α:Type):Type:=α
instance TE:au (Rd α) where
 n:=au.n α
 rep _ _ R w cs a:=au.rep (α:=α) false (λ_=>False) R w cs a
 len h:=au.len (α:=α) h
 one h:=au.one (α:=α) h
 ab h J e:=au.ab (α:=α) h J λr f h=>e r f (.inr (h.elim False.elim id))
 mono h _ p:=au.mono (α:=α) h (λ_ _ h=>h) p
 h6 h:=au.mono (α:=α) h (λ_ _ h=>h) λ_ _ h=>.inr h
instance TF:au (α×β) where
 n:=au.n α+au.n β
 rep m S R w cs a:=∃c d A B,cs=c++d/\(∀r,A r->S r)/\(∀r,B r->S r)/\(m=true->∀r,A r->¬B r)/\au.rep m A R w c a.1/\au.rep m B R w d a.2
 len:=by
  rintro m S R w cs a ⟨c,d,A,B,rfl,_,_,_,h1,e⟩;simp[au.len h1,au.len e]
 one:=by
  rintro m S R w cs a ⟨c,d,A,B,rfl,_,_,_,h1,e⟩ u hu;rcases o5.1 hu with hu|hu
  .exact au.one h1 u hu
  .exact au.one e u hu
 ab:=by
  rintro m S R T w w' cs a ⟨c,d,A,B,rfl,p,q,x,h1,e⟩ J s;exact⟨c,d,A,B,rfl,p,q,x,au.ab h1 J λr f h=>s r f (h.imp (p r) id),au.ab e J λr f h=>s r f (h.imp (q r) id)⟩
 mono:=by
  rintro m S S' R R' w cs a ⟨c,d,A,B,rfl,p,q,x,h1,e⟩ s y;exact⟨c,d,λr=>A r/\r<w.heap.size,λr=>B r/\r<w.heap.size,rfl,λr h=>s r h.2 (p r h.1),λr h=>s r h.2 (q r h.1),λhm r h k=>x hm r h.1 k.1,
   au.mono h1 (λr f h=>⟨h,f⟩) y,au.mono e (λr f h=>⟨h,f⟩) y⟩
 h6:=by
  rintro m S R w cs a ⟨c,d,A,B,rfl,p,q,x,h1,e⟩;exact⟨c,d,λ_=>False,λ_=>False,rfl,λ_ h=>h.elim,λ_ h=>h.elim,(λh=>by cases h),au.mono (au.h6 h1) (λ_ _ h=>h) λr _ h=>h.imp (p r) id,
   au.mono (au.h6 e) (λ_ _ h=>h) λr _ h=>h.imp (q r) id⟩
def m4(m:Bool)(R:ak)(F:Nat->ak)(w:x3)(vs:List (List x1))(l:List α):Prop:=
 vs.length=l.length/\∀(i:Nat)(c:List x1)(a:α),vs[i]?=σ c->l[i]?=σ a->au.rep m (F i) R w c a
structure AD(m:Bool)(S:ak)(g:Nat)(F:Nat->ak):Prop where
 sub:∀i r,F i r->S r
 top:m=true->∀i,¬F i g
 gR:m=true->∀i j r,i≠j->F i r->¬F j r
def m4.len{F:Nat->ak}{vs:List (List x1)}{l:List α}(h:m4 m R F w vs l):∀c∈vs,c.length=au.n α:=by
 intro c a;obtain⟨i,hi,rfl⟩:=List.mem_iff_getElem.1 a;exact au.len (h.2 i _ _ (x6 hi) (x6 (h.1▸hi)))
def m4.one{F:Nat->ak}{vs:List (List x1)}{l:List α}(h:m4 m R F w vs l):∀u∈vs.flatten,u.oneCell'=true:=by
 intro u hu;have⟨c,a,hu⟩:=List.mem_flatten.1 hu;obtain⟨i,hi,rfl⟩:=List.mem_iff_getElem.1 a;exact au.one (h.2 i _ _ (x6 hi) (x6 (h.1▸hi))) u hu
theorem qI{k:Nat}:∀{vs:List (List x1)},(∀c∈vs,c.length=k)->vs.flatten.length=vs.length*k
 |[],_=>Ξ
 |c::r,h=>by
  have:=qI (vs:=r) λx J=>h x (.tail _ J);simp only[List.flatten_cons,r9,this,h c (.head _),b6,U3];omega
theorem n4{k:Nat}:∀{vs:List (List x1)},(∀c∈vs,c.length=k)->∀{i j:Nat}{c:List x1},vs[i]?=σ c->j<k->vs.flatten[i*k+j]?=c[j]?
 |hl::r,h,0,j,c,a,e=>by
  simp only[List.getElem?_cons_zero,Y3]at a;subst a;rw[List.flatten_cons,Y6 (by rw[h _ (.head _)];omega)];simp
 |hl::r,h,i+1,j,c,a,e=>by
  simp only[List.getElem?_cons_succ]at a;have f:=h hl (.head _);rw[List.flatten_cons,Y8 (by rw[f,U3];omega),f,U3,show i*k+1*k+j-k=i*k+j by omega];exact n4 (λx J=>h x (.tail _ J)) a e
 |[],_,i,_,c,a,_=>by simp at a
instance instList:au (List α) where
 n:=1
 rep m S R w cs l:=∃v,cs=[v]/\∃(vs:List (List x1))(g:Nat)(F:Nat->ak),AD m S g F/\m4 m R F w vs l/\kE (λr=>S r\/R r) w (au.n α) v l.length vs.flatten/\
  (m=true->(v= .slice ν 0 0\/S g)/\∃e,b1 w g e (au.n α) v l.length vs.flatten)
 len:=by rintro m S R w cs a ⟨v,rfl,_⟩;rfl
 one:=by
  rintro m S R w cs a ⟨v,rfl,vs,g,F,_,_,⟨_,_,_,_,_,rfl,_⟩,_⟩ u hu;simp at hu;subst hu;rfl
 ab:=by
  rintro m S R T w w' cs a ⟨v,rfl,vs,g,F,p,he,U,hm⟩ J s;refine⟨v,rfl,vs,g,F,p,⟨he.1,λi c a y z=>au.ab (he.2 i c a y z) J λr q h=>s r q (h.imp (p.sub i r) id)⟩,U.ab J s,λh=>?_⟩;obtain⟨h1,e,f⟩:=hm h;refine⟨h1,e,?_⟩;rcases h1 with rfl|h1
  .obtain⟨B,⟨_,x⟩|⟨_,_,x,_⟩⟩:=f
   .exact⟨B,.inl ⟨rfl,x⟩⟩
   .cases x
  .exact f.ab J λq=>s g q (.inl h1)
 mono:=by
  rintro m S S' R R' w cs a ⟨v,rfl,vs,g,F,p,he,U,hm⟩ s A;refine⟨v,rfl,vs,g,λi r=>F i r/\r<w.heap.size,⟨λi r h=>s r h.2 (p.sub i r h.1),λh i f=>p.top h i f.1,λh i j r C h1 f=>p.gR h i j r C h1.1 f.1⟩,
   ⟨he.1,λi c a y z=>au.mono (he.2 i c a y z) (λr q h=>⟨h,q⟩) A⟩,U.mono λr q h=>h.imp (s r q) (A r q),λh=>?_⟩
  obtain⟨h1,e,f⟩:=hm h;refine⟨?_,e,f⟩;obtain⟨_,⟨x,_⟩|⟨_,_,x,E,_⟩⟩:=f
  .exact .inl x
  .rcases h1 with h1|h1
   .exact .inl h1
   .exact .inr (s g E.lt h1)
 h6:=by
  rintro m S R w cs a ⟨v,rfl,vs,g,F,p,he,U,hm⟩;exact⟨v,rfl,vs,g,λ_ _=>False,⟨λ_ _ h=>h,(λh=>by cases h),λh=>by cases h⟩,
   ⟨he.1,λi c a y z=>au.mono (au.h6 (he.2 i c a y z)) (λ_ _ h=>h) λr _ h=>h.imp (p.sub i r) id⟩,U.mono λr _ h=>.inr h,λh=>by cases h⟩
end
section
variable{P:W8}{w:x3}{α β:Type}[au α][au β]{m:Bool}{S R:ak}
def jC{l:List α}(h:au.rep m S R w [v] l):∃(vs:List (List x1))(g:Nat)(F:Nat->ak),AD m S g F/\m4 m R F w vs l/\kE (λr=>S r\/R r) w (au.n α) v l.length vs.flatten/\
  (m=true->(v= .slice ν 0 0\/S g)/\∃e,b1 w g e (au.n α) v l.length vs.flatten):=by
 have⟨_,a,h⟩:=h;cases a;exact h
def gS{a:α}(h:au.rep m S R w [v] a):v.oneCell'=true:=au.one h v (.head _)
def qJ{l:List α}(h:au.rep m S R w [v] l):v.cells= #[v]:=by
 obtain⟨_,_,_,_,_,⟨_,_,_,_,_,rfl,_⟩,_⟩:=jC h;rfl
def qK{l:List α}(h:au.rep m S R w [v] l):l.length<=9223372036854775807:=by
 have⟨_,_,_,_,_,h,_⟩:=jC h;have:=h.sl.le;simpa[maxLen]using this
def hK:au.rep m S R w [.slice ν 0 0] ([]:List α):=
 ⟨_,T,[],0,λ_ _=>False,⟨λ_ _ h=>h.elim,λ_ _ h=>h,λ_ _ _ _ _ h=>h.elim⟩,⟨T,λi c a e=>by simp at e⟩,
  ⟨Ξ,0,0,ν,0,T,o4 _,X5 _,λh=>absurd h (Nat.lt_irrefl _),λh=>by simp at h,λj v h=>by simp at h⟩,
  λ_=>⟨.inl T,0,b1.nil w 0 0 _⟩⟩
def AE{F:Nat->ak}{vs:List (List x1)}(h:m4 m R F w vs l):vs.flatten=ints .i64 l:=by
 have:vs=l.map λx=>[V6 .i64 x]:=by
  apply List.ext_getElem
  .simp[h.1]
  .intro i h1 a;have e:i<l.length:=by simpa using a
   have:=h.2 i _ _ (x6 h1) (x6 e);rw[List.getElem_map];exact this
 subst this;clear h;induction l with
 |nil=>rfl
 |cons x l f=>simp only[U7,List.flatten_cons,f];rfl
def de(h:au.rep m S R w [v] l):aI .i64 w v l:=by
 have⟨vs,g,F,_,he,U,_⟩:=jC h;have:=U.sl;rw[AE he]at this;exact this
def hL{a:p9}{l:List α}(f:P.underlying t=σ (.slice e))(h:au.rep m S R w [v] l):
  ac P (V0 #[t] a #[v]) w K=K (Δ l.length):=by
 obtain⟨_,_,_,_,_,⟨_,_,_,_,_,rfl,_⟩,_⟩:=jC h;exact hI f
def kF{x:o7}{i b:Nat}{l:List α}{a:α}(A:y=(i:Int))(B:P.underlying t=σ (.slice e))(hi:aS P e (au.n α) b z)(h:au.rep m S R w [v] l)(f:l[i]?=σ a)(C:∀b o cs,w.rangeAt b o cs->au.rep m S R w cs a->K (.pointer (σ ⟨b,o,ν⟩))):ac P (j9 t v (.int x y)) w K:=by
 subst A;obtain⟨vs,g,F,E,he,⟨_,b,o,base,cap,rfl,_,_,G,_,H⟩,_⟩:=jC h;have p:=(x4.1 f).1;rw[fg B hi p G];obtain⟨c,q⟩:∃c,vs[i]?=σ c:=⟨_,x6 (by rw[he.1];exact p)⟩;have s:=he.2 i c a q f;have:=au.len s;refine C _ _ c (λj u hu=>?_) (au.mono s (λr _ h=>E.sub i r h) λ_ _ h=>h);have:=(x4.1 hu).1;rw[R4];apply H (i*au.n α+j) u;rw[n4 he.len q Ω];exact hu
def gj{r:o7}{i b:Nat}{l:List α}{a:α}(s:au.n α=1)(x:y=(i:Int))(A:P.underlying t=σ (.slice e))(hi:aS P e (au.n α) b z)(h1:jZ P e=true)(h:au.rep m S R w [v] l)(B:l[i]?=σ a)(C:∀u,au.rep m S R w [u] a->K u):
  ac P (j9 t v (.int r y)) w λp=>ac P (u5 e p) w K:=by
 refine kF x A hi h B λb o cs E f=>?_;have q:=au.len f;rw[s]at q;obtain⟨u,rfl⟩:=W9.1 q;rw[ax h1 (by have:=E 0 u T;simpa using this)];exact C u f
def ll{pl:List (Nat×Nat)}{q:o7}{i b:Nat}{l:List α}{a:α}(hu:bM P e pl)(r:y=(i:Int))(s:P.underlying t=σ (.slice e))(hi:aS P e (au.n α) b z)(h:au.rep m S R w [v] l)(x:l[i]?=σ a)(A:∀cs,au.rep m S R w cs a->K (.agg cs.toArray)):
  ac P (j9 t v (.int q y)) w λp=>ac P (u5 e p) w K:=by
 refine kF r s hi h x λb o cs B f=>?_;rw[bR hu hi (au.len f) B];exact A cs f
def ps{g:Nat}{k:Nat}(h:b1 w g e k v n xs)(a:v= .slice ν 0 0\/S g):kE S w k v n xs:=by
 obtain⟨h1,⟨rfl,rfl⟩|⟨cap,cs,rfl,f,p,q,s,r⟩⟩:=h
 .have:xs=[]:=j6 (by simpa using h1);subst this;exact⟨Ξ,0,0,ν,0,T,o4 _,X5 _,λh=>absurd h (Nat.lt_irrefl _),λh=>by simp at h,λj v h=>by simp at h⟩
 .refine⟨h1,g,0,_,cap,T,p,q,λ_=>rfl,λ_=>a.resolve_left Ξ,λj v ad=>?_⟩;rw[X2];have x:=(x4.1 ad).1;rw[<-r,Z7 Ω]at ad;exact f.cell ad
open Classical in
def J9{T X Y:p9}{b:Nat}{x:x1}{us:List (List x1)}{l l':List α}{G:Nat->ak}{K:x1->x3->Prop}(Z:P.underlying t=σ (.slice e))(aa:P.underlying T=σ (.slice X))(hi:aS P e (au.n α) b z)(ac:z.cells.size=au.n α)(h:bI S R w [v] l)(J:ck w (au.n α) x l'.length us.flatten)(I:m4 true R G w us l')(ae:∀i j r,i≠j->G i r->¬G j r)(C:∀r,r<w.heap.size->S r->(∀i,¬G i r)/\¬R r)(af:(l.length+l'.length)*b<=140737488355328)(ag:l.length+l'.length<=9223372036854775807)(ah:∀p w',bI (λr=>S r\/(∃i,G i r)\/w.heap.size<=r) R w' [p] (l++l')->ai S w w'->K p w'):aE P (Z0 #[t,T] Y #[v,x]) w K:=by
 have⟨vs,g,F,y,he,U,hm⟩:=jC h;have⟨L,ao,V⟩:=hm rfl;apply Ay Z aa hi ac V J I.one af (by simpa[maxLen]using ag);intro p E w' aj al M N;have O:∀r,r=g/\v≠ .slice ν 0 0->S r:=λr ⟨h1,f⟩=>h1▸L.resolve_left f;have am:=V;have Q:(p= .slice ν 0 0)\/(E=g/\S g/\g<w.z)\/E=w.z:=by
  rcases al with⟨h1,_,f|f⟩|⟨h1,_⟩
  .rcases L with q|q
   .exact .inl (f▸q)
   .obtain⟨_,⟨s,_⟩|⟨_,_,_,s,_⟩⟩:=am
    .exact .inl (f▸s)
    .exact .inr (.inl ⟨h1,q,s.lt⟩)
  .exact .inr (.inl ⟨h1,L.resolve_left f.2,f.1⟩)
  .exact .inr (.inr h1)
 refine ah p w' ⟨p,rfl,vs++us,if p= .slice ν 0 0 then w.z else E,λi r=>if i<l.length then F i r/\r<w.z else G (i-l.length) r/\r<w.z,⟨λi r h=>?_,λ_ i h=>?_,λ_ i j r an h1 f=>?_⟩,⟨by simp[he.1,I.1],λi c a hi H=>?_⟩,?_,λ_=>⟨?_,aj,?_⟩⟩ (N.mono λr _ h=>O r h)
 .split at h
  .exact .inl (y.sub i r h.1)
  .exact .inr (.inl ⟨_,h.1⟩)
 .have A:(if p= .slice ν 0 0 then w.z else E)<w.z:=by split at h<;>exact h.2
  split at A
  .omega
  .rename_i ad;rw[if_neg ad]at h;rcases Q with h1|⟨rfl,f,q⟩|h1
   .exact ad h1
   .split at h
    .exact y.top rfl i h.1
    .exact (C _ q f).1 _ h.1
   .omega
 .split at h1<;>split at f
  .exact y.gR rfl i j r an h1.1 f.1
  .exact (C r h1.2 (y.sub i r h1.1)).1 _ f.1
  .exact (C r h1.2 (y.sub j r f.1)).1 _ h1.1
  .exact ae (i-l.length) (j-l.length) r Ω h1.1 f.1
 .have W:∀r,r<w.z->R r->¬(r=g/\v≠ .slice ν 0 0):=λr B h1 f=>(C r B (O r f)).2 h1;by_cases A:i<l.length
  .rw[Y6 (by rw[he.1];exact A)]at hi;rw[Y6 A]at H;simp only[if_pos A];refine au.ab (mZ (he.2 i c a hi H)) N λr B h1 f=>?_;rcases h1 with h1|h1
   .exact y.top rfl i (f.1▸h1.1)
   .exact W r B h1 f
  .rw[Y8 (by rw[he.1];omega),he.1]at hi;rw[Y8 Ω]at H;simp only[if_neg A];refine au.ab (mZ (I.2 _ c a hi H)) N λr B h1 f=>?_;rcases h1 with h1|h1
   .exact (C r B (O r f)).1 _ h1.1
   .exact W r B h1 f
 .rw[r9,List.flatten_append];apply ps M;rcases Q with h1|⟨rfl,f,_⟩|rfl
  .exact .inl h1
  .exact .inr (.inl (.inl f))
  .exact .inr (.inl (.inr (.inr (o4 _))))
 .rcases Q with h1|⟨rfl,f,_⟩|rfl
  .exact .inl h1
  .by_cases ad:p= .slice ν 0 0
   .exact .inl ad
   .rw[if_neg ad];exact .inr (.inl f)
  .split
   .exact .inr (.inr (.inr (o4 _)))
   .exact .inr (.inr (.inr (o4 _)))
 .rw[r9,List.flatten_append];by_cases ad:p= .slice ν 0 0
  .subst ad;obtain⟨q,⟨_,s⟩|⟨_,_,s,_⟩⟩:=M
   .exact⟨q,.inl ⟨rfl,s⟩⟩
   .cases s
  .rw[if_neg ad];exact M
def n5{F:p9}{b:Nat}{x:x1}{l:List α}{a:α}{A:ak}{K:x1->x3->Prop}(B:P.underlying t=σ (.slice e))(hi:aS P e (au.n α) b z)(H:z.cells.size=au.n α)(h:bI S R w [v] l)(J:ck w (au.n α) x 1 cs)(I:bI A R w cs a)(C:∀r,r<w.heap.size->S r->¬(A r\/R r))(f:(l.length+1)*b<=140737488355328)(L:l.length+1<=9223372036854775807)(M:∀p w',bI (λr=>S r\/A r\/w.heap.size<=r) R w' [p] (l++[a])->ai S w w'->K p w'):aE P (Z0 #[t,t] F #[v,x]) w K:=by
 refine J9 (l':=[a]) (us:=[cs]) (G:=λi r=>i=0/\A r) B B hi H h (by simpa using J) ⟨T,λi c b q f=>?_⟩ (λi j r N h1 s=>N (h1.1.trans s.1.symm)) (λr E U=>⟨λi h=>C r E U (.inl h.2),λh=>C r E U (.inr h)⟩) (by simpa using f) (by simpa using L)
  λp w' h1 s=>M p w' (au.mono h1 (λr _ h=>h.imp id (Or.imp (λ⟨_,h⟩=>h.2) id)) λ_ _ h=>h) s
 have y:=(x4.1 q).1;have y:i=0:=by simpa using y
 subst y;simp at q f;subst q f;exact au.mono I (λr _ h=>⟨T,h⟩) λ_ _ h=>h
end
theorem AF:∀(c:List x1)(i:Nat)(z:Array x1),(i+c.length<=z.size)->((c.zipIdx i).foldl (λcs (x:x1×Nat)=>cs.setIfInBounds x.2 x.1) z).toList=z.toList.take i++c++z.toList.drop (i+c.length)
 |[],i,z,h=>Ξ
 |x::r,i,z,h=>by
  simp only[b6]at h;rw[List.zipIdx_cons,T5,AF r (i+1) _ Θ];simp only[Array.toList_setIfInBounds,b6];rw[List.drop_set_of_lt Ω,List.take_set,u9,x6 Θ];simp only[n9];rw[T7 _ _ Θ];have e:i-(z.toList.take i).length=0:=Θ
  rw[e,show i+1+r.length=i+(r.length+1) by omega];simp
def AG{k:Nat}{z:Array x1}(a:z.size=k)(ad:v.cells.size=k):Instr.fill (λj=>σ (j*k,k)) z [(0,v)]=σ v.cells:=by
 have h:=AF v.cells.toList 0 z Θ;simp only[Instr.fill,Nat.zero_mul,X2];rw[if_neg Θ];congr 1;apply Array.toList_inj.1;rw[<-Array.foldl_toList,Array.toList_zipIdx,h];simp;omega
section
variable{P:W8}{w:x3}{α β:Type}[au α][au β]{m:Bool}{S R:ak}
theorem kG{b:Nat}{x:x1}{a:α}{A:ak}{K:x1->x3->Prop}(B:P.underlying t=σ (.slice e))(hi:aS P e (au.n α) b z)(L:au.n α<=100000)(J:x.cells=cs.toArray)(q:bI A R w cs a)(C:∀v w',Ext w w'->bI (λr=>A r\/w.heap.size<=r) R w' [v] [a]->ck w' (au.n α) v 1 cs->K v w'):aE P (Y5 t 1 #[(0,x)]) w K:=by
 have E:=au.len q;refine kD B hi Ω (cs:=x.cells) (AG Ξ (by rw[J];simpa using E)) λg w' M s f=>?_;have f:ag w' g e cs:=by rw[J]at f;simpa using f
 have hm:b1 w' g e (au.n α) (.slice (σ ⟨g,0,ν⟩) 1 1) 1 cs:=b1.full f Ω (by simp[maxLen]);refine C _ w' s ⟨_,T,[cs],g,λi r=>i=0/\A r/\r<w.heap.size,⟨λi r h=>.inl h.2.1,λ_ i h=>Ω,λ_ i j r F h1 G=>F (h1.1.trans G.1.symm)⟩,⟨T,λi c a' p y=>?_⟩,?_,λ_=>⟨.inr (.inr Ω),e,by simpa using hm⟩⟩ hm.sl
 .have H:i=0:=by simpa using(x4.1 p).1
  subst H;simp at p y;subst p y;exact bA (au.mono q (λr I h=>⟨T,h,I⟩) λ_ _ h=>h) s
 .have:=ps (S:=λr=>(A r\/w.heap.size<=r)\/R r) hm (.inr (.inl (.inr Ω)));simpa using this
end
def cp.range{B:x1->x3->(x1->x3->Prop)->Prop}(n:Nat)(I:Nat->x3->Prop)(q:n<=9223372036854775807)(e:I 0 w)(f:∀(i:Nat)(w:x3)(k:x1->x3->Prop),i<n->I i w->(∀w',I (i+1) w'->k (Δ (X6.wrap ((i:Int)+1))) w')->B (Δ (i:Int)) w k)(p:∀(w:x3)(k:x1->x3->Prop),I n w->B (Δ (n:Int)) w k):cp (Δ 0) w B:=by
 refine⟨λt w=>∃i:Nat,t=Δ (i:Int)/\i<=n/\I i w,λt _=>n-(bW t).toNat,⟨0,T,X5 _,e⟩,?_⟩;rintro _ w ⟨i,rfl,hi,h⟩;by_cases a:i<n
 .refine f i w _ a h λw' h'=>⟨⟨i+1,?_,a,h'⟩,?_⟩
  .rw[wrap_i64 Ω Ω];rfl
  .rw[wrap_i64 Ω Ω];simp only[bW];omega
 .have:i=n:=Ω
  subst this;exact p w _ h
def bT.range{a:x1}{B:x1->x1->x3->(x1->x1->x3->Prop)->Prop}(n:Nat)(I:Nat->x1->x3->Prop)(r:n<=9223372036854775807)(f:I 0 a w)(p:∀(i:Nat)(a:x1)(w:x3)(k:x1->x1->x3->Prop),i<n->I i a w->(∀a' w',I (i+1) a' w'->k a' (Δ (X6.wrap ((i:Int)+1))) w')->B a (Δ (i:Int)) w k)(q:∀(a:x1)(w:x3)(k:x1->x1->x3->Prop),I n a w->B a (Δ (n:Int)) w k):bT a (Δ 0) w B:=by
 refine⟨λa t w=>∃i:Nat,t=Δ (i:Int)/\i<=n/\I i a w,λa t _=>n-(bW t).toNat,⟨0,T,X5 _,f⟩,?_⟩;rintro a _ w ⟨i,rfl,hi,h⟩;by_cases e:i<n
 .refine p i a w _ e h λa' w' h'=>⟨⟨i+1,?_,e,h'⟩,?_⟩
  .rw[wrap_i64 Ω Ω];rfl
  .rw[wrap_i64 Ω Ω];simp only[bW];omega
 .have:i=n:=Ω
  subst this;exact q a w _ h
def kz.range{a b:x1}{B:x1->x1->x1->x3->(x1->x1->x1->x3->Prop)->Prop}(n:Nat)(I:Nat->x1->x1->x3->Prop)(s:n<=9223372036854775807)(p:I 0 a b w)(q:∀(i:Nat)(a b:x1)(w:x3)(k:x1->x1->x1->x3->Prop),i<n->I i a b w->(∀a' e w',I (i+1) a' e w'->k a' e (Δ (X6.wrap ((i:Int)+1))) w')->B a b (Δ (i:Int)) w k)(r:∀(a b:x1)(w:x3)(k:x1->x1->x1->x3->Prop),I n a b w->B a b (Δ (n:Int)) w k):kz a b (Δ 0) w B:=by
 refine⟨λa b t w=>∃i:Nat,t=Δ (i:Int)/\i<=n/\I i a b w,λa b t _=>n-(bW t).toNat,⟨0,T,X5 _,p⟩,?_⟩;rintro a b _ w ⟨i,rfl,hi,h⟩;by_cases f:i<n
 .refine q i a b w _ f h λa' e w' h'=>⟨⟨i+1,?_,f,h'⟩,?_⟩
  .rw[wrap_i64 Ω Ω];rfl
  .rw[wrap_i64 Ω Ω];simp only[bW];omega
 .have:i=n:=Ω
  subst this;exact r a b w _ h
def sm.range{a b c:x1}{B:x1->x1->x1->x1->x3->(x1->x1->x1->x1->x3->Prop)->Prop}(n:Nat)(I:Nat->x1->x1->x1->x3->Prop)(x:n<=9223372036854775807)(q:I 0 a b c w)(r:∀(i:Nat)(a b c:x1)(w:x3)(k:x1->x1->x1->x1->x3->Prop),i<n->I i a b c w->(∀a' e f w',I (i+1) a' e f w'->k a' e f (Δ (X6.wrap ((i:Int)+1))) w')->B a b c (Δ (i:Int)) w k)(s:∀(a b c:x1)(w:x3)(k:x1->x1->x1->x1->x3->Prop),I n a b c w->B a b c (Δ (n:Int)) w k):sm a b c (Δ 0) w B:=by
 refine⟨λa b c t w=>∃i:Nat,t=Δ (i:Int)/\i<=n/\I i a b c w,λa b c t _=>n-(bW t).toNat,⟨0,T,X5 _,q⟩,?_⟩;rintro a b c _ w ⟨i,rfl,hi,h⟩;by_cases p:i<n
 .refine r i a b c w _ p h λa' e f w' h'=>⟨⟨i+1,?_,p,h'⟩,?_⟩
  .rw[wrap_i64 Ω Ω];rfl
  .rw[wrap_i64 Ω Ω];simp only[bW];omega
 .have:i=n:=Ω
  subst this;exact s a b c w _ h
def qs.range{a b c d:x1}{B:x1->x1->x1->x1->x1->x3->(x1->x1->x1->x1->x1->x3->Prop)->Prop}(n:Nat)(I:Nat->x1->x1->x1->x1->x3->Prop)(y:n<=9223372036854775807)(r:I 0 a b c d w)(s:∀(i:Nat)(a b c d:x1)(w:x3)(k:x1->x1->x1->x1->x1->x3->Prop),i<n->I i a b c d w->(∀a' e f p w',I (i+1) a' e f p w'->k a' e f p (Δ (X6.wrap ((i:Int)+1))) w')->B a b c d (Δ (i:Int)) w k)(x:∀(a b c d:x1)(w:x3)(k:x1->x1->x1->x1->x1->x3->Prop),I n a b c d w->B a b c d (Δ (n:Int)) w k):qs a b c d (Δ 0) w B:=by
 refine⟨λa b c d t w=>∃i:Nat,t=Δ (i:Int)/\i<=n/\I i a b c d w,λa b c d t _=>n-(bW t).toNat,⟨0,T,X5 _,r⟩,?_⟩;rintro a b c d _ w ⟨i,rfl,hi,h⟩;by_cases q:i<n
 .refine s i a b c d w _ q h λa' e f p w' h'=>⟨⟨i+1,?_,q,h'⟩,?_⟩
  .rw[wrap_i64 Ω Ω];rfl
  .rw[wrap_i64 Ω Ω];simp only[bW];omega
 .have:i=n:=Ω
  subst this;exact x a b c d w _ h
section
variable{P:W8}{w:x3}{m:Bool}{S R:ak}
def Ka(l:Λ):(l.map λx=>[V6 k x]).flatten=ints k l:=by
 induction l with
 |nil=>rfl
 |cons x l a=>simp only[U7,List.flatten_cons,a];rfl
def n7{g:Nat}(h:av .i64 e w g v l):bI (λr=>r=g) R w [v] l:=by
 have ae:(l.map λx=>[V6 .i64 x]).flatten=ints .i64 l:=Ka l;refine⟨v,T,l.map λx=>[Δ x],g,λ_ _=>False,⟨λ_ _ h=>h.elim,λ_ _ h=>h,λ_ _ _ _ _ h=>h.elim⟩,⟨Ξ,λi c a f p=>?_⟩,?_,λ_=>⟨.inr T,e,?_⟩⟩
 .rw[x8,p]at f;simp at f;exact f.symm
 .rw[ae];exact ps h (.inr (.inl T))
 .rw[ae];exact h
def mj.val(x:mj k):Int:=x
def AH(h:bI S R w [v] l):∃g e,av .i64 e w g v l/\(v= .slice ν 0 0\/S g):=by
 have⟨vs,g,F,_,he,U,hm⟩:=jC h;have⟨h1,e,a⟩:=hm T;rw[AE he]at a;exact⟨g,e,a,h1⟩
end
end Go.Vc
namespace Go.Proofs.YtikkpokkcdocoabGreatDoor
open Go Go.Vc Go.RowKit Go.Proofs Go.Proofs.Tryz
set_option maxRecDepth 100000
def right(k:Int):Prop:=1<=k/\k<=2147483648
def cu(a k:Int):Prop:=right k/\0<=a/\a<=k
instance (k:Int):Decidable (right k):=by unfold right;infer_instance
instance (a k:Int):Decidable (cu a k):=by unfold cu;infer_instance
def AI{k:Int}:am x7 Ji [Δ k] w λv w'=>v= .bool (decide (right k))/\Ext w w':=by
 apply az func225;simp only[cz,cO,mV,al];refine⟨λh=>⟨?_,Ext.refl _⟩,λh=>⟨?_,Ext.refl _⟩⟩
 .congr 1;simp[right,h]
 .rw[decide_eq_false];intro a;exact h a.1
def j1{k:Int}:am x7 Iv [Δ a,Δ k] w λv w'=>v= .bool (decide (cu a k))/\Ext w w':=by
 apply az func152;simp only[cz];apply AI.mono;rintro _ V _ ⟨rfl,J⟩;simp only[cO,mV,al];refine⟨λh=>⟨λe=>⟨?_,J⟩,λe=>⟨?_,J⟩⟩,λh=>⟨?_,J⟩⟩
 .congr 1;simp[cu,h,e]
 .rw[decide_eq_false];intro f;exact e f.2.1
 .rw[decide_eq_false];intro f;exact h f.1
def Kb{k:Int}:am x7 Jb [Δ k] w λv w'=>v= .bool (decide (right k))/\Ext w w':=by
 apply az func216;simp only[cz,bJ,mV,al];refine⟨λh=>⟨?_,Ext.refl _⟩,λh=>⟨?_,Ext.refl _⟩⟩
 .congr 1;have h':1<=k:=Ω
  simp[right,h']
 .rw[decide_eq_false];intro a;have:=a.1;omega
def AJ{k:Int}:am x7 Ig [Δ a,Δ k] w λv w'=>v= .bool (decide (cu a k))/\Ext w w':=by
 apply az func135;simp only[cz];apply Kb.mono;rintro _ V _ ⟨rfl,J⟩;simp only[cO,mV,al];refine⟨λh=>⟨λe=>⟨?_,J⟩,λe=>⟨?_,J⟩⟩,λh=>⟨?_,J⟩⟩
 .congr 1;simp[cu,h,e]
 .rw[decide_eq_false];intro f;exact e f.2.1
 .rw[decide_eq_false];intro f;exact h f.1
def aQ:Λ->Int
 |[]=>1
 |x::r=>x*aQ r
theorem AK:∀(a b:Λ),aQ (a++b)=aQ a*aQ b
 |[],b=>by simp[aQ]
 |x::a,b=>by simp[aQ,AK a b,Int.mul_assoc]
def sX{i:Nat}{x:Int}(h:l[i]?=σ x):aQ (l.take (i+1))=aQ (l.take i)*x:=by
 rw[u9,h,AK];simp[aQ]
def cb(l:Λ):Prop:=l.length<=6/\∀x∈l,1<=x/\x<=32
def cb.take(h:cb l)(i:Nat):cb (l.take i):=⟨by rw[l9];have:=h.1;omega,λx J=>h.2 x (T9 J)⟩
def cb.drop(h:cb l)(i:Nat):cb (l.drop i):=⟨by rw[List.length_drop];have:=h.1;omega,λx J=>h.2 x (List.mem_of_mem_drop J)⟩
theorem m7:∀(l:Λ),(∀x∈l,1<=x/\x<=32)->1<=aQ l/\aQ l<=32 ^ l.length
 |[],_=>by simp[aQ]
 |x::r,h=>by
  have⟨h1,a⟩:=m7 r λy e=>h y (.tail _ e);have⟨f,p⟩:=h x (.head _);simp only[aQ,b6];constructor
  .have:=Int.mul_le_mul f h1 Ω Ω;simpa using this
  .have:=Int.mul_le_mul p a Ω Ω;rw[Int.pow_succ];rw[Int.mul_comm (32 ^ r.length) 32];exact this
def prod_bound(h:cb l):1<=aQ l/\aQ l<=1073741824:=by
 have⟨h1,a⟩:=m7 l h.2;refine⟨h1,Int.le_trans a ?_⟩;have:(32:Int) ^ l.length<=32 ^ 6:=by
  have e:=h.1
  match l.length,e with
  |0,_=>decide
  |1,_=>decide
  |2,_=>decide
  |3,_=>decide
  |4,_=>decide
  |5,_=>decide
  |6,_=>decide
 simpa using this
def cq:Λ->Λ->Int->Option Int
 |[],[],n=>σ n
 |k::s,v::t,n=>if 0<=v/\v<k then cq s t (n*k+v)else ν
 |_,_,_=>ν
theorem vV:∀(s t:Λ)(n:Int),s.length≠t.length->cq s t n=ν
 |[],[],_,h=>absurd T h
 |[],_::_,_,_=>rfl
 |_::_,[],_,_=>rfl
 |k::s,v::t,n,h=>by
  unfold cq;split
  .exact vV s t _ (by simpa using h)
  .rfl
def cR:Λ->Int->Λ
 |[],_=>[]
 |k::s,n=>(n / aQ s) % k::cR s n
theorem jD:∀(s:Λ)(n:Int),(cR s n).length=s.length
 |[],_=>rfl
 |_::s,n=>by simp[cR,jD s n]
theorem AL:∀{s:Λ}{n:Int}{i:Nat}{k:Int},s[i]?=σ k->(cR s n)[i]?=σ ((n / aQ (s.drop (i+1))) % k)
 |a::s,n,0,k,h=>by simp at h;subst h;simp[cR]
 |a::s,n,i+1,k,h=>by
  simp only[List.getElem?_cons_succ]at h;simp only[cR,List.getElem?_cons_succ,List.drop_succ_cons];exact AL h
theorem n8:∀{s t:Λ}{m n:Int},(∀x∈s,1<=x/\x<=32)->cq s t m=σ n->m*aQ s<=n/\n<(m+1)*aQ s
 |[],[],m,n,_,h=>by simp[cq]at h;subst h;simp[aQ];omega
 |k::s,v::t,m,n,U,h=>by
  unfold cq at h;split at h
  .rename_i ad;have a:=n8 (λx J=>U x (.tail _ J)) h;have:=(m7 s λx J=>U x (.tail _ J)).1;simp only[aQ];have e:m*(k*aQ s)=m*k*aQ s:=(Int.mul_assoc _ _ _).symm;have f:(m+1)*(k*aQ s)=(m*k+k)*aQ s:=by rw[<-Int.mul_assoc,Int.add_mul,Int.one_mul]
   rw[e,f];constructor
   .refine Int.le_trans ?_ a.1;exact Int.mul_le_mul_of_nonneg_right Ω Ω
   .refine Int.lt_of_lt_of_le a.2 ?_;exact Int.mul_le_mul_of_nonneg_right Ω Ω
  .cases h
 |[],_::_,_,_,_,h=>by cases h
 |_::_,[],_,_,_,h=>by cases h
def bm:Λ->List (Λ)
 |[]=>[[]]
 |k::s=>(Y1 k.toNat).flatMap λ(v:Nat)=>(bm s).map λt=>(v:Int)::t
theorem iz:∀{s:Λ},(∀x∈s,1<=x/\x<=32)->(bm s).length=(aQ s).toNat
 |[],_=>rfl
 |k::s,h=>by
  have a:=iz (s:=s) λx J=>h x (.tail _ J);have:=h k (.head _);have:=(m7 s λx J=>h x (.tail _ J)).1;simp only[bm,aQ,List.length_flatMap,r8,a];rw[List.map_const',List.length_range,List.sum_replicate_nat,Int.toNat_mul Ω Ω]
theorem sY:∀{s x:Λ},x∈bm s->x.length=s.length
 |[],x,h=>by simp[bm]at h;subst h;rfl
 |k::s,x,h=>by
  simp only[bm,R2,j5]at h;obtain⟨v,_,t,a,rfl⟩:=h;simp[sY a]
def vW{s x:Λ}(h:(bm s)[j]?=σ x):x.length=s.length:=sY (x5 h)
def pt(h:aI .i64 w sv l)(U:cb l):
  am x7 HY [.agg #[sv]] w λv w'=>v=Δ (aQ l)/\Ext w w':=by
 apply az func100;refine bd λg w0 r e f=>?_;rw[aL bF.p 0 f T,aW an.u (h.ext e)];refine⟨λn t V=>Ext w V/\∃i:Nat,t=Δ i/\i<=l.length/\n=Δ (aQ (l.take i)),λ_ t _=>l.length-(bW t).toNat,⟨e,0,T,X5 _,T⟩,?_⟩;rintro _ _ V ⟨J,i,rfl,hi,rfl⟩;have s:=U.1;simp only[aP,al];refine⟨λy=>?_,λz=>⟨?_,J⟩⟩
 .obtain⟨x,a⟩:=aH (l:=l) (i:=i) Ω;rw[bc an.u ah.i Ψ (h.ext J) a];have q:=prod_bound (U.take (i+1));rw[sX a]at q;simp only[h9,aN];rw[wrap_i64 Ω Ω,wrap_i64 Ω Ω,<-sX a];refine⟨⟨J,i+1,T,Ω,T⟩,?_⟩;simp only[bW];omega
 .have:i=l.length:=Ω
  rw[this,o6]
def Kc{i:Nat}(h:aI .i64 w sv l)(U:cb l)(hi:i<l.length):
  am x7 II [.agg #[sv],Δ i] w λv w'=>v=Δ (aQ (l.drop (i+1)))/\Ext w w':=by
 have:=U.1;apply az func177;refine bd λg w0 E f r=>?_;have a:=h.ext f;simp only[cz,aP,al];refine⟨λG=>Ω,λ_=>?_⟩;rw[aL bF.p 0 r T,aW an.u a];simp only[cO,al];refine⟨λH=>Ω,λ_=>?_⟩;rw[aL bF.p 0 r T];simp only[aN];have s:X6.wrap ((i:Int)+1)=((i+1:Nat):Int):=by rw[wrap_i64 Ω Ω];omega
 rw[s];have y:=a;obtain⟨_,b,o,base,cap,rfl,I,J,K,L⟩:=id a;rw[hj an.u ah.i (l:=i+1) (h:=l.length) (m:=cap) pq jy fh Ω Ω Ω];have e:=ck.part (l:=i+1) (h:=l.length) (m:=cap) y Ω Ω Ω Ω;generalize z:(x1.slice (if cap=i+1 then base else V7 (λx=>x.add ((i+1)*1)) base) (l.length-(i+1)) (cap-(i+1)))=q at e ⊢;have A:((ints .i64 l).drop ((i+1)*1)).take ((l.length-(i+1))*1)=ints .i64 (l.drop (i+1)):=by
  rw[b8 Ξ,U2,ints,<-List.map_drop]
 rw[A]at e;rw[cY (cs:=#[q]) (by subst z;kernel_rfl)];apply(pt (aI.of e) (U.drop (i+1))).mono;rintro _ aa _ ⟨rfl,B⟩;exact⟨T,f.trans B⟩
def ln(s t:Λ):x1:=match cq s t 0 with
 |some n=>.tuple #[Δ n,Δ 0]
 |none=>.tuple #[Δ 0,Δ 3]
def AM{s t:Λ}(h:aI .i64 w sv s)(q:aI .i64 w aM t)(U:cb s):
  am x7 IJ [.agg #[sv],aM] w λv w'=>v=ln s t/\Ext w w':=by
 have H:=U.1;apply az func178;refine bd λg w0 I a r=>?_;rw[aW an.u (q.ext a),aL bF.p 0 r T,aW an.u (h.ext a)];simp only[bB,al];refine⟨λK=>⟨?_,a⟩,λz=>?_⟩
 .unfold ln;rw[vV _ _ _ Ω]
 .have z:s.length=t.length:=Ω
  rw[aW an.u (q.ext a)];refine⟨λ_ _ n c V=>Ext w0 V/\∃(i:Nat)(m:Int),c=Δ i/\i<=t.length/\n=Δ m/\0<=m/\m<aQ (s.take i)/\cq s t 0=cq (s.drop i) (t.drop i) m,λ_ _ _ c _=>t.length-(bW c).toNat,
   ⟨Ext.refl _,0,0,T,X5 _,T,Int.le_refl _,by simp[aQ],T⟩,?_⟩
  rintro _ _ _ _ V ⟨f,i,m,rfl,hi,rfl,A,L,e⟩;have J:=a.trans f;simp only[aP,al];refine⟨λM=>?_,λN=>⟨?_,J⟩⟩
  .obtain⟨v,ad,B⟩:∃v,t[i]?=σ v/\t.drop i=v::t.drop (i+1):=⟨t[i],x6 Ω,X4 Ω⟩;obtain⟨k,hk,C⟩:∃k,s[i]?=σ k/\s.drop i=k::s.drop (i+1):=⟨s[i],x6 Ω,X4 Ω⟩;rw[B,C]at e;have E:=prod_bound (U.take (i+1));have O:=prod_bound (U.take i);have P:=U.2 k (x5 hk);rw[sX hk]at E;have y:¬(0<=v/\v<k)->ln s t= .tuple #[Δ 0,Δ 3]:=λG=>by unfold ln;rw[e];simp[cq,G]
   rw[bc an.u ah.i Ψ (q.ext J) ad];simp only[cz,aP,al,bV];refine⟨λQ=>⟨(y Ω).symm,J⟩,λR=>?_⟩;rw[aL bF.p 0 (r.ext f) T,bc an.u ah.i Ψ (h.ext J) hk];simp only[cO,al];refine⟨λS=>⟨(y Ω).symm,J⟩,λW=>?_⟩;rw[aL bF.p 0 (r.ext f) T,bc an.u ah.i Ψ (h.ext J) hk];have X:0<=m*k/\m*k+k<=aQ (s.take i)*k:=by
    constructor
    .exact Int.mul_nonneg A Ω
    .have:=Int.mul_le_mul_of_nonneg_right (show m+1<=aQ (s.take i) by omega) (show 0<=k by omega);rw[Int.add_mul,Int.one_mul]at this;exact this
   simp only[h9,aN];rw[wrap_i64 (x:=m*k) Ω Ω,wrap_i64 (x:=m*k+v) Ω Ω,wrap_i64 (x:=(i:Int)+1) Ω Ω];refine⟨⟨f,i+1,m*k+v,T,Ω,T,Ω,by rw[sX hk];omega,?_⟩,?_⟩
   .rw[e];simp[cq,show 0<=v/\v<k from⟨Ω,Ω⟩]
   .simp only[bW];omega
  .have:i=t.length:=Ω
   rw[this,List.drop_of_length_le Ω,List.drop_of_length_le Ω]at e;unfold ln;rw[e];rfl
def Kd{e:Nat}{a b:Λ}(h1:ck w 1 s1 e (ints .i64 a))(A:ck w 1 z h (ints .i64 b)):
  am x7 Ab [s1,z] w λv w'=>v= .bool (decide (a=b))/\Ext w w':=by
 have P:a.length=e:=by simpa using h1.1
 have Q:b.length=h:=by simpa using A.1
 have B:=h1.le;obtain⟨_,R,S,U,W,rfl,X,Y,G,H⟩:=h1;obtain⟨_,Z,ab,ac,ad,rfl,ae,af,I,K⟩:=A;apply az func195;simp only[hI an.u,bB,al];refine⟨λC=>⟨?_,Ext.refl _⟩,λE=>?_⟩
 .rw[decide_eq_false];rintro rfl;omega
 .have E:e=h:=Ω
  refine⟨λt4 p V=>Ext w V/\∃i:Nat,p=Δ i/\i<=e/\a.take i=b.take i,λ_ p _=>e-(bW p).toNat,⟨Ext.refl _,0,T,X5 _,T⟩,?_⟩;rintro t4 _ V ⟨J,i,rfl,hi,q⟩;simp only[aP,al,ev];refine⟨λr aa L _ _=>?_,λag=>⟨?_,J⟩⟩
  .have r:i<e:=Ω
   have J:=J.trans L;have⟨x,s⟩:=aH (l:=a) (i:=i) Ω;have⟨y,f⟩:=aH (l:=b) (i:=i) Ω;have M:=iW J (H i _ (lk s));have N:=iW J (K i _ (lk f));rw[fg an.u ah.i r G,U2,ax Ψ M,fg an.u ah.i (E▸r) I,U2,ax Ψ N];simp only[bB,al,aN];refine⟨λC=>⟨?_,J⟩,λai=>⟨⟨J,i+1,?_,Ω,vT q s f Ω⟩,?_⟩⟩
   .rw[decide_eq_false];rintro rfl;rw[s]at f;cases f;exact C T
   .rw[wrap_i64 Ω (by simp only[maxLen]at B;omega)];rfl
   .rw[wrap_i64 Ω (by simp only[maxLen]at B;omega)];simp only[bW];omega
  .have O:i=e:=Ω
   subst O;rw[decide_eq_true];rw[b8 Ω,b8 Ω]at q;exact q
def Ke{s:x1}{a:Λ}(h1:ck w 1 s n (ints .i64 a))(B:n<=1000000):
  am x7 z6 [s] w λv w'=>Ext w w'/\∃g,w.heap.size<=g/\b1 w' g ah 1 v n (ints .i64 a):=by
 have f:=h1;obtain⟨p,C,E,G,H,rfl,I,K,q,L⟩:=h1;apply az func159;simp only[mW an.u,ca];refine⟨λe=>⟨Ext.refl _,w.z,o4 _,?_⟩,λ_=>?_⟩
 .have:n=0:=by
   rcases Q3 n with h|h
   .exact h
   .rw[q h]at e;cases e
  subst this;have:ints .i64 a=[]:=j6 (by simpa using p);rw[this];exact b1.nil _ _ _ _
 .refine kD an.u ah.i Ω (cs:=#[]) Ψ ?_;intro g V M J x;refine n3 (g:=g) an.u an.u ah.i T (b1.full x T Ω) (f.ext J) (qG _ _) Ω (by simp only[maxLen];omega) ?_;intro N y aa O z A;refine⟨J.then A (by rintro r P rfl;omega),y,?_,?_⟩
  .have:=J.size;omega
  .simpa using z
def Kf{e:Nat}{a b:Λ}(h1:ck w 1 s1 e (ints .i64 a))(A:ck w 1 z h (ints .i64 b)):
  am x7 zK [s1,z] w λv w'=>v= .bool (decide (a=b))/\Ext w w':=by
 have P:a.length=e:=by simpa using h1.1
 have Q:b.length=h:=by simpa using A.1
 have B:=h1.le;obtain⟨_,R,S,U,W,rfl,X,Y,G,H⟩:=h1;obtain⟨_,Z,ab,ac,ad,rfl,ae,af,I,K⟩:=A;apply az func17;simp only[hI ay.u,bB,al];refine⟨λC=>⟨?_,Ext.refl _⟩,λE=>?_⟩
 .rw[decide_eq_false];rintro rfl;omega
 .have E:e=h:=Ω
  refine⟨λt4 p V=>Ext w V/\∃i:Nat,p=Δ i/\i<=e/\a.take i=b.take i,λ_ p _=>e-(bW p).toNat,⟨Ext.refl _,0,T,X5 _,T⟩,?_⟩;rintro t4 _ V ⟨J,i,rfl,hi,q⟩;simp only[aP,al,ev];refine⟨λr aa L _ _=>?_,λag=>⟨?_,J⟩⟩
  .have r:i<e:=Ω
   have J:=J.trans L;have⟨x,s⟩:=aH (l:=a) (i:=i) Ω;have⟨y,f⟩:=aH (l:=b) (i:=i) Ω;have M:=iW J (H i _ (lk s));have N:=iW J (K i _ (lk f));rw[fg ay.u aq.i r G,U2,ax Ψ M,fg ay.u aq.i (E▸r) I,U2,ax Ψ N];simp only[bB,al,aN];refine⟨λC=>⟨?_,J⟩,λah=>⟨⟨J,i+1,?_,Ω,vT q s f Ω⟩,?_⟩⟩
   .rw[decide_eq_false];rintro rfl;rw[s]at f;cases f;exact C T
   .rw[wrap_i64 Ω (by simp only[maxLen]at B;omega)];rfl
   .rw[wrap_i64 Ω (by simp only[maxLen]at B;omega)];simp only[bW];omega
  .have O:i=e:=Ω
   subst O;rw[decide_eq_true];rw[b8 Ω,b8 Ω]at q;exact q
def Kg{s:x1}{a:Λ}(h1:ck w 1 s n (ints .i64 a))(B:n<=1000000):
  am x7 Ad [s] w λv w'=>Ext w w'/\∃g,w.heap.size<=g/\b1 w' g aq 1 v n (ints .i64 a):=by
 have f:=h1;obtain⟨p,C,E,G,H,rfl,I,K,q,L⟩:=h1;apply az func208;simp only[mW ay.u,ca];refine⟨λe=>⟨Ext.refl _,w.z,o4 _,?_⟩,λ_=>?_⟩
 .have:n=0:=by
   rcases Q3 n with h|h
   .exact h
   .rw[q h]at e;cases e
  subst this;have:ints .i64 a=[]:=j6 (by simpa using p);rw[this];exact b1.nil _ _ _ _
 .refine kD ay.u aq.i Ω (cs:=#[]) Ψ ?_;intro g V M J x;refine n3 (g:=g) ay.u ay.u aq.i T (b1.full x T Ω) (f.ext J) (qG _ _) Ω (by simp only[maxLen];omega) ?_;intro N y aa O z A;refine⟨J.then A (by rintro r P rfl;omega),y,?_,?_⟩
  .have:=J.size;omega
  .simpa using z
def Kh{e:x1}{a b:Λ}(h1:aI .i64 w s1 a)(f:aI .i64 w e b):
  am x7 Ab [s1,e] w λv w'=>v= .bool (decide (a=b))/\Ext w w':=Kd h1 f
def kH{s:x1}{a:Λ}(h1:aI .i64 w s a)(e:a.length<=1000000):
  am x7 z6 [s] w λv w'=>Ext w w'/\∃g,w.heap.size<=g/\av .i64 ah w' g v a:=Ke h1 e
def Ki{e:x1}{a b:Λ}(h1:aI .i64 w s1 a)(f:aI .i64 w e b):
  am x7 zK [s1,e] w λv w'=>v= .bool (decide (a=b))/\Ext w w':=Kf h1 f
def vX{s:x1}{a:Λ}(h1:aI .i64 w s a)(e:a.length<=1000000):
  am x7 Ad [s] w λv w'=>Ext w w'/\∃g,w.heap.size<=g/\av .i64 aq w' g v a:=Kg h1 e
def Kj{n:Int}(h:aI .i64 w sv l)(U:cb l)(y:0<=n)(X:n<aQ l):
  am x7 HZ [.agg #[sv],Δ n] w λv w'=>Ext w w'/\∃aM g,v= .tuple #[aM,Δ 0]/\w.heap.size<=g/\av .i64 ah w' g aM (cR l n):=by
 have:=U.1;have:=prod_bound U;apply az func101;refine bd λg w0 ab z a=>?_;have:=h.cells;simp only[cz,aP,al];refine⟨λad=>Ω,λ_=>?_⟩;rw[bR bF.p bF.i T a.range];apply(pt (h.ext z) U).mono;rintro _ V _ ⟨rfl,f⟩;simp only[cO,al];refine⟨λae=>Ω,λ_=>?_⟩;have q:=z.trans f;rw[aL bF.p 0 (a.ext f) T,aW an.u (h.ext q)];apply j0 an.u ah.i Ω Ω;intro G aa af A K;simp only[hI an.u];have L:=q.trans A;have:=z.size;have:=f.size;have:=a.lt;refine⟨λt s=>Ext w s/\Ext w0 s/\∃i:Nat,t=Δ i/\i<=l.length/\ag s G ah (ints .i64 ((cR l n).take i++p8 (l.length-i) 0)),λt _=>l.length-(bW t).toNat,
  ⟨L,f.trans A,0,T,X5 _,by simpa using K⟩,?_⟩
 rintro _ s ⟨B,C,i,rfl,hi,H⟩;simp only[aP,al];refine⟨λE=>?_,λaj=>?_⟩
 .have E:i<l.length:=Ω
  rw[bR bF.p bF.i T (a.ext C).range];apply(Kc (h.ext B) U E).mono;rintro _ ak _ ⟨rfl,M⟩;simp only[ev];intro ao N _ _;have x:=M.trans N;have I:=B.trans x;obtain⟨k,hk⟩:∃k,l[i]?=σ k:=⟨l[i],x6 Ω⟩;have:=U.2 k (x5 hk);have:=prod_bound (U.drop (i+1));have O:0<=n / aQ (l.drop (i+1)):=Int.ediv_nonneg y Ω;have au:n / aQ (l.drop (i+1))<=n:=Int.ediv_le_self _ y;rw[sR Ω,Int.tdiv_eq_ediv_of_nonneg y,wrap_i64 Ω Ω,
   aL bF.p 0 ((a.ext C).ext x) T,bc an.u ah.i Ψ (h.ext I) hk,
   sS Ω,Int.tmod_eq_emod_of_nonneg O,fg an.u ah.i E (λ_=>rfl),U2]
  refine bq ah.i T rfl (H.ext x) (by simp[jD];omega) ?_;intro aw J ax P;simp only[aN];rw[wrap_i64 Ω Ω];have:=A.size;have:=q.size;refine⟨⟨I.then J (by rintro r Q rfl;omega),(C.trans x).then J (by rintro r Q rfl;omega),i+1,T,Ω,?_⟩,?_⟩
  .have R:=AL (n:=n) hk;have e:(ints .i64 ((cR l n).take i++p8 (l.length-i) 0)).set (0+i) (Δ (n / aQ (l.drop (i+1)) % k))=ints .i64 ((cR l n).take (i+1)++p8 (l.length-(i+1)) 0):=by
    have S:((cR l n).take i).length=i:=by rw[l9,jD];omega
    rw[X2,ints,<-U5];congr 1;rw[List.set_append,if_neg Ω,S,U4,show l.length-i=(l.length-(i+1))+1 by omega,List.replicate_succ,List.set_cons_zero,u9,R];simp
   rw[<-e];exact P
  .simp only[bW];omega
 .have W:i=l.length:=Ω
  subst W;refine⟨B,_,G,T,by have:=q.size;omega,av.of (n:=l.length) (b1.full ?_ (by simp[ints,jD]) (by simp[maxLen];omega))⟩;have e:(cR l n).take l.length++p8 (l.length-l.length) 0=cR l n:=by rw[U4,b8 (by rw[jD];omega)];simp
  rw[<-e];exact H
def iA(x:Int):Prop:=1<=x/\x<=32
instance (x:Int):Decidable (iA x):=by unfold iA;infer_instance
def Kk{x:Int}:am x7 sM [Δ x] w λv w'=>v= .bool (decide (¬iA x))/\Ext w w':=by
 apply az func290;simp only[cz,aP,bJ,al];refine⟨λh=>⟨?_,Ext.refl _⟩,λh=>⟨?_,Ext.refl _⟩⟩
 .rw[decide_eq_true];intro a;have:=a.1;omega
 .congr 1;have:(32<x)=(¬iA x):=propext ⟨λe a=>by have:=a.2;omega,λe=>by
   by_cases f:32<x
   .exact f
   .exact absurd ⟨Ω,Ω⟩ e⟩
  simp only[this]
def Kl(h:aI .i64 w sv l):
  am x7 vG [sv,.func (.func sM) #[] #[]] w λv w'=>Ext w w'/\∃n:Int,v=Δ n/\((0<=n)=¬∀x∈l,iA x):=by
 have z:=h.le;apply az func133;rw[aW an.u h];refine⟨λ_ t V=>Ext w V/\∃i:Nat,t=Δ i/\i<=l.length/\∀x∈l.take i,iA x,λ_ t _=>l.length-(bW t).toNat,⟨Ext.refl _,0,T,X5 _,Ξ⟩,?_⟩;rintro _ _ V ⟨J,i,rfl,hi,e⟩;simp only[aP,al];refine⟨λA=>?_,λB=>⟨J,-1,T,?_⟩⟩
 .obtain⟨x,f⟩:=aH (l:=l) (i:=i) Ω;rw[bc an.u ah.i Ψ (h.ext J) f];show am x7 sM [Δ x] V _;apply Kk.mono;rintro _ aa _ ⟨rfl,p⟩;simp only[al,aN];refine⟨λq=>⟨J.trans p,i,T,?_⟩,λr=>?_⟩
  .exact propext ⟨λ_ s=>q (s x (x5 f)),λ_=>Ω⟩
  .rw[wrap_i64 Ω Ω];refine⟨⟨J.trans p,i+1,T,Ω,λy a=>?_⟩,?_⟩
   .rw[u9,f]at a;rcases o5.1 a with a|a
    .exact e y a
    .simp at a;subst a;exact Z9.1 r
   .simp only[bW];omega
 .have:i=l.length:=Ω
  rw[this,o6]at e;exact propext ⟨λh=>Ω,λh=>absurd e h⟩
def Km(h:aI .i64 w sv l):
  am x7 vJ [sv,.func (.func sM) #[] #[]] w λv w'=>v= .bool (decide (¬∀x∈l,iA x))/\Ext w w':=by
 apply az func235;apply(Kl h).mono;rintro _ V _ ⟨J,n,rfl,a⟩;simp only[cO];exact⟨by congr 1;simp only[a],J⟩
def Kn(w:x3)(l:Λ)(v:x1)(w':x3):Prop:=
 Ext w w'/\
   (¬cb l->v= .tuple #[.agg #[.slice ν 0 0],Δ 1])/\
   (cb l->4096<aQ l->v= .tuple #[.agg #[.slice ν 0 0],Δ 5])/\
   (cb l->aQ l<=4096->∃g aM,v= .tuple #[.agg #[aM],Δ 0]/\w.heap.size<=g/\av .i64 ah w' g aM l)
def Ko(h:aI .i64 w sv l):am x7 Jx [sv] w (Kn w l):=by
 apply az func257;refine bu bF.i λY V aw a s=>?_;have:=s.lt;refine aV (λv aa=>Ext w aa/\Ext V aa/\∃c:Bool,v= .bool c/\((c=true)=¬cb l)) ?_ ?_
 .rintro _ aa ⟨J,x,c,rfl,H⟩;simp only[ca];refine⟨λZ=>?_,λae=>?_⟩
  .have I:¬cb l:=by rw[<-H];exact Z
   rw[cY (cs:=#[.slice ν 0 0]) Ψ];refine cd (vs:=[.slice ν 0 0]) bF.i T rfl (by simp;rfl) (s.ext x) ?_;intro ay ac aB ad;rw[fQ bF.p bF.i T ad.range];exact⟨J.then ac (by rintro r y rfl;omega),λ_=>rfl,λh=>absurd h I,λh=>absurd h I⟩
  .have e:cb l:=by
    have K:¬(c=true):=by simp[ae]
    rw[H]at K;exact Classical.not_not.1 K
   have:=e.1;apply(kH (h.ext J) Ω).mono;rintro aM L _ ⟨z,M,aD,hm⟩;have N:=hm.ls.cells;rw[cY (cs:=#[aM]) (by obtain⟨_,_,_,_,_,rfl,_⟩:=hm.ls;kernel_rfl)];refine bu bF.i λgs aE aF A af=>?_;refine cd (vs:=[aM]) bF.i T rfl (by intro u hu;simp at hu;subst hu;exact N.2) af ?_;intro B O aG P;rw[bR bF.p bF.i T P.range];have:=z.size;have:=A.size;have:=x.size;have aL:ai (λr=>r=gs) L B:=(A.ab _).trans O;have C:Ext L B:=A.then O (by rintro r y rfl;omega);have aj:=(J.trans z).trans C;have Q:av .i64 ah B M aM l:=hm.ext C;apply(pt Q.ls e).mono;rintro _ ak _ ⟨rfl,f⟩;have R:=aj.trans f;have S:ag ak Y bF [.slice ν 0 0]:=s.ext (((x.trans z).trans C).trans f);simp only[bJ,al];refine⟨λao=>?_,λap=>?_⟩
   .rw[cY (cs:=#[.slice ν 0 0]) Ψ];refine cd (vs:=[.slice ν 0 0]) bF.i T rfl (by simp;rfl) S ?_;intro aq q au E;rw[fQ bF.p bF.i T E.range];exact⟨R.then q (by rintro r y rfl;omega),λh=>absurd e h,λ_ _=>rfl,λ_ h=>Ω⟩
   .rw[bR bF.p bF.i T (P.ext f).range];refine cd (vs:=[aM]) bF.i T rfl (by intro u hu;simp at hu;subst hu;exact N.2) S ?_;intro aq q au E;rw[fQ bF.p bF.i T E.range];have:=a.size;exact⟨R.then q (by rintro r y rfl;omega),λh=>absurd e h,λ_ h=>Ω,λ_ _=>⟨M,aM,T,Ω,(Q.ext f).ab q Ω⟩⟩
 .intro aA W;rw[aW an.u (h.ext a)];simp only[bJ,al];refine⟨λao=>W _ _ ⟨a,Ext.refl _,true,T,?_⟩,λap=>?_⟩
  .exact propext ⟨λ_ U=>by have:=U.1;omega,λ_=>rfl⟩
  .refine (Km (h.ext a)).mono ?_;rintro _ aa _ ⟨rfl,X⟩;refine W _ _ ⟨a.trans X,X,_,T,?_⟩;rw[decide_eq_true_eq];exact propext ⟨λG U=>G U.2,λG U=>G ⟨Ω,U⟩⟩
def vY{P:W8}(f:0<=a)(h1:a<4294967296):
  ac P (aO .and t cx cy (.int .u64 a) (.int .u64 4294967295)) w K=K (.int .u64 a):=ac.of λw' _=>by
 obtain⟨n,rfl⟩:=X7 f;have:n<4294967296:=Ω
 have e:(T0 64 (n:Int) &&& T0 64 4294967295).toNat=n:=by
  rw[BitVec.toNat_and,BitVec.toNat_ofInt,BitVec.toNat_ofInt];have h:((n:Int) % ((2 ^ 64:Nat):Int)).toNat=n:=Ω
  have p:((4294967295:Int) % ((2 ^ 64:Nat):Int)).toNat=2 ^ 32-1:=Φ
  rw[h,p,Nat.and_two_pow_sub_one_eq_mod];omega
 have q:(T0 U6.bits (n:Int) &&& T0 U6.bits 4294967295).toNat=n:=e;simp only[aO,eqGuard,binOp,Op.intBits,q];rw[wrap_u64 Ω Ω];rfl
def qL{P:W8}(f:0<=a)(h1:a<4294967296):
  ac P (aO .shr t cx cy (.int .u64 a) (.int .u64 32)) w K=K (.int .u64 0):=ac.of λw' _=>by
 have e:a.fdiv (2 ^ min 32 U6.bits)=0:=by
  have:(2:Int) ^ min 32 U6.bits=4294967296:=rfl;rw[this,Int.fdiv_eq_ediv_of_nonneg _ Ω];omega
 simp[aO,eqGuard,binOp,Op.shift,e]
def Kp{x:Int}(J:0<=x/\x<65536)(e:0<=y/\y<65536):
  am x7 JO [.int .u64 x,.int .u64 y] w λv w'=>v= .tuple #[.int .u64 0,.int .u64 (x*y)]/\Ext w w':=by
 have h:0<=x*y/\x*y<4294967296:=⟨Int.mul_nonneg J.1 e.1,by
  have:x*y<=65535*65535:=Int.mul_le_mul Ω Ω e.1 Ω;omega⟩
 apply az func291;refine am.mono (K:=λv w'=>v= .tuple #[.int .u64 0,.int .u64 (x*y)]/\Ext w w') ?_ ?_
 .refine az func304 ?_;rw[vY Ω Ω,qL Ω Ω,vY Ω Ω,qL Ω Ω];simp only[h9,Int.zero_mul,Int.mul_zero];rw[wrap_u64 (x:=x*y) Ω Ω,show U6.wrap 0=0 from T,qL (a:=x*y) Ω Ω];simp only[aN,Int.add_zero];rw[show U6.wrap 0=0 from T,vY Ω Ω,qL Ω Ω];simp only[h9,aN,Int.zero_mul,Int.mul_zero,Int.add_zero,show U6.wrap 0=0 from T];rw[qL Ω Ω];simp only[h9,aN,Int.add_zero,show U6.wrap 0=0 from T];exact⟨trivial,Ext.refl _⟩
 .rintro _ V _ ⟨rfl,f⟩;rw[bo,bp];exact⟨T,f⟩
def AN{dj:x1}{c:Int}(h:aI .i64 w dj [c])(X:n<65536):
  am x7 Jy [dj,Δ n] w λv w'=>Ext w w'/\∃g,w.heap.size<=g/\av .i64 aq w' g v (p8 n c):=by
 apply az func258;refine dc (λV=>w=V) ?_ ?_
 .rintro _ rfl;rw[aW ay.u h,fq ah.u pn.u,fq ah.u pn.u,wrap_u64 Ξ Ξ,wrap_u64 Ω Ω];apply(Kp (x:=([c].length:Int)) Ξ Ω).mono;rintro _ aa _ ⟨rfl,z⟩;rw[bo,bp];have E:(([c].length:Int)*n)=(n:Int):=Ξ
  rw[E];refine dc (λa=>aa=a) ?_ ?_
  .rintro _ rfl;rw[fq pn.u ah.u,wrap_i64 Ω Ω];apply j0 ay.u aq.i Ω Ω;intro g Y Z G H;have J:=z.trans G;have ab:=z.size;apply Az ay.u aq.i H (o:=0) (λ_=>rfl) Ξ (h.ext J) (qG _ _);intro ac I ad A;have K:=J.then I (by rintro r L rfl;omega);have st:over (ints .i64 (p8 n 0)) 0 ((ints .i64 [c]).take n)=ints .i64 (p8 (min 1 n) c++p8 (n-min 1 n) 0):=by
    rcases Q3 n with rfl|e
    .simp[over]
    .rw[b8 Θ,mY Θ];have:min 1 n=1:=Ω
     simp[this,ints]
   rw[st]at A;refine⟨λt f=>Ext w f/\∃i:Nat,t=Δ i/\i<=n/\(0<n->0<i)/\ag f g aq (ints .i64 (p8 i c++p8 (n-i) 0)),λt _=>n-(bW t).toNat,
    ⟨K,min 1 n,Ξ,Ω,Ω,A⟩,?_⟩
   rintro _ f ⟨p,i,rfl,hi,ae,q⟩;simp only[hI ay.u,aP,al,ev];refine⟨λM N s _ _=>?_,λaf=>?_⟩
   .have M:i<n:=Ω
    have B:=q.ext s;rw[hj ay.u aq.i (l:=i) (h:=n) (m:=n) pq jy fh Ω Ω Ω,
     hj ay.u aq.i (l:=0) (h:=i) (m:=n) jx pr fh Ω Ω Ω]
    have O:ck N 1 (.slice (σ ⟨g,0,ν⟩) n n) n (ints .i64 (p8 i c++p8 (n-i) 0)):=(b1.full B (by simp<;>omega) (by simp[maxLen]<;>omega)).sl;have e:=O.part (l:=0) (h:=i) (m:=n) Ω Ω Ω Ω;have P:((ints .i64 (p8 i c++p8 (n-i) 0)).drop (0*1)).take ((i-0)*1)=ints .i64 (p8 i c):=by
     simp[ints]
    rw[P]at e;refine Az ay.u aq.i B (o:=i) (λ_=>?_) (by simp<;>omega) e (qG _ _) ?_
    .rw[if_neg Ω];simp[U9]
    .intro ai Q aj C;have ak:=p.size;have an:=s.size;have R:over (ints .i64 (p8 i c++p8 (n-i) 0)) i ((ints .i64 (p8 i c)).take (n-i))=ints .i64 (p8 (i+min i (n-i)) c++p8 (n-(i+min i (n-i))) 0):=by
      apply Y4;intro j;rw[mX _ _ _ (by simp[ints]<;>omega)];simp only[ints,Z4,List.map_replicate,List.getElem?_append,List.getElem?_take,List.getElem?_replicate,l9,List.length_replicate]
      repeat' split
      all_goals first|rfl|omega
     rw[R]at C;have S:min (i-0) (n-i)=min i (n-i):=Ω
     simp only[aN,S];have U:X6.wrap ((i:Int)+((min i (n-i):Nat):Int))=((i+min i (n-i):Nat):Int):=by rw[wrap_i64 Ω Ω];omega
     rw[U];refine⟨⟨(p.trans s).then Q (by rintro r L rfl;omega),_,T,Ω,Ω,C⟩,?_⟩;simp only[bW,u7];omega
   .have:i=n:=Ω
    subst this;rw[U4,List.replicate_zero,W6]at q;exact⟨p,g,Ω,av.of (n:=i) (b1.full q Ξ (by simp[maxLen];omega))⟩
  .intro aA y;refine aV (λv a=>v= .bool false/\aa=a) ?_ ?_
   .rintro _ _ ⟨rfl,rfl⟩;rw[a8];exact y _ T
   .intro ao W;simp only[bJ,al];refine⟨λh=>Ω,λ_=>W _ _ ⟨?_,T⟩⟩;rw[decide_eq_false];omega
 .intro aA y;simp only[aP,al];exact⟨λh=>Ω,λ_=>y _ T⟩
def leads(v:x1)(r:Nat):Prop:=∃a n c,v= .slice (σ a) n c/\a.block=r
def bS{g:Nat}(h:av k e w g v l){r:Nat}(f:leads v r):r=g/\g<w.heap.size:=by
 obtain⟨a,n,c,rfl,rfl⟩:=f;obtain⟨_,⟨h,_⟩|⟨cap,cs,h,p,_⟩⟩:=h
 .cases h
 .cases h;exact⟨T,p.lt⟩
def bw{g:Nat}(h:av k e w g v l)(J:ai S w w')(a:∀r,leads v r->¬S r):av k e w' g v l:=by
 refine⟨h.1,h.2.imp id λ⟨cap,cs,h1,f,p⟩=>⟨cap,cs,h1,f.ab J (a g ⟨_,_,_,h1,T⟩),p⟩⟩
def dk(w:x3)(g a:Nat)(sv:x1)(aj:Λ)(k:Int)(cs:Λ):Prop:=
 (∃a7 gs,ag w g cX [sv,Δ k,a7]/\av .i64 ah w gs sv aj/\av .i64 aq w a a7 cs)/\(g≠a/\¬leads sv a/\aQ aj<=4096)/\cb aj/\cs.length=(aQ aj).toNat
def dk.ext{g a:Nat}{k:Int}{cs:Λ}(h:dk w g a sv aj k cs)(J:Ext w w'):dk w' g a sv aj k cs:=by
 have⟨⟨a7,gs,h1,e,f⟩,p⟩:=h;exact⟨⟨a7,gs,h1.ext J,e.ext J,f.ext J⟩,p⟩
def AO(w:x3)(l:Λ)(k a:Int)(v:x1)(w':x3):Prop:=
 Ext w w'/\
  (¬cb l->v= .tuple #[.pointer ν,Δ 1])/\
  (cb l->4096<aQ l->v= .tuple #[.pointer ν,Δ 5])/\
  (cb l->aQ l<=4096->¬cu a k->v= .tuple #[.pointer ν,Δ 3])/\
  (cb l->aQ l<=4096->cu a k->∃g e sv,v= .tuple #[Γ g,Δ 0]/\w.heap.size<=g/\w.heap.size<=e/\(∀r,leads sv r->w.heap.size<=r)/\
   dk w' g e sv l k (p8 (aQ l).toNat a))
theorem vZ{k B:Int}(h:aI .i64 w sv l):am x7 I2 [sv,Δ k,Δ B] w (AO w l k B):=by
 refine az func205 ?_;refine(Ko h).mono ?_;rintro v V _ ⟨K,Y,Z,ab⟩;obtain⟨aM,e,rfl,ad,he⟩:∃(aM:x1)(e:Int),v= .tuple #[.agg #[aM],Δ e]/\aM.oneCell'=true/\
   ((e=1/\¬cb l)\/(e=5/\cb l/\4096<aQ l)\/(e=0/\cb l/\aQ l<=4096/\∃g,w.heap.size<=g/\av .i64 ah V g aM l)):=by
  by_cases U:cb l
  .by_cases A:aQ l<=4096
   .obtain⟨g,aM,rfl,h1,L⟩:=ab U A;exact⟨aM,0,T,L.ls.cells.2,.inr (.inr ⟨T,U,A,g,h1,L⟩)⟩
   .exact⟨_,_,Z U Ω,T,.inr (.inl ⟨T,U,Ω⟩)⟩
  .exact⟨_,_,Y U,T,.inl ⟨T,U⟩⟩
 rw[bo,bp];refine bu bF.i λaO aa aP af ag=>?_;refine cd (vs:=[aM]) bF.i T rfl (by intro u hu;simp at hu;subst hu;exact ad) ag ?_;intro ai aj aR ak;have M:Ext V ai:=af.then aj (by rintro r q rfl;omega);have N:=K.trans M;simp only[bB,al];refine⟨λan=>⟨N,?_⟩,λaS=>?_⟩
 .rcases he with⟨rfl,C⟩|⟨rfl,U,A⟩|⟨rfl,_⟩
  .exact⟨λ_=>rfl,λh=>absurd h C,λh=>absurd h C,λh=>absurd h C⟩
  .exact⟨λh=>absurd U h,λ_ _=>rfl,λ_ h=>Ω,λ_ h=>Ω⟩
  .exact absurd T an
 .obtain⟨rfl,U,A,gs,aT,hm⟩:e=0/\cb l/\aQ l<=4096/\∃g,w.heap.size<=g/\av .i64 ah V g aM l:=by
   rcases he with⟨rfl,C⟩|⟨rfl,U,A⟩|h
   .omega
   .omega
   .exact h
  have aU:=prod_bound U;refine j1.mono ?_;rintro _ aV _ ⟨rfl,G⟩;have O:=N.trans G;simp only[bK,ca];refine⟨λae=>⟨O,λh=>absurd U h,λ_ h=>Ω,λ_ _ _=>rfl,λ_ _ h=>by simp[h]at ae⟩,λap=>?_⟩;have au:cu B k:=by simpa using ap
  simp only[cz,ev];intro P H _ _;have aw:=O.trans H;have E:=(M.trans G).trans H;have Q:=(ak.ext G).ext H;rw[bR bF.p bF.i T Q.range,bR bF.p bF.i T Q.range];have s1:=K.size;have aW:=E.size;have R:((aQ l).toNat:Int)=aQ l:=Ω
  have S:∀{y:x3}{x:x1}{z:Nat},Ext P y->P.heap.size<=z->av .i64 aq y z x (p8 (aQ l).toNat B)->
    ac x7 (Instr.build cX #[(0,.agg #[aM]),(1,Δ k),(2,x)]) y λax=>aE x7 (Instr.box cX ax) y λaA W=>AO w l k B (.tuple #[aA,Δ 0]) W:=by
   intro y x z s X q;rw[cY (cs:=#[aM,Δ k,x]) (by
    obtain⟨_,_,_,_,_,rfl,_⟩:=q.ls;obtain⟨_,_,_,_,_,rfl,_⟩:=hm.ls;kernel_rfl)]
   refine bd λg W aX I aB=>?_;have aY:=s.size;have aC:leads x z:=by
    obtain⟨aZ,⟨_,aD⟩|⟨cap,cs,rfl,_⟩⟩:=q
    .simp at aD;omega
    .exact⟨_,_,_,T,T⟩
   have a1:=(bS q aC).2;refine⟨(aw.trans s).trans I,λh=>absurd U h,λ_ h=>Ω,λ_ _ h=>absurd au h,λ_ _ _=>⟨g,z,aM,T,Ω,Ω,λr aF=>?_,⟨x,gs,aB,((hm.ext E).ext s).ext I,q.ext I⟩,⟨Ω,λaG=>?_,A⟩,U,Ξ⟩⟩
   .have:=(bS hm aF).1;omega
   .have:=bS hm aG;omega
  constructor
  .refine eD ay.u aq.i T λdj ao aH aJ a J=>⟨.inl a,?_⟩;refine(pt ((hm.ext E).ext a).ls U).mono ?_;rintro _ aK _ ⟨rfl,f⟩;refine⟨.inl (a.trans f),?_⟩;rw[<-R];refine(AN (J.ext f).ls Ω).mono ?_;rintro x y _ ⟨s,z,X,q⟩;have aL:=a.size;have aN:=f.size;exact⟨.inl ((a.trans f).trans s),S ((a.trans f).trans s) Ω q⟩
  .refine (pt (hm.ext E).ls U).mono ?_;rintro _ aH _ ⟨rfl,a⟩;refine⟨.inl a,?_⟩;refine eD ay.u aq.i T λdj ao aK aJ f J=>⟨.inl (a.trans f),?_⟩;rw[<-R];refine(AN J.ls Ω).mono ?_;rintro x y _ ⟨s,z,X,q⟩;have aL:=a.size;have aN:=f.size;exact⟨.inl ((a.trans f).trans s),S ((a.trans f).trans s) Ω q⟩
def oa{g:Nat}{a:List x1}{o:Nat}(h:ag w g e cs)(f:∀j v,a[j]?=σ v->cs[o+j]?=σ v):w.rangeAt g o a:=λj v ad=>h.cell (f j v ad)
def AP{g a:Nat}{t:Λ}{k:Int}{cs:Λ}(h:dk w g a sv aj k cs)(e:aI .i64 w aM t):
  am x7 JC [Γ g,aM] w λv w'=>v=ln aj t/\Ext w w':=by
 have⟨⟨a7,gs,f,hm,q⟩,_,U,_⟩:=h;apply az func263;rw[di eV.u];simp only[Z5,a8];rw[bZ,aU cX.p T,bR (cs:=[sv]) bF.p bF.i T (oa f (by
  intro j v ad
  match j,ad with
  |0,ad=>exact ad))]
 apply(AM hm.ls e U).mono;rintro _ V _ ⟨rfl,J⟩;unfold ln;cases cq aj t 0 with
 |none=>rw[bo,bp];exact⟨T,J⟩
 |some n=>rw[bo,bp];exact⟨T,J⟩
def pu(aj t cs:Λ):x1:=match cq aj t 0 with
 |some n=>.tuple #[Δ (cs.getD n.toNat 0),Δ 0]
 |none=>.tuple #[Δ 0,Δ 3]
def AQ{t cs:Λ}{n:Int}(U:cb aj)(a:cs.length=(aQ aj).toNat)(h:cq aj t 0=σ n):n=(n.toNat:Int)/\n.toNat<cs.length:=by
 have:=n8 U.2 h;simp only[Int.zero_mul,Int.zero_add,Int.one_mul]at this;omega
def v7{g e:Nat}{t:Λ}{k:Int}{cs:Λ}(h:dk w g e sv aj k cs)(f:aI .i64 w aM t):
  am x7 Jv [Γ g,aM] w λv w'=>v=pu aj t cs/\Ext w w':=by
 apply az func250;apply(AP h f).mono;rintro _ V _ ⟨rfl,J⟩;have⟨⟨a7,gs,q,hm,r⟩,_,U,s⟩:=h.ext J;unfold ln pu;cases hi:cq aj t 0 with
 |none=>
  rw[bo,bp];simp only[bB,al];exact⟨λ_=>⟨trivial,J⟩,λh=>by simp at h⟩
 |some n=>
  have⟨x,a⟩:=AQ U s hi;rw[bo,bp];simp only[bB,al];refine⟨λh=>absurd T h,λ_=>?_⟩;rw[aT cX.p 2 q T,
   fP x ay.u aq.i Ψ r.ls (x6 a)]
  refine⟨?_,J⟩;rw[u4,x6 a];rfl
def sZ(aj t:Λ)(k c:Int)(cs:Λ):Λ:=match cq aj t 0 with
 |some n=>if cu c k then cs.set n.toNat c else cs
 |none=>cs
def AR(aj t:Λ)(k c:Int):Int:=match cq aj t 0 with
 |some _=>if cu c k then 0 else 3
 |none=>3
def Kq{g e:Nat}{t:Λ}{k c:Int}{cs:Λ}(h:dk w g e sv aj k cs)(C:aI .i64 w aM t):
  am x7 I4 [Γ g,aM,Δ c] w λv w'=>v=Δ (AR aj t k c)/\ai (λr=>r=e) w w'/\dk w' g e sv aj k (sZ aj t k c cs):=by
 apply az func207;apply(AP h C).mono;rintro _ V _ ⟨rfl,J⟩;have h1:=h.ext J;have⟨⟨a7,gs,a,hm,f⟩,_,U,q⟩:=h1;unfold ln AR sZ;cases hi:cq aj t 0 with
 |none=>
  rw[bo,bp];simp only[bB,al];exact⟨λ_=>⟨trivial,J.ab _,h.ext J⟩,λh=>by simp at h⟩
 |some n=>
  have⟨O,P⟩:=AQ U q hi;rw[bo,bp];simp only[bB,al];refine⟨λh=>absurd T h,λ_=>?_⟩;rw[aT cX.p 1 a T];apply j1.mono;rintro _ aa _ ⟨rfl,s⟩;have y:=(h.ext J).ext s;by_cases z:cu c k
  .simp only[z,decide_true,bK,Y7,a8,if_true];have⟨⟨a7,gs,a,hm,f⟩,⟨E,A⟩,U,q⟩:=y;have:=f;obtain⟨R,⟨rfl,S⟩|⟨cap,full,rfl,G,H,I,K,B⟩⟩:=f
   .omega
   .rw[aT cX.p 2 a T,
     Aw (i:=n) ay.u aq.i Ω Ω (λ_=>rfl)]
    apply bq aq.i T rfl G Ω;intro W x X L;refine⟨trivial,((J.trans s).ab _).trans x,⟨_,gs,a.ab x Ω,bw hm x (λr M N=>A.1 (N▸M)),?_⟩,⟨E,A⟩,U,by simp[q]⟩;refine⟨Ξ,.inr ⟨cap,full.set (0+n.toNat*1) (Δ c),?_,L,by simpa using H,I,by simpa using K,?_⟩⟩
    .simp
    .simp only[c9,X2,U2]at B ⊢;rw[List.take_set,B,ints,ints,U5]
  .simp only[z,decide_false,bK,W3,bV,if_false];exact⟨trivial,(J.trans s).ab _,y⟩
def cA(b:Int):Bool:=decide (b=32\/b=9\/b=10\/b=13)
def bO(b:Int):Bool:=decide (33<=b/\b<=126)
def ob:Nat->Λ->List (Λ)×Bool
 |0,_=>([],true)
 |n+1,p=>
  match p.dropWhile cA with
  |[]=>([],true)
  |b::q=>
   if bO b then
    match(b::q).dropWhile bO with
    |[]=>([(b::q).takeWhile bO],true)
    |c::r=>if cA c then(((b::q).takeWhile bO)::(ob n (c::r)).1,(ob n (c::r)).2)else([],false)
   else([],false)
def lex(p:Λ):List (Λ)×Bool:=ob (p.length+1) p
theorem pv(f:Int->Bool):∀(l:Λ),(l.dropWhile f).length<=l.length
 |[]=>o4 _
 |x::l=>by
  rw[List.dropWhile_cons];split
  .exact Y9 (pv f l) (Nat.le_succ _)
  .exact o4 _
def s3{f:Int->Bool}{x:Int}(h:f x=true):((x::l).dropWhile f).length<=l.length:=by
 rw[List.dropWhile_cons,if_pos h];exact pv f l
theorem AS:∀{n m:Nat}{p:Λ},p.length<n->p.length<m->ob n p=ob m p
 |n+1,m+1,p,s,hm=>by
  unfold ob;have h1:=pv cA p;cases f:p.dropWhile cA with
  |nil=>rfl
  |cons b q=>
   rw[f]at h1;simp only;by_cases a:bO b=true
   .rw[if_pos a,if_pos a];have e:=s3 (l:=q) a;cases h:(b::q).dropWhile bO with
    |nil=>rfl
    |cons c r=>
     rw[h]at e;simp only[b6]at h1 e;simp only;rw[AS (n:=n) (m:=m) (p:=c::r) (by rw[b6];omega) (by rw[b6];omega)]
   .rw[if_neg a,if_neg a]
def kI(p:Λ):lex p=match p.dropWhile cA with
  |[]=>([],true)
  |b::q=>
   if bO b then
    match(b::q).dropWhile bO with
    |[]=>([(b::q).takeWhile bO],true)
    |c::r=>if cA c then(((b::q).takeWhile bO)::(lex (c::r)).1,(lex (c::r)).2)else([],false)
   else([],false):=by
 unfold lex
 conv=>lhs;unfold ob
 have h1:=pv cA p;cases f:p.dropWhile cA with
 |nil=>rfl
 |cons b q=>
  rw[f]at h1;simp only;by_cases a:bO b=true
  .rw[if_pos a,if_pos a];have e:=s3 (l:=q) a;cases h:(b::q).dropWhile bO with
   |nil=>rfl
   |cons c r=>
    rw[h]at e;simp only[b6]at h1 e;simp only;rw[AS (n:=p.length) (m:=(c::r).length+1) (p:=c::r) (by rw[b6];omega) Ω]
  .rw[if_neg a,if_neg a]
theorem pw:∀(n:Nat)(p:Λ),p.length<=n->(lex p).1.length<=p.length
 |n,p,w=>by
  rw[kI];have h1:=pv cA p;cases h:p.dropWhile cA with
  |nil=>simp
  |cons b q=>
   rw[h]at h1;simp only;by_cases a:bO b=true
   .rw[if_pos a];have e:=s3 (l:=q) a;cases s:(b::q).dropWhile bO with
    |nil=>simp only[b6,List.length_nil]at h1 ⊢;omega
    |cons c r=>
     rw[s]at e;simp only[b6]at h1 e;simp only;by_cases f:cA c=true
     .rw[if_pos f]
      match n with
      |0=>omega
      |n+1=>
       have:=pw n (c::r) (by rw[b6];omega);simp only[b6]at this ⊢;omega
     .rw[if_neg f];simp
   .rw[if_neg a];simp
theorem s4:∀(n:Nat)(p:Λ),p.length<=n->∀w∈(lex p).1,w≠[]/\(∀b∈w,bO b=true)/\w.length<=p.length
 |n,p,B,w,hw=>by
  rw[kI]at hw;have h1:=pv cA p;cases e:p.dropWhile cA with
  |nil=>rw[e]at hw;simp at hw
  |cons b q=>
   rw[e]at h1 hw;simp only at hw;have A:(b::q).length<=p.length:=h1;by_cases a:bO b=true
   .rw[if_pos a]at hw;have f:=s3 (l:=q) a;have s:(b::q).takeWhile bO≠[]/\(∀x∈(b::q).takeWhile bO,bO x=true)/\((b::q).takeWhile bO).length<=p.length:=
     ⟨by rw[List.takeWhile_cons,if_pos a];simp,λx J=>List.all_takeWhile (l:=b::q) (p:=bO) |> List.all_eq_true.1 |> λh=>h x J,Y9 (List.takeWhile_sublist _).length_le A⟩
    cases y:(b::q).dropWhile bO with
    |nil=>
     rw[y]at hw;simp only[o9]at hw;subst hw;exact s
    |cons c r=>
     rw[y]at f hw;simp only[b6]at h1 f;simp only at hw;by_cases z:cA c=true
     .rw[if_pos z]at hw;rcases V2.1 hw with rfl|hw
      .exact s
      .match n with
       |0=>omega
       |n+1=>
        have:=s4 n (c::r) (by rw[b6];omega) w hw;exact⟨this.1,this.2.1,Y9 this.2.2 (by rw[b6];omega)⟩
     .rw[if_neg z]at hw;simp at hw
   .rw[if_neg a]at hw;simp at hw
def aw:Int:=4611686018427387904
def gE(b:Int):Bool:=decide (48<=b/\b<=57)
def e7(n b:Int):Int:=min aw (10*n+(b-48))
def kJ:Λ->Option Int
 |[]=>ν
 |l=>if l.all gE then σ (l.foldl e7 0)else ν
def gF:Λ->Option Int
 |45::l=>(kJ l).map λn=>-n
 |l=>kJ l
def Kr{n b:Int}(e:0<=n)(a:gE b=true):0<=e7 n b/\e7 n b<=aw:=by
 have a:=of_decide_eq_true a;unfold e7 aw;omega
theorem s5:∀{l:Λ}{n:Int},l.all gE=true->0<=n/\n<=aw->0<=l.foldl e7 n/\l.foldl e7 n<=aw
 |[],n,_,a=>a
 |b::l,n,h,a=>by
  rw[List.all_cons,V5]at h;exact s5 (l:=l) h.2 (Kr a.1 h.1)
structure aF where
 toks:List (Λ)
 told:Int
 big:Bool
 shared:List (Λ×List (Λ×Int))
deriving DecidableEq
def dO(s:aF):Option (Λ×aF):=match s.toks with
 |[]=>ν
 |w::l=>σ (w,{s with toks:=l})
def bh(lo hi:Int)(s:aF):Option (Int×aF):=match dO s with
 |none=>ν
 |some (w,s)=>match gF w with
  |none=>ν
  |some n=>if lo<=n/\n<=hi then σ (n,s)else ν
def bb(b:Bool)(s:aF):aF:={s with big:=s.big||b}
def cK{α:Type}(f:List α->aF->Option (α×aF)):Nat->List α->aF->Option (List α×aF)
 |0,acc,s=>σ (acc,s)
 |n+1,acc,s=>match f acc s with
  |none=>ν
  |some (a,s)=>cK f n (acc++[a]) s
def eW(n:Int)(a:Nat)(s:aF):Option (Λ×aF):=cK (λacc s=>match bh 0 (n-1) s with
 |none=>ν
 |some (v,s)=>if v∈acc then ν else σ (v,s)) a [] s
def iY:Λ->Λ->aF->Option (Λ×aF)
 |[],acc,s=>σ (acc,s)
 |k::l,acc,s=>match bh 0 (k-1) s with
  |none=>ν
  |some (v,s)=>iY l (acc++[v]) s
def dU(sizes:Λ)(acc:List (Λ×Int))(s:aF):Option ((Λ×Int)×aF):=match iY sizes [] s with
 |none=>ν
 |some (t,s)=>match bh 0 aw s with
  |none=>ν
  |some (c,s)=>if t∈acc.map (·.1)then ν else σ ((t,c),s)
def dF(sizes:Λ)(s:aF):Option (List (Λ×Int)×aF):=match bh (-aw) aw s with
 |none=>ν
 |some (n,s)=>
  if n<0 then match s.shared[(-n-1).toNat]? with
   |none=>ν
   |some (z,l)=>if z=sizes then σ (l,s)else ν
  else cK (dU sizes) n.toNat [] (bb (decide (16384<min (s.told+n) aw)) {s with told:=min (s.told+n) aw})
def dq(sizes:Λ):Bool:=decide (4096<aQ (sizes.map λk=>min k 4097))
structure cn where
 scope:Λ
 sizes:Λ
 other:Int
 lines:List (Λ×Int)
deriving DecidableEq
def cZ(all:Λ)(s:aF):Option (cn×aF):=match bh (-aw) aw s with
 |none=>ν
 |some (a,s)=>match eW all.length a.natAbs s with
  |none=>ν
  |some (scope,s)=>
   let sizes:=scope.map λv=>all.getD v.toNat 0
   match bh 0 aw (bb (decide (6<a.natAbs)||dq sizes) s)with
   |none=>ν
   |some (other,s)=>match dF sizes s with
    |none=>ν
    |some (lines,s)=>σ (⟨scope,sizes,other,lines⟩,if a<0 then{s with shared:=s.shared++[(sizes,lines)]}else s)
def fi(most:Int)(_:Λ)(s:aF):Option (Int×aF):=match bh 1 most s with
 |none=>ν
 |some (z,s)=>σ (z,bb (decide (32<z)) s)
structure b3 where
 name:Λ
 k:Int
 sizes:Λ
 funs:List cn
deriving DecidableEq
def hn(s:aF):Option (b3×aF):=match dO s with
 |none=>ν
 |some (name,s)=>match bh 1 aw (bb (decide (64<name.length)) s)with
  |none=>ν
  |some (n,s)=>match bh 1 aw (bb (decide (64<n)) s)with
   |none=>ν
   |some (most,s)=>match bh 0 aw s with
    |none=>ν
    |some (a,s)=>match bh 1 aw (bb (decide (256<a)) s)with
     |none=>ν
     |some (k,s)=>match cK (fi most) n.toNat [] (bb (decide (2147483648<k)) s)with
      |none=>ν
      |some (sizes,s)=>match cK (λ_ s=>cZ sizes s) a.toNat [] s with
       |none=>ν
       |some (funs,s)=>σ (⟨name,k,sizes,funs⟩,s)
def fs(p:Λ):Option b3:=if 65536<p.length then ν else match hn ⟨(lex p).1,0,false,[]⟩with
 |none=>ν
 |some (f,s)=>if s.toks=[]/\(lex p).2=true/\s.big=false then σ f else ν
def m8(n:Int)(a:Bool)(v:Int):Prop:=0<=n/\n<=4611686018427387909/\(a=true->v=aw)/\(a=false->v=min aw n)
def Ks{n b v:Int}{a:Bool}(h:m8 n a v)(r:48<=b/\b<=57):
  m8 (if a=true\/461168601842738790<n then n else 10*n+(b-48)) (a||decide (461168601842738790<n)) (e7 v b):=by
 have⟨h1,f,p,q⟩:=h;unfold e7 m8 aw at*;cases a with
 |true=>
  have:=p T;rw[if_pos (.inl T)];exact⟨h1,f,λ_=>Ω,λh=>by cases h⟩
 |false=>
  have:=q T;by_cases e:461168601842738790<n
  .rw[if_pos (.inr e),decide_eq_true e];exact⟨h1,f,λ_=>Ω,λh=>by cases h⟩
  .rw[if_neg (by simp[e]),decide_eq_false e];exact⟨Ω,Ω,(λh=>by cases h),λ_=>Ω⟩
def Kt:m8 0 false 0:=by unfold m8 aw;exact⟨Ω,Ω,(λh=>by cases h),λ_=>Ω⟩
def Ku{n v:Int}{a:Bool}(h:m8 n a v):v=if a=true\/4611686018427387904<n then 4611686018427387904 else n:=by
 have⟨h1,q,f,p⟩:=h;unfold aw at*;cases a with
 |true=>rw[if_pos (.inl T)];exact f T
 |false=>
  have:=p T;by_cases e:4611686018427387904<n
  .rw[if_pos (.inr e)];omega
  .rw[if_neg (by simp[e])];omega
structure Cell where
 v:Int
 st:Nat
structure lp where
 i:Nat
 c:Cell
structure s6 where
 olds:Nat
 cells:Nat
 st:Nat
structure aD where
 cells:List Cell
 olds:List lp
 marks:List s6
 iB:Nat
def aD.bY(t:aD):Λ:=t.cells.map (·.v)
def aD.set(t:aD)(i:Nat)(x:Int):aD:=match t.cells[i]? with
 |none=>t
 |some c=>match t.marks.getLast? with
  |none=>{t with cells:=t.cells.set i ⟨x,c.st⟩}
  |some m=>if c.st<m.st/\i<m.cells then{t with olds:=t.olds++[⟨i,c⟩],cells:=t.cells.set i ⟨x,m.st⟩}else{t with cells:=t.cells.set i ⟨x,c.st⟩}
def aD.grow(t:aD)(n:Nat):aD:={t with cells:=t.cells++p8 n ⟨0,0⟩}
def back(os:List lp)(cs:List Cell):List Cell:=os.foldr (λo cs=>cs.set o.i o.c) cs
theorem qM:∀(os:List lp)(cs:List Cell),(back os cs).length=cs.length
 |[],_=>rfl
 |o::os,cs=>by
  have:=qM os cs;show((back os cs).set o.i o.c).length=_;rw[c9,this]
def back_append(a b:List lp)(cs:List Cell):back (a++b) cs=back a (back b cs):=by unfold back;rw[List.foldr_append]
theorem v8:∀{os:List lp}{cs:List Cell}{n:Nat},(back os cs).take n=back (os.filter λo=>decide (o.i<n)) (cs.take n)
 |[],cs,n=>rfl
 |o::os,cs,n=>by
  show((back os cs).set o.i o.c).take n=_;by_cases h:o.i<n
  .rw[List.filter_cons_of_pos (by simpa using h),List.take_set,v8];rfl
  .rw[List.filter_cons_of_neg (by simpa using h),List.take_set_of_le Ω,v8]
def AT{os:List lp}{cs:List Cell}(h:∀o∈os,o.i<n):(back os cs).take n=back os (cs.take n):=by
 rw[v8,List.filter_eq_self.2 λo a=>by simpa using h o a]
theorem AU:∀{os:List lp}{cs a:List Cell}{i:Nat},cs.length=a.length->(∃o∈os,o.i=i)->(back os cs)[i]?=(back os a)[i]?
 |[],_,_,_,_,⟨_,h,_⟩=>by cases h
 |o::os,cs,a,i,e,hm=>by
  show((back os cs).set o.i o.c)[i]?=((back os a).set o.i o.c)[i]?;rw[X0,X0];by_cases h:o.i=i
  .rw[if_pos h,if_pos h,qM,qM,e]
  .rw[if_neg h,if_neg h];have⟨x,J,he⟩:=hm;rcases V2.1 J with rfl|J
   .exact absurd he h
   .exact AU e ⟨x,J,he⟩
theorem AV:∀{os:List lp}{cs a:List Cell}{i:Nat},cs[i]?=a[i]? ->cs.length=a.length->(back os cs)[i]?=(back os a)[i]?
 |[],_,_,_,h,_=>h
 |o::os,cs,a,i,h,e=>by
  show((back os cs).set o.i o.c)[i]?=((back os a).set o.i o.c)[i]?;rw[X0,X0,qM,qM,e,AV h e]
def hM:aD->List aD->Prop
 |t,[]=>t.marks=[]/\t.olds=[]/\(∀c∈t.cells,c.st<=t.iB)/\t.iB<=1000000
 |t,s::h=>hM s h/\(∀c∈t.cells,c.st<=t.iB)/\∃m new,t.marks=s.marks++[m]/\m.olds=s.olds.length/\m.cells=s.cells.length/\t.olds=s.olds++new/\m.cells<=t.cells.length/\(back new t.cells).take m.cells=s.cells/\
   (∀c∈s.cells,c.st<m.st)/\(∀c∈t.cells,c.st<=m.st)/\(∀(i:Nat)c,i<m.cells->t.cells[i]?=σ c->c.st=m.st->∃o∈new,o.i=i)/\(∀o∈new,o.i<m.cells)/\m.st<=t.iB/\s.iB<=t.iB
def hM.grow{h:List aD}{t:aD}(hk:hM t h):hM (t.grow n) h:=by
 cases h with
 |nil=>
  refine⟨hk.1,hk.2.1,λc a=>?_,hk.2.2.2⟩;rcases o5.1 a with a|a
  .exact hk.2.2.1 c a
  .rw[(List.mem_replicate.1 a).2];exact X5 _
 |cons s h=>
  have⟨h1,p,m,new,q,r,a3,a4,a5,w,x,y,a9,e,z,A⟩:=hk;have f:∀{b:Nat},(∀c∈t.cells,c.st<=b)->∀c∈(t.grow n).cells,c.st<=b:=λB c a=>by
   rcases o5.1 a with a|a
   .exact B c a
   .rw[(List.mem_replicate.1 a).2];exact X5 _
  refine⟨h1,f p,m,new,q,r,a3,a4,by show m.cells<=(t.cells++_).length;rw[r9];omega,?_,x,f y,λi c hi a he=>?_,e,z,A⟩
  .show (back new (t.cells++_)).take m.cells=_;rw[AT e,List.take_append_of_le_length a5,<-AT e];exact w
  .have a:(t.cells++p8 n ⟨0,0⟩)[i]?=σ c:=a;rw[Y6 Ω]at a;exact a9 i c hi a he
def Kv{s:aD}{m:s6}{l:List s6}(h:l=s.marks++[m]):l.getLast? =σ m:=by rw[h,List.getLast?_concat]
def hM.set{h:List aD}{t:aD}{i:Nat}{x:Int}(hk:hM t h):hM (t.set i x) h:=by
 unfold aD.set;cases q:t.cells[i]? with
 |none=>exact hk
 |some c=>
  have F:=(x4.1 q).1;have y:=x5 q;have r:∀{b st:Nat},(∀c∈t.cells,c.st<=b)->st<=b->∀d∈t.cells.set i ⟨x,st⟩,d.st<=b:=λM B d a=>by
   rcases W0 a with a|rfl
   .exact M d a
   .exact B
  cases h with
  |nil=>
   have⟨h1,w,G,N⟩:=hk;simp only[h1,List.getLast?_nil];exact⟨T,w,r G (G c y),N⟩
  |cons s h=>
   have⟨h1,w,m,new,C,H,a3,a4,a5,I,J,z,a9,K,E,L⟩:=hk;simp only[Kv C];by_cases A:c.st<m.st/\i<m.cells
   .rw[if_pos A];refine⟨h1,r w E,m,new++[⟨i,c⟩],C,H,a3,by show t.olds++_=_;rw[a4,V1],by show m.cells<=(t.cells.set i _).length;rw[c9];exact a5,?_,J,r z (o4 _),λj d e a he=>?_,λo p=>?_,E,L⟩
    .show (back (new++[⟨i,c⟩]) (t.cells.set i _)).take m.cells=_;rw[back_append];have:back [⟨i,c⟩] (t.cells.set i ⟨x,m.st⟩)=t.cells:=by
      show(t.cells.set i _).set i c=_;rw[List.set_set];refine Y4 λj=>?_;rw[X0];by_cases e:i=j
      .subst e;rw[if_pos T,if_pos F,q]
      .rw[if_neg e]
     rw[this];exact I
    .have a:(t.cells.set i ⟨x,m.st⟩)[j]?=σ d:=a;by_cases f:i=j
     .exact⟨⟨i,c⟩,Ξ,f⟩
     .rw[X0,if_neg f]at a;have⟨o,p,he⟩:=a9 j d e a he;exact⟨o,List.mem_append_left _ p,he⟩
    .rcases o5.1 p with p|p
     .exact K o p
     .rw[o9.1 p];exact A.2
   .rw[if_neg A];refine⟨h1,r w (w c y),m,new,C,H,a3,a4,by show m.cells<=(t.cells.set i _).length;rw[c9];exact a5,?_,J,r z (z c y),λj d e a he=>?_,K,E,L⟩
    .rw[<-I];show(back new (t.cells.set i _)).take m.cells=_;refine Y4 λj=>?_;by_cases e:j<m.cells
     .rw[Z7 e,Z7 e];by_cases f:i=j
      .subst f;have B:c.st=m.st:=by
        have:=z c y;have:¬c.st<m.st:=λaB=>A ⟨aB,e⟩;omega
       exact AU (by rw[c9]) (a9 i c e q B)
      .exact AV (by rw[X0,if_neg f]) (by rw[c9])
     .rw[Z2 (by rw[l9];omega),Z2 (by rw[l9];omega)]
    .have a:(t.cells.set i ⟨x,c.st⟩)[j]?=σ d:=a;by_cases f:i=j
     .subst f;rw[X0,if_pos T,if_pos F]at a;cases a;exact a9 i c e q he
     .rw[X0,if_neg f]at a;exact a9 j d e a he
def aD.qN{t:aD}{i:Nat}{x:Int}:(t.set i x).bY=t.bY.set i x:=by
 unfold aD.set aD.bY;cases a:t.cells[i]? with
 |none=>rw[List.set_eq_of_length_le (by rw[r8];exact List.getElem?_eq_none_iff.1 a)]
 |some c=>
  simp only;cases t.marks.getLast? with
  |none=>simp only;rw[U5]
  |some m=>simp only;split<;>rw[U5]
def aD.Kw{t:aD}:(t.grow n).bY=t.bY++p8 n 0:=by
 unfold aD.grow aD.bY;rw[Z4,List.map_replicate]
end Go.Proofs.YtikkpokkcdocoabGreatDoor
namespace Go.Vc
open Go Go.RowKit
section
variable{P:W8}{w:x3}{m:Bool}{S R:ak}
def s7{b k l:Nat}{low high:Option x1}(p:P.underlying t=σ (.slice e))(hi:aS P e k b z)(ad:ck w k v n cs)(h1:mh low l)(q:mi high n h)(a:l<=h)(aB:h<=n)(r:∀f,ck w k f (h-l) ((cs.drop (l*k)).take ((h-l)*k))->K f):
  ac P (V9 t v low high ν) w K:=by
 have s:=ad;obtain⟨_,x,o,base,cap,rfl,y,_⟩:=ad;rw[hj p hi h1 q fh a Ω (o4 _)];exact r _ (ck.part s a aB Ω (o4 _))
def Kx{f:o7}{b i:Nat}(p:y=(i:Int))(q:P.underlying t=σ (.slice e))(hi:aS P e 1 b z)(h:aI k w v l)(r:i<=l.length)(s:∀a,aI k w a (l.drop i)->K a):ac P (V9 t v (σ (.int f y)) ν ν) w K:=by
 refine s7 q hi h (nZ i y p) jy r (o4 _) λa h'=>s a (aI.of (n:=l.length-i) ?_);have x:((ints k l).drop (i*1)).take ((l.length-i)*1)=ints k (l.drop i):=by
  rw[b8 Ξ,U2,ints,<-List.map_drop]
 rw[x]at h';exact h'
def Ky{f:o7}{b i:Nat}(p:y=(i:Int))(q:P.underlying t=σ (.slice e))(hi:aS P e 1 b z)(h:aI k w v l)(r:i<=l.length)(s:∀a,aI k w a (l.take i)->K a):ac P (V9 t v ν (σ (.int f y)) ν) w K:=by
 refine s7 q hi h jx (n0 i y p) (X5 _) r λa h'=>s a (aI.of (n:=i) ?_);have x:((ints k l).drop (0*1)).take ((i-0)*1)=ints k (l.take i):=by
  simp[ints,List.map_take]
 rw[x]at h';exact h'
def oc{b:Nat}{parts:Array (Nat×x1)}{K:x1->x3->Prop}(a:P.underlying t=σ (.slice e))(hi:aS P e 1 b (Δ 0))(r:n<=100000)(f:l.length=n)(ae:Instr.fill (λj=>σ (j*1,1)) ((Array.range (n*1)).map ((if n*1=0 then#[]else(V6 .i64 0).cells)[·% (if n*1=0 then#[]else(V6 .i64 0).cells).size]!)) parts.toList=σ (ints .i64 l).toArray)(h:∀v g w',g=w.heap.size->Ext w w'->av .i64 e w' g v l->K v w'):aE P (Y5 t n parts) w K:=
 kD a hi Ω ae λg w' p J q=>h _ g w' p J (av.of (n:=n) (b1.full (by simpa using q) (by simp[f]) (by simp[maxLen];omega)))
end
section
variable{P:W8}{w:x3}
def Kz{h p:p9}{q kn:o7}{b k cap:Nat}{base:Option Addr}{K:x1->x3->Prop}(x:y=(k:Int))(A:P.underlying t=σ (.slice e))(B:P.underlying h=σ (.int kn))(hi:aS P e 1 b z)(C:z.cells= #[z])(U:ck w 1 (.slice base n cap) n xs)(E:0<k)(r:cap<n+k)(F:(n+k)*b<=140737488355328)(G:n+k<=9223372036854775807)(H:∀v g w',g=w.heap.size->Ext w w'->b1 w' g e 1 v (n+k) (xs++p8 k z)->K v w'):aE P (Z0 #[t,h] p #[.slice base n cap,.int q y]) w K:=by
 subst x;obtain⟨i,hi,I,rfl,J⟩:=hi;have⟨f,W,o,X,Y,he,L,Z,M,N⟩:=U;cases he;have O:(Z3.firstCells i.size n (.slice base n cap)).run P w.drew= .ok xs.toArray w.drew:=by
  rcases Q3 n with rfl|Q
  .have:xs=[]:=j6 (by simpa using f);subst this;cases base with
   |none=>exact run_firstCells_none w.drew i.size 0 0 cap
   |some a=>exact run_firstCells_some w.drew i.size 0 a 0 cap [] Ξ Ξ
  .have:=M Q;subst this;refine run_firstCells_some w.drew i.size n _ n cap xs (by rw[I];exact f) λj u hu=>?_;rw[U9];exact N j u hu
 have R:k*i.bytes<=281474976710656:=by
  have:k*i.bytes<=(n+k)*i.bytes:=X9 _ Ω;omega
 have S:=Lib.run_append_grow_zeros (P:=P) w t h p e i z q kn A B hi J base n cap xs O k E Ω r Ω R (growslice_fits r F);have T:n+k<=grownCap w (n+k) cap e:=grownCap_ge w _ _ _;have V:grownCap w (n+k) cap e<=maxLen:=grownCap_le_maxLen w (n+k) cap e (by simpa[maxLen]using G);have s:∀m,Z3.zeroCells z.cells m=(p8 m z).toArray:=λm=>by
  rw[C];apply Array.ext
  .simp[size_zeroCells]
  .intro j h1 L;simp[Z3.zeroCells,Nat.mod_one]
 refine .of S ((qk w _ (Nat.le_succ _)).trans (qm _ _)) (H _ w.z _ rfl ((r6 w _).trans (ql _ _)) ⟨by simp at f;simp[f],.inr ⟨_,xs++p8 k z++p8 (grownCap w (n+k) cap e-(n+k)) z,rfl,?_,T,V,?_,?_⟩⟩)
 .rw[s,s];have:=heap_alloc_new w.drew (.cells (xs.toArray++(p8 k z).toArray++(p8 (grownCap w (n+k) cap e-(n+k)) z).toArray) e);rw[List.append_toArray,List.append_toArray]at this ⊢;exact this
 .simp at f;simp[f];omega
 .simp at f;rw[List.take_append_of_le_length (by simp[f]),b8 (by simp[f])]
def AW{a:p9}{base:Option Addr}(f:P.underlying t=σ (.slice e)):
  ac P (Z3.cap_ #[t] a #[.slice base n c]) w K=K (Δ c):=ac.of λw' _=>by simp[Z3.cap_,run_underlying f,goInt]
def KA{g o k:Nat}(h:ag w g e cs)(hk:o+k<=cs.length)(a:k<=c)(f:c<=maxLen):ck w 1 (.slice (σ ⟨g,o,ν⟩) k c) k ((cs.drop o).take k):=by
 refine⟨Θ,g,o,_,c,T,a,f,λ_=>rfl,λj v ad=>?_⟩;have p:=(x4.1 ad).1;simp at p;rw[Z7 Ω,List.getElem?_drop]at ad;exact h.cell ad
def AX{h p:p9}{q g o cap:Nat}{K:x1->x3->Prop}(s:P.underlying t=σ (.slice e))(hi:aS P e 1 q z)(x:z.cells= #[z])(h1:z.oneCell'=true)(a:ag w g p cs)(y:0<n)(F:o+n<=cs.length)(A:∀w',ai (λr=>r=g) w w'->w'.heap.size=w.heap.size->ag w' g p (over cs o (p8 n z))->K (.tuple #[]) w'):aE P (Z3.clear_ #[t] h #[.slice (σ ⟨g,o,ν⟩) n cap]) w K:=by
 obtain⟨i,hi,G,rfl,B⟩:=hi;have C:=Lib.run_clear_slice (P:=P) w t e h z s (λw=>by simp[zeroValue,typeInfo,hi,B]) x h1 g o n cap y
  (λj H=>by rw[a.cell (x6 (show o+j<cs.length by omega))];rfl) (λj _=>a.frozen _ _)
 have⟨E,f⟩:=n1 (p8 n z) cs o w a;exact .of C (f.cw a) (A _ f.ab f.size E)
end
section
variable{P:W8}{w:x3}
def hN{a:p9}{f:o7}{i b g:Nat}(p:y=(i:Int))(q:P.underlying t=σ (.slice e))(hi:aS P e 1 b z)(h:av k a w g v l)(r:i<l.length):ac P (j9 t v (.int f y)) w K=K (.pointer (σ ⟨g,i,ν⟩)):=by
 subst p;obtain⟨_,⟨_,s⟩|⟨cap,cs,rfl,_⟩⟩:=h
 .omega
 .rw[fg q hi r (λ_=>rfl)];simp
def px{a:o7}{i b:Nat}{x:Int}(f:y=(i:Int))(p:P.underlying t=σ (.slice e))(hi:aS P e 1 b z)(h:aI k w v l)(J:l[i]?=σ x)(q:∀b o,w.cell? ⟨b,o,ν⟩=σ (.int k x)->K (.pointer (σ ⟨b,o,ν⟩))):ac P (j9 t v (.int a y)) w K:=by
 subst f;have r:=(x4.1 J).1;obtain⟨_,_,_,_,_,rfl,_,_,s,A⟩:=h;rw[fg p hi r s,U2];exact q _ _ (A i _ (lk J))
def hP{a:p9}{i b g:Nat}{x:Int}{K:Unit->x3->Prop}(hi:aS P e 1 b z)(h:av k a w g v l)(F:i<l.length)(q:∀w',ai (λr=>r=g) w w'->w'.heap.size=w.heap.size->av k a w' g v (l.set i x)->K () w'):aE P (o8 e (.pointer (σ ⟨g,i,ν⟩)) (.int k x)) w K:=by
 obtain⟨G,⟨_,H⟩|⟨cap,full,rfl,s,y,A,f,p⟩⟩:=h
 .omega
 .have B:i<full.length:=by simp at f;omega
  refine bq hi T rfl s B λw' C U E=>q w' C U ⟨Ξ,.inr ⟨cap,full.set i (.int k x),Ξ,E,by simpa using y,A,by simpa using f,?_⟩⟩;simp only[c9,U2]at p ⊢;rw[List.take_set,p,ints,ints,U5]
def s8{b o:Nat}(a:jZ P t=true)(h:w.cell? ⟨b,o,ν⟩=σ v):cD P (u5 t (.pointer (σ ⟨b,o,ν⟩))) v w:=λw' J=>by
 have h':=iW J h;unfold jZ at a;cases hu:P.underlying t with
 |none=>rw[hu]at a;cases a
 |some d=>
  rw[hu]at a;cases d<;>first|(cases a;done)|simp[u5,Instr.sureAddr,loadVar,isAgg,run_underlying hu,h']
def ia{S:ak}(h:aI k w v l)(J:ai S w w')(p:∀r,S r->∀a n c,v= .slice (σ a) n c->a.block≠r):aI k w' v l:=by
 obtain⟨h1,b,o,base,cap,rfl,q,s,e,x⟩:=h;refine⟨h1,b,o,base,cap,T,q,s,e,?_⟩;rcases Q3 l.length with f|f
 .intro j u hu;have:=(x4.1 hu).1;simp at this;omega
 .have y:=e f;subst y;exact jw J (λh=>p _ h _ _ _ T rfl) x
end
end Go.Vc
namespace Go.Vc
open Go Go.RowKit Go.ChangeShapes Go.WideShapes
structure m9(P:W8)(t:p9)(α:Type)[au α](G:α->Prop):Prop where
 op:∀{H:Type}{enc:p9×x1->H}{w:x3}{base:Nat}{spare:Nat->Bool}{held:Bool}{fuel:Nat}{cs:List x1}{x:DataW H×List MemPlace},
  DataW.trod enc P w base spare held fuel t cs=σ x->∃a:α,Seen eM w cs a/\G a
section
variable{P:W8}{α β:Type}[au α][au β]
def AY{n:Int}(h:(Lit.int k n).wf=true):k.min<=n/\n<=k.max:=by simpa[Lit.wf]using h
def KB(a:P.underlying t=σ (.int k)):m9 P t (mj k) λn=>k.min<=n.val/\n.val<=k.max:=⟨λh=>by
 obtain⟨n,rfl,_,hw⟩:=DataW.trod_int a h;exact⟨(n:Int),T,AY hw⟩⟩
def s9(a:P.underlying t=σ (.int .i64)):m9 P t Int λn=>X6.min<=n/\n<=X6.max:=⟨λh=>by
 obtain⟨n,rfl,_,hw⟩:=DataW.trod_int a h;exact⟨n,T,AY hw⟩⟩
def KC(a:Addr)(m n:Nat):(a.add m).add n=a.add (m+n):=by
 unfold Addr.add;by_cases hm:m=0<;>by_cases e:n=0<;>simp[hm,e,R4]
def KD{base:Nat}{a:Addr}(h:w.cells? base a n=σ cs):cs.length=n/\∀j v,cs[j]?=σ v->w.cell? (a.add j)=σ v:=by
 unfold x3.cells? at h;split at h
 .have e:cs.length=n:=by
   have:=mapM_some_length h;simpa using this
  refine⟨e,λj v ad=>?_⟩;have f:=(x4.1 ad).1;have:=mapM_some_get h j j (List.getElem?_range Ω);rw[this,ad]
 .cases h
def KE{G:α->Prop}(L:P.underlying t=σ (.slice e))(he:m9 P e α G)(M:P.cellsOf e=au.n α)(U:0<au.n α):m9 P t (List α) λl=>∀a∈l,G a:=by
 constructor;intro H enc w base spare held fuel cs x h;rcases DataW.trod_slice L h with⟨rfl,_⟩|⟨a,len,cap,V,rest,n,_,rfl,rfl,W,X,hm,Y,N,_,_⟩
 .exact⟨[],hK,λ_ h=>by cases h⟩
 .
  have J:∀i,i<len->∃(c:List x1)(y:α),c.length=au.n α/\(∀j v,c[j]?=σ v->w.cell? (a.add (i*au.n α+j))=σ v)/\Seen eM w c y/\G y:=by
   intro i hi;have h1:=N i hi;rw[x6 Ω,M,Option.bind_eq_some_iff]at h1;have⟨c,q,r⟩:=h1;have⟨A,B⟩:=KD q;have⟨y,C,O⟩:=he.op r;exact⟨c,y,A,λj v ad=>by have:=B j v ad;rwa [KC]at this,C,O⟩
  have all:∀m,m<=len->∃(vs:List (List x1))(l:List α),vs.length=m/\l.length=m/\(∀c∈vs,c.length=au.n α)/\(∀(j:Nat)(v:x1),vs.flatten[j]?=σ v->w.cell? (a.add j)=σ v)/\
    (∀(i:Nat)(c:List x1)(y:α),vs[i]?=σ c->l[i]?=σ y->Seen eM w c y)/\∀y∈l,G y:=by
   intro m;induction m with
   |zero=>exact λ_=>⟨[],[],rfl,rfl,(λ_ h=>by cases h),(λj v h=>by simp at h),(λi c y h=>by simp at h),(λ_ h=>by cases h)⟩
   |succ m Q=>
    intro hm;have⟨vs,l,h1,q,r,A,B,C⟩:=Q Ω;have⟨c,y,g1,E,R,S⟩:=J m Ω;refine⟨vs++[c],l++[y],by simp[h1],by simp[q],λd f=>?_,λj v ad=>?_,λi d z f p=>?_,λz p=>?_⟩
    .rcases o5.1 f with f|f
     .exact r d f
     .simp at f;subst f;exact g1
    .have s:=qI r;rw[h1]at s;rw[List.flatten_append]at ad;by_cases T:j<m*au.n α
     .rw[Y6 Ω]at ad;exact A j v ad
     .rw[Y8 Ω,s]at ad;simp at ad;have:=E _ v ad;rwa [show m*au.n α+(j-m*au.n α)=j by omega]at this
    .by_cases hi:i<m
     .rw[Y6 Ω]at f p;exact B i d z f p
     .have F:=(x4.1 f).1;simp[h1]at F;have F:i=m:=Ω
      subst F;rw[Y8 Ω,h1]at f;rw[Y8 Ω,q]at p;simp at f p;subst f p;exact R
    .rcases o5.1 p with p|p
     .exact C z p
     .simp at p;subst p;exact S
  have⟨vs,l,h1,q,r,A,B,C⟩:=all len (o4 _);have s:=qI r;rw[h1]at s;have K:0<len->a=⟨a.block,a.off,ν⟩:=λI=>by
   have⟨c,y,g1,E,_⟩:=J 0 Ω;have:=E 0 c[0] (x6 Ω);rw[Nat.zero_mul]at this;exact vU this
  refine⟨l,⟨_,rfl,vs,0,λ_ _=>False,⟨λ_ _ h=>h.elim,(λh=>by cases h),(λh=>by cases h)⟩,⟨Ω,B⟩,⟨by rw[s,q],a.block,a.off,σ a,cap,by rw[q],Ω,hm,λI=>congrArg σ (K Ω),λ_=>.inr trivial,λj v ad=>?_⟩,λh=>by cases h⟩,C⟩;have:=A j v ad;have T:=(x4.1 ad).1;have I:0<len:=by
   rcases Q3 len with h|h
   .rw[h,Nat.zero_mul]at s;omega
   .exact h
  rw[K I,U9]at this;exact this
structure ta(P:W8)(fs:List Field)(off:Nat)(α:Type)[au α](G:α->Prop):Prop where
 op:∀{H:Type}{enc:p9×x1->H}{w:x3}{base:Nat}{spare:Nat->Bool}{held:Bool}{n:Nat}{cs:List x1},cs.length=off+au.n α->
  (∀f∈fs,∃x,DataW.trod enc P w base spare held n f.type ((cs.drop f.offset).take (P.cellsOf f.type))=σ x)->∃a:α,Seen eM w (cs.drop off) a/\G a
def KF{f:Field}{G:α->Prop}(h:m9 P f.type α G)(e:f.offset=off)(p:P.cellsOf f.type=au.n α):ta P [f] off α G:=by
 constructor;intro H enc w base spare held n cs r ae;have⟨x,J⟩:=ae f (.head _);have⟨a,h1,q⟩:=h.op J;rw[e,p,b8 Θ]at h1;exact⟨a,h1,q⟩
def tb{f:Field}{e:List Field}{G:α->Prop}{q:β->Prop}(h:m9 P f.type α G)(r:f.offset=off)(s:P.cellsOf f.type=au.n α)(y:ta P e (off+au.n α) β q):
  ta P (f::e) off (α×β) λp=>G p.1/\q p.2:=by
 constructor;intro H enc w base spare held n cs E ae;have⟨x,J⟩:=ae f (.head _);have⟨a,h1,z⟩:=h.op J;rw[r,s]at h1;have F:au.n (α×β)=au.n α+au.n β:=rfl;have⟨b,A,B⟩:=y.op Ω λg C=>ae g (.tail _ C);refine⟨(a,b),⟨(cs.drop off).take (au.n α),cs.drop (off+au.n α),λ_=>False,λ_=>False,?_,λ_ h=>h,λ_ h=>h,(λh=>by cases h),h1,A⟩,z,B⟩;rw[<-List.drop_drop,List.take_append_drop]
def KG{a:List Field}{G:α->Prop}(e:P.underlying t=σ (.struct a.toArray))(ae:ta P a 0 α G)(y:P.cellsOf t=au.n α):m9 P t α G:=by
 constructor;intro H enc w base spare held fuel cs x h;obtain⟨xs,n,_,rfl,z,p,q⟩:=DataW.trod_struct e h;have:=ae.op (enc:=enc) (w:=w) (base:=base) (spare:=spare) (held:=held) (n:=n) (cs:=cs) Ω λf r=>by
  obtain⟨i,hi,rfl⟩:=List.mem_iff_getElem.1 r;have s:i<xs.length:=by simpa[p]using hi
  have:=q i a[i] (by simp[hi]);rw[x6 s]at this;exact⟨_,this⟩
 simpa using this
end
end Go.Vc
