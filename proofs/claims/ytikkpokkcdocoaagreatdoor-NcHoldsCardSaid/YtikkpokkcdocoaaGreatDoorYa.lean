/- own texts, made small by a tool (wip/ holds them as they were written): no statement of the seat. -/
import Derived.RangeFuncNested
import Derived.RangeFuncLeaves
import Derived.OrdersIn
import Derived.KernelRfl
import Derived.Deep.Upon
import Derived.RangeFuncBound
import Derived.Deep.MidRow
import Derived.Laws.Cover3
import Derived.Laws.Pointers
import Derived.Laws.StructEq
import Derived.Laws.Tables
import Derived.Below
import Derived.Laws.MakeOwn
import Derived.Lib.Overlaps
import Derived.Lib.AppendZerosOnto
import Derived.Lib.SliceRun
import Derived.OpenShut
import Derived.Lib.ConvBytes
import Derived.Laws.BytesArg
import Derived.Laws.Concat
import Derived.MapKept
import Derived.Carry
import Derived.WideKeyArr
import Derived.WideKeyMaps
import Derived.Laws.IdiomRangeMap
import Derived.Shelf.SlSortCmp.NoneTotal
import Derived.Shelf.SlSortCmp.WholeK
import Derived.Ground.SlsfProg
import Derived.WideKeyEntry
import Derived.WalkKit
import Derived.Test.YtikkpokkcdocoaaGreatDoorProg
import Derived.Test.YtikkpokkcdocoaaGreatDoorChecked
set_option linter.unusedVariables false
set_option linter.unusedSimpArgs false
set_option linter.unnecessarySimpa false
open Array renaming getElem?_eq_some_iff→j6,getElem?_toList→S7
open BitVec renaming ofInt→T0
open Bool renaming not_true→Y9,not_false→X9,and_eq_true→U1,or_eq_false_iff→U3
open Decidable renaming not_not→X2
open Go renaming Value→x3,World→x4,TypeId→r9,IntKind→o9,Builtin→Z4,Program→W9,Oper→T2,Operand→S4,FuncId→R6
open Go.Addr renaming add_mid→T4
open Go.Builtin renaming append_→Z3,len_→W7
open Go.Instr renaming loadAt→u5,fieldAt→u6,storeAt→o8,indexAt→j5,extract→Y2,buildSlice→Y8,sliceAt→V8
open Go.IntKind renaming i64→X7,u64→U8
open Go.Proofs.Tryz renaming prog→x8
open Go.Result renaming andThen→W8
open Go.Sem renaming run_bind→W6,run_pure→V3
open Go.Sort renaming Holds→S5
open Go.Value renaming int→V5
open Go.World renaming putObj_heap_other→R7
open Int renaming toNat_natCast→u9,eq_ofNat_of_zero_le→U6,le_refl→Q1
open List renaming getElem?_eq_some_iff→x5,mem_of_getElem?→x6,getElem?_eq_getElem→x7,getElem?_map→v8,getD_eq_getElem?_getD→u4,length_map→u7,take_add_one→r8,replicate→o4,take_length→o6,length_append→o7,length_take→n9,mem_append→l9,mem_map→j0,mem_singleton→j4,take_of_length_le→j9,getElem?_set_self→c9,eq_nil_of_length_eq_zero→b9,map_append→Z2,length_cons→Z5,length_set→Z9,getElem?_take_of_lt→Y0,getElem?_append_left→Y1,getElem?_append_right→Y3,getElem?_eq_none→Y4,getElem?_set_ne→Y5,ext_getElem?→Y7,getElem?_set→X1,drop_eq_getElem_cons→X8,range→W3,mem_or_eq_of_mem_set→W5,length_eq_one_iff→V0,mem_cons→V1,map_set→U5,append_nil→U9,map_cons→T1,append_assoc→T3,foldl_cons→T7,set_append_right→T8,mem_of_mem_take→T9,getElem?_drop→S2,getElem_mem→Q3
open Nat renaming le_refl→o5,le_trans→X0,zero_add→X3,zero_le→X5,mul_le_mul_right→W0,mul_one→U2,sub_self→U4,add_mul→U7,lt_of_lt_of_le→T5,beq→S0,add_assoc→R3,eq_zero_or_pos→Q2
open Ne renaming symm→S6
open Option renaming toList_some→l7,some→b8,isNone_some→Z6,map_some→Z7,getD_some→V2,map→V9
open Option.some renaming injEq→X4
open Prod.mk renaming injEq→S1
set_option maxHeartbeats 16000000
open Option renaming some→σ,none→ν
abbrev Λ:=List Int
namespace Go
theorem Ω{p:Prop}(h:p:=by omega):p:=h
theorem Ψ{p:Prop}(h:p:=by kernel_rfl):p:=h
theorem Φ{p:Prop}(h:p:=by decide):p:=h
theorem Ξ{p:Prop}(h:p:=by simp):p:=h
theorem Θ{p:Prop}(h:p:=by simp;omega):p:=h
abbrev Γ(n:Nat):Value:=.pointer (some ⟨n,0,none⟩)
abbrev Δ:Int→Value:=Value.int .i64
end Go
variable{a y:Int}{c w w':x4}{S:Nat->Prop}{N f h j n:Nat}{aO s1 sv v z:x3}{args cs vs xs:List x3}{K:x3->Prop}{ah l:Λ}{D:List Nat}{k:o9}{e t:r9}{cx cy:Bool}
namespace Go.Vc
open Go Go.RowKit
def fx:Obj->Bool
 | .loop _=>false
 | .deferred _=>false
 | .mapIter ..=>false
 |_=>true
def book:Obj->Bool
 | .loop _=>true
 | .deferred _=>true
 |_=>false
theorem xI{o:Obj}(h:book o=true):fx o=false:=by cases o<;>first|rfl|cases h
def rl:Obj->Bool
 | .mapIter ..=>true
 |_=>false
theorem Fj{o:Obj}(h:rl o=true):fx o=false:=by cases o<;>first|rfl|cases h
structure Ext(w w':x4):Prop where
 size:w.heap.size<=w'.heap.size
 aU:∀(r:Nat)(o:Obj),w.heap[r]?=σ o->fx o=true->w'.heap[r]?=σ o
theorem Ext.refl(w:x4):Ext w w:=⟨o5 _,λ_ _ h _=>h⟩
theorem Ext.trans{a b:x4}(h:Ext a b)(k:Ext b c):Ext a c:=
 ⟨X0 h.size k.size,λr o e I=>k.aU r o (h.aU r o e I) I⟩
structure ae(S:Nat->Prop)(w w':x4):Prop where
 size:w.heap.size<=w'.heap.size
 aU:∀(r:Nat)(o:Obj),w.heap[r]?=σ o->fx o=true->¬S r->w'.heap[r]?=σ o
theorem Ext.aa(S:Nat->Prop)(h:Ext w w'):ae S w w':=⟨h.size,λr o a I _=>h.aU r o a I⟩
theorem ae.ext(h:ae S w w')(e:∀r,r<w.heap.size->¬S r):Ext w w':=
 ⟨h.size,λr o a I=>h.aU r o a I (e r (j6.1 a).1)⟩
theorem ae.refl(S:Nat->Prop)(w:x4):ae S w w:=⟨o5 _,λ_ _ h _ _=>h⟩
theorem ae.trans{a b:x4}(h:ae S a b)(k:ae S b c):ae S a c:=
 ⟨X0 h.size k.size,λr o f I e=>k.aU r o (h.aU r o f I e) I e⟩
theorem ae.mono{T:Nat->Prop}{a b:x4}(h:ae S a b)(f:∀r,r<a.heap.size->S r->T r):ae T a b:=
 ⟨h.size,λr o e I j=>h.aU r o e I λp=>j (f r (j6.1 e).1 p)⟩
theorem Ext.then{a b:x4}(h:Ext a b)(k:ae S b c)(f:∀r,r<a.heap.size->¬S r):Ext a c:=
 ⟨X0 h.size k.size,λr o e I=>k.aU r o (h.aU r o e I) I (f r (j6.1 e).1)⟩
def jv(w w':x4):Prop:=w'.tape=w.tape/\w.drawn<=w'.drawn
theorem jv.kb(h:w'.tape=w.tape:=by rfl)(k:w'.drawn=w.drawn:=by rfl):jv w w':=⟨h,Nat.le_of_eq k.symm⟩
theorem jv.trans{a b:x4}(k:jv b c)(h:jv a b):jv a c:=⟨k.1.trans h.1,X0 h.2 k.2⟩
structure cJ(w w':x4):Prop where
 os:w'.os=w.os
 tape:jv w w'
 output:w'.output=w.output
 size:w.heap.size<=w'.heap.size
 aU:∀(r:Nat)(o:Obj),w.heap[r]?=σ o->fx o=false->w'.heap[r]?=σ o
structure cB(n:Nat)(w w':x4):Prop where
 os:w'.os=w.os
 tape:jv w w'
 output:w'.output=w.output
 size:w.heap.size<=w'.heap.size
 aU:∀(r:Nat)(o:Obj),w.heap[r]?=σ o->book o=true->w'.heap[r]?=σ o
 old:∀(r:Nat)(o:Obj),r<n->w.heap[r]?=σ o->fx o=false->w'.heap[r]?=σ o
theorem cJ.b(h:cJ w w'):cB n w w':=⟨h.os,h.tape,h.output,h.size,λr o a I=>h.aU r o a (xI I),λr o _ a I=>h.aU r o a I⟩
theorem cB.refl(n:Nat)(w:x4):cB n w w:=⟨rfl,.kb,rfl,o5 _,λ_ _ h _=>h,λ_ _ _ h _=>h⟩
theorem cB.trans{a b:x4}(h:cB n a b)(k:cB n b c):cB n a c:=
 ⟨k.os.trans h.os,k.tape.trans h.tape,k.output.trans h.output,X0 h.size k.size,λr o e I=>k.aU r o (h.aU r o e I) I,λr o f e I=>k.old r o f (h.old r o f e I) I⟩
theorem cB.cu(h:cB n w w')(e:w.heap.size<=n):cJ w w':=
 ⟨h.os,h.tape,h.output,h.size,λr o a I=>h.old r o (T5 (j6.1 a).1 e) a I⟩
structure fy(n:Nat)(w w':x4):Prop where
 os:w'.os=w.os
 tape:jv w w'
 output:w'.output=w.output
 size:w.heap.size<=w'.heap.size
 old:∀(r:Nat)(o:Obj),r<n->w.heap[r]?=σ o->fx o=false->w'.heap[r]?=σ o
theorem cB.o(h:cB n w w'):fy n w w':=⟨h.os,h.tape,h.output,h.size,h.old⟩
theorem cJ.o(h:cJ w w'):fy n w w':=⟨h.os,h.tape,h.output,h.size,λr o _ a I=>h.aU r o a I⟩
theorem fy.mono{m:Nat}(h:fy n w w')(hm:m<=n):fy m w w':=⟨h.os,h.tape,h.output,h.size,λr o a=>h.old r o (T5 a hm)⟩
theorem cB.xJ{m:Nat}{a b:x4}(h:cB n a b)(k:fy m b c)(hm:a.heap.size<=m):cB n a c:=
 ⟨k.os.trans h.os,k.tape.trans h.tape,k.output.trans h.output,X0 h.size k.size,
  λr o e I=>k.old r o (T5 (j6.1 e).1 hm) (h.aU r o e I) (xI I),
  λr o f e I=>k.old r o (T5 (j6.1 e).1 hm) (h.old r o f e I) I⟩
def e4(w w':x4):Prop:=∀(r:Nat)(o:Obj),w.heap[r]?=σ o->rl o=true->w'.heap[r]?=σ o
theorem e4.refl(w:x4):e4 w w:=λ_ _ h _=>h
theorem e4.trans{a b:x4}(h:e4 a b)(k:e4 b c):e4 a c:=λr o e I=>k r o (h r o e I) I
theorem cJ.kc(h:cJ w w'):e4 w w':=λr o a I=>h.aU r o a (Fj I)
abbrev fz:=Bool×Nat
theorem cJ.refl(w:x4):cJ w w:=⟨rfl,.kb,rfl,o5 _,λ_ _ h _=>h⟩
theorem cJ.trans{a b:x4}(h:cJ a b)(k:cJ b c):cJ a c:=
 ⟨k.os.trans h.os,k.tape.trans h.tape,k.output.trans h.output,X0 h.size k.size,λr o e I=>k.aU r o (h.aU r o e I) I⟩
theorem rm(w:x4)(n:Nat):Ext w {w with drawn:=n}:=⟨o5 _,λ_ _ h _=>h⟩
theorem pG(w:x4)(n:Nat)(h:w.drawn<=n):cJ w {w with drawn:=n}:=⟨rfl,⟨rfl,h⟩,rfl,o5 _,λ_ _ h _=>h⟩
theorem pH(w:x4)(o:Obj):Ext w {w with heap:=w.heap.push o}:=
 ⟨Ξ,λr o' h _=>by
  have a:=(j6.1 h).1;simp only[Array.getElem?_push];rw[if_neg Ω];exact h⟩
theorem pI(w:x4)(o:Obj):cJ w {w with heap:=w.heap.push o}:=
 ⟨rfl,.kb,rfl,Ξ,λr o' h _=>by
  have a:=(j6.1 h).1;simp only[Array.getElem?_push];rw[if_neg Ω];exact h⟩
inductive eD where
 |v (x:x3)
 |b (c:Bool)
 |u
def eD.val:eD->x3
 | .v x=>x
 | .b c=>.bool c
 | .u=>undef
def eD.ofConst:x3->eD
 | .bool c=>.b c
 |x=>.v x
theorem eD.Fk(x:x3):(eD.ofConst x).val=x:=by cases x<;>rfl
abbrev Env:=List (Nat×eD)
def look:Env->Nat->Option eD
 |[],_=>ν
 |(s,x)::r,t=>bif S0 s t then σ x else look r t
def eJ(e:Env):S4->Option eD
 | .tmp t=>look e t
 | .const x=>σ (eD.ofConst x)
 | .global g=>σ (.v (Γ g))
 | .func f=>σ (.v (.func (.func f) #[] #[]))
def cT(e:Env)(x:S4):x3:=
 match eJ e x with
 |some y=>y.val
 |none=>undef
def known(e:Env):List S4->Bool
 |[]=>true
 |x::r=>(eJ e x).isSome&&known e r
def S5(N:Nat)(e:Env)(a:Act):Prop:=
 a.tmps.size=N/\∀t x,look e t=σ x->a.tmps.getD t undef=x.val
theorem S5.eJ{e:Env}{a:Act}(h:S5 N e a){x:S4}{y:eD}(j:Vc.eJ e x=σ y):a.eval x=y.val:=by
 cases x with
 |tmp t=>exact h.2 t y j
 |const v=>simp[Vc.eJ]at j;subst j;simp[Act.eval,eD.Fk]
 |global g=>simp[Vc.eJ]at j;subst j;rfl
 |func f=>simp[Vc.eJ]at j;subst j;rfl
theorem S5.eval{e:Env}{a:Act}(h:S5 N e a){x:S4}(j:(Vc.eJ e x).isSome=true):a.eval x=cT e x:=by
 obtain⟨y,f⟩:=Option.isSome_iff_exists.1 j;rw[h.eJ f];simp[cT,f]
theorem tU{e:Env}:∀{l:List S4},known e l=true->∀x∈l,(eJ e x).isSome=true
 |[],_,_,a=>by cases a
 |y::r,h,x,a=>by
  simp only[known,U1]at h;cases a with
  |head=>exact h.1
  |tail _ a=>exact tU h.2 x a
def ea(e:Env)(d:Option Tmp)(x:eD):Env:=
 match d with
 |some t=>(t,x)::e
 |none=>e
def jw(N:Nat)(d:Option Tmp):Bool:=
 match d with
 |some t=>Nat.blt t N
 |none=>true
theorem S5.put{e:Env}{a:Act}(h:S5 N e a){d:Option Tmp}(p:jw N d=true){x:eD}(q:x.val=v):
  S5 N (ea e d x) (a.put d v):=by
 cases d with
 |none=>exact h
 |some t=>
  have r:t<N:=by simpa[jw,Nat.blt_eq]using p
  refine⟨by simp[Act.put,h.1],λs y I=>?_⟩;simp only[ea,look]at I;cases f:S0 t s with
  |true=>
   have j:t=s:=Nat.eq_of_beq_eq_true f;subst j;simp only[f,cond_true,X4]at I;subst I;simp[Act.put,h.1,r,q]
  |false=>
   have j:t≠s:=Nat.ne_of_beq_eq_false f;simp only[f,cond_false]at I;have:=h.2 s y I;simp only[Act.put,Array.getD_eq_getD_getElem?]at this ⊢;rw[Array.getElem?_setIfInBounds_ne j];exact this
def ez(r:Option Nat):Fence:={Fence.wide with round:=r}
theorem tV(r:Option Nat)(n:Nat):(ez r).depth.isSome=true->1<=n:=λh=>by simp[ez,Fence.wide]at h
theorem xK{r:Option Nat}{P:W9}{f:R6}{args:Array x3}{R:Ending->x4->Prop}(h:Calls P f args w R):CallsIn (ez r) n P f args w R:=by
 have:=(callsIn_wide (n:=n)).2 h;exact this
section
variable(P:W9)
def aC{α:Type}(s:Sem α)(w:x4)(K:α->x4->Prop):Prop:=∃v w',s.run P w= .ok v w'/\cJ w w'/\K v w'
def rn{α:Type}(free:fz)(s:Sem α)(w:x4)(K:α->x4->Prop):Prop:=∃v w',s.run P w= .ok v w'/\(free.1=false->cB free.2 w w')/\K v w'
def Split(x:x3)(A B:Prop):Prop:=∃c,x= .bool c/\(c=true->A)/\(c=false->B)
def aZ:Bool->S4
 |true=>.const (.bool true)
 |false=>.tmp 0
def ow:S4->Bool
 | .const _=>true
 |_=>false
theorem Fl(op:BinOp)(t:r9)(x y:S4)(a b:x3):eqGuard op t x y a b=eqGuard op t (aZ (ow x)) (aZ (ow y)) a b:=by
 cases x<;>cases y<;>rfl
def aJ(op:BinOp)(t:r9)(cx cy:Bool)(a b:x3):Sem x3:=do eqGuard op t (aZ cx) (aZ cy) a b;binOp op t a b
def rp(s:Sem Next):Sem x3:=do
 match <-s with
 | .value v=>pure v
 |_=>stuck "no value"
def bP(x:x3):Sem x3:=rp (execOp (λ_=>x) {dst:=ν,op:=.nilCheck (.tmp 0),type:=0,pos:= "",after:=#[],guard:=ν})
def bY(a:S4->x3):List S4->List x3
 |[]=>[]
 |x::r=>a x::bY a r
theorem rq(a:S4->x3):∀l,bY a l=l.map a
 |[]=>rfl
 |x::r=>by simp[bY,rq a r]
theorem tW(a:S4->x3)(l:Array S4):(bY a l.toList).toArray=l.map a:=by
 apply Array.toList_inj.1;simp[rq]
def partsOf(a:S4->x3):List (Nat×S4)->List (Nat×x3)
 |[]=>[]
 |x::r=>(x.1,a x.2)::partsOf a r
theorem xL(a:S4->x3):∀l,partsOf a l=l.map λ(i,x)=>(i,a x)
 |[]=>rfl
 |x::r=>by simp[partsOf,xL a r]
theorem Fm(a:S4->x3)(l:Array (Nat×S4)):(partsOf a l.toList).toArray=l.map λ(i,x)=>(i,a x):=by
 apply Array.toList_inj.1;simp[xL]
def opsOf:Op->List S4
 | .alloc _| .ready _| .waits _=>[]
 | .move x| .assign x| .box _ x| .load _ x| .nilCheck x| .unOp _ _ x| .convert _ _ x| .sliceToArrayPointer _ x| .makeInterface _ x
 | .makeChan _ x| .fieldAddr _ x _| .field _ x _| .range _ x| .next x _| .entry x| .typeAssert x _ _ _| .extract x _| .panic x| .recv _ x _=>[x]
 | .pick c a b=>[c,a,b]
 | .build _ e| .buildSlice _ _ e=>e.toList.map (·.2)
 | .store _ a v| .binOp _ _ a v _| .makeSlice _ a v| .indexAddr _ a v| .index _ a v| .lookup _ a v _| .mapEntry _ a v| .send a v=>[a,v]
 | .makeFunc _ first j=>first.toList++j.toList
 | .makeMap _ r=>match r with
  |some x=>[x]
  |none=>[]
 | .slice _ x l h m=>x::((match l with
  |some y=>[y]
  |none=>[])++((match h with
  |some y=>[y]
  |none=>[])++(match m with
  |some y=>[y]
  |none=>[])))
 | .mapUpdate _ m k v| .entryStore _ m k v| .insert _ m k v=>[m,k,v]
 | .call c=>match c.callee with
  | .value f=>f::c.args.toList
  | .invoke r _=>r::c.args.toList
  | .builtin _=>c.args.toList
 | .go _| .defer _| .select ..=>[]
theorem Fo{op:Op}(h1:∀c,op≠ .go c)(e:∀c,op≠ .defer c)(f:∀cs b,op≠ .select cs b):∀x∈op.operands,x∈opsOf op:=by
 intro x a;cases op<;>simp only[Op.operands,opsOf]at a ⊢<;>try (first|(simp at a;done)|(simp at a ⊢;exact a))
 case go c=>exact absurd rfl (h1 c)
 case defer c=>exact absurd rfl (e c)
 case select cs b=>exact absurd rfl (f cs b)
 case makeMap t r=>cases r<;>simp at a ⊢<;>exact a
 case slice t y l h m=>cases l<;>cases h<;>cases m<;>simpa[or_assoc]using a
 case call c=>cases j:c.callee<;>simpa[Call.operands,j]using a
def pJ(e:S4->x3):Op->Option (Sem x3)
 | .pick c a b=>σ (do pure (if <-asBool (e c)then e a else e b))
 | .alloc j=>σ (Instr.alloc j true (.tuple #[]))
 | .box j x=>σ (Instr.box j (e x))
 | .build t parts=>σ (Instr.build t (partsOf e parts.toList).toArray)
 | .buildSlice t len parts=>σ (Y8 t len (partsOf e parts.toList).toArray)
 | .load t a=>σ (u5 t (e a))
 | .nilCheck x=>σ (bP (e x))
 | .binOp op h8 x y _=>σ (aJ op h8 (ow x) (ow y) (e x) (e y))
 | .unOp op _ x=>σ (Op.unary op (e x))
 | .convert src dst x=>σ (convert src dst (e x))
 | .makeInterface h8 x=>σ (Instr.makeInterface h8 (e x))
 | .makeFunc fn first p=>σ (Instr.makeFunc fn (bY e first.toList).toArray (bY e p.toList).toArray)
 | .makeMap t r=>σ (Instr.makeMap t (r.map e))
 | .makeSlice t l c=>σ (Instr.makeSlice t (e l) (e c))
 | .slice t x lo hi mx=>σ (V8 t (e x) (lo.map e) (hi.map e) (mx.map e))
 | .fieldAddr s x f=>σ (u6 s (e x) f)
 | .field h8 x f=>σ (Instr.field h8 (e x) f)
 | .indexAddr t x h=>σ (j5 t (e x) (e h))
 | .index h8 x h=>σ (Instr.index h8 (e x) (e h))
 | .lookup h8 x h ok=>σ (Instr.lookup h8 (e x) (e h) ok)
 | .mapEntry t m k=>σ (Instr.mapEntry t (e m) (e k))
 | .range h8 x=>σ (Instr.range h8 (e x))
 | .entry q=>σ (Instr.entry (e q))
 | .typeAssert x h8 w ok=>σ (Instr.typeAssert (e x) h8 w ok)
 | .extract t h=>σ (Y2 (e t) h)
 |_=>ν
def tX(e:S4->x3):Op->Option (Sem Unit)
 | .store t a x=>σ (o8 t (e a) (e x))
 | .mapUpdate t m k x=>σ (Instr.mapUpdate t (e m) (e k) (e x))
 | .insert t m k x=>σ (Instr.mapUpdate t (e m) (e k) (e x))
 | .entryStore t m s x=>σ (Instr.entryStore t (e m) (e s) (e x))
 |_=>ν
def ox(b:Z4)(ats:Array r9)(a:r9)(args:Array x3):Option (Sem x3):=
 match b with
 | .append=>σ (Z3 ats a args)
 | .cap=>σ (Z4.cap_ ats a args)
 | .clear=>σ (Z4.clear_ ats a args)
 | .copy=>σ (Z4.copy_ ats a args)
 | .delete=>σ (Z4.delete_ ats a args)
 | .len=>σ (W7 ats a args)
 | .max=>σ (Z4.max_ ats a args)
 | .min=>σ (Z4.min_ ats a args)
 |_=>ν
theorem Fp{s:Sem Next}(h:(rp s).run P w= .ok v w'):s.run P w= .ok (.value v) w':=by
 unfold rp at h;rw[W6]at h;cases I:s.run P w with
 |halt x J=>rw[I]at h;simp[W8]at h
 |ok x J=>
  rw[I]at h;cases x<;>simp_all [W8,stuck,V3]
theorem Fq(x:x3)(b:Bool)(t:r9):Instr.next x b 0=Instr.next x b t:=rfl
theorem tY{f:S4->x3}{o:T2}{s:Sem x3}(h:pJ f o.op=σ s)(a:s.run P w= .ok v w'):
  (execOp f o).run P w= .ok (.value v) w':=by
 cases e:o.op with
 |nilCheck x=>
  rw[e]at h;cases h;have:=Fp P a;unfold execOp at this ⊢;simpa[e]using this
 |pick c x y=>
  rw[e]at h;cases h;unfold execOp;simp only[e,W6,V3]at a ⊢;cases j:(asBool (f c)).run P w with
  |halt x J=>rw[j]at a;simp[W8]at a
  |ok x J=>rw[j]at a;simp only[W8,Result.ok.injEq]at a ⊢;simp[a]
 |binOp op h8 x y p=>
  rw[e]at h;cases h;unfold execOp;simp only[e];unfold aJ at a;rw[<-Fl]at a;simp only[W6,V3]at a ⊢;rw[a];rfl
 |_=>
  rw[e]at h
  first
   |(cases h;done)
   |(cases h;simp only[tW,Fm]at a;unfold execOp;simp only[e,W6,a,W8,V3])
   |(cases h;unfold execOp;simp only[e,W6,a,W8,V3])
theorem Fr{a:S4->x3}{o:T2}{s:Sem Unit}(h:tX a o.op=σ s){v:Unit}(f:s.run P w= .ok v w'):
  (execOp a o).run P w= .ok .skip w':=by
 cases e:o.op with
 |_=>
  rw[e]at h
  first
   |(cases h;done)
   |(cases h;unfold execOp;simp only[e,W6,f,W8,V3])
def Enters(f:R6):Prop:=∀args w,(callFunc f args).run P w= .ok (.enter f args) w
inductive ai(f:R6)(args:List x3)(w:x4)(K:x3->x4->Prop):Prop
 |code (h1:Enters P f) (h2:Calls P f args.toArray w λe w'=>∃v,e= .returned v/\cJ w w'/\K v w')
 |ext (v:x3) (w':x4) (h1:(callFunc f args.toArray).run P w= .ok (.value v) w') (h2:cJ w w') (h3:K v w')
inductive gI(f:R6)(args:List x3)(w:x4)(K:x3->x4->Prop):Prop
 |code (h1:Enters P f) (h2:Calls P f args.toArray w λe w'=>∃v,e= .returned v/\K v w')
 |ext (v:x3) (w':x4) (h1:(callFunc f args.toArray).run P w= .ok (.value v) w') (h3:K v w')
theorem gI.calls{f:R6}{K:x3->x4->Prop}(h:gI P f args w K)(a:Enters P f):Calls P f args.toArray w λe w'=>∃v,e= .returned v/\K v w':=by
 cases h with
 |code _ h=>exact h
 |ext v w' h1=>rw[a]at h1;cases h1
def hJ(l:Nat)(args:List x3)(w:x4)(K:x3->x4->Prop):Prop:=
 YieldAt Fence.wide 0 P l args.toArray w λe w'=>∃v,e= .returned v/\K v w'
theorem hJ.mono{P:W9}{l:Nat}{K a:x3->x4->Prop}(h:hJ P l args w K)(e:∀v w',K v w'->a v w'):hJ P l args w a:=by
 obtain⟨fn,tmps,f,body,j,p⟩:=h;exact⟨fn,tmps,f,body,j,RoundIn.mono p λ_ w' ⟨v,h1,q⟩=>⟨v,h1,e v w' q⟩⟩
def rr(free:Bool)(f:x3)(args:List x3)(w:x4)(K:x3->x4->Prop):Prop:=
 match f with
 | .func (.func g) first cap=>bif free then gI P g (first.toList++args++cap.toList) w K else ai P g (first.toList++args++cap.toList) w K
 | .func (.yield l) first _=>bif free then free=true/\hJ P l (first.toList++args) w K else hJ P l (first.toList++args) w λv w'=>cJ w w'/\K v w'
 |_=>False
def V(s:Sem x3)(w:x4)(K:x3->Prop):Prop:=∃v,(∀w',Ext w w'->s.run P w'= .ok v w')/\K v
def Fs:List (Nat×Nat):=[(9,22),(22,22)]
def Ft(s d:Nat):Bool:=Fs.any λp=>S0 p.1 s&&S0 p.2 d
def i7(o:T2):Bool:=
 match o.op with
 | .convert s d _=>!Ft s d
 | .move _| .assign _| .pick .. | .load .. | .nilCheck _| .binOp .. | .unOp .. | .makeInterface .. | .makeFunc .. | .slice .. | .fieldAddr .. | .field ..
 | .indexAddr .. | .index .. | .lookup .. | .extract .. | .build .. | .typeAssert ..=>true
 | .call c=>
  match c.callee with
  | .builtin .len| .builtin .cap| .builtin .min| .builtin .max=>true
  |_=>false
 |_=>false
def bZ(s:Sem x3)(v:x3)(w':x4):Prop:=∀a,Ext w' a->s.run P a= .ok v a
def lB(o:T2)(e:Env)(w:x4)(K:Env->(x4->Prop)->Prop):Prop:=
 bif known e (opsOf o.op)then
  match o.op with
  | .move x| .assign x=>
   match eJ e x with
   |some y=>K (ea e o.dst y) (λ_=>True)
   |none=>False
  | .pick c a b=>
   match eJ e c with
   |some (.b true)=>(match eJ e a with|some y=>K (ea e o.dst y) (λ_=>True)|none=>False)
   |some (.b false)=>(match eJ e b with|some y=>K (ea e o.dst y) (λ_=>True)|none=>False)
   |some (.v x)=>Split x (K (ea e o.dst (.v (cT e a))) (λ_=>True)) (K (ea e o.dst (.v (cT e b))) (λ_=>True))
   |some .u=>False
   |none=>False
  | .call c=>
   match c.callee with
   | .builtin b=>
    match ox b c.argTypes o.type (bY (cT e) c.args.toList).toArray with
    |some s=>V P s w λv=>K (ea e o.dst (.v v)) (bZ P s v)
    |none=>False
   |_=>False
  |op=>
   match pJ (cT e) op with
   |some s=>V P s w λv=>K (ea e o.dst (.v v)) (bZ P s v)
   |none=>False
 else False
def tZ(free:fz)(o:T2)(e:Env)(w:x4)(K:Env->x4->Prop):Prop:=
 bif known e (opsOf o.op)then
  match o.op with
  | .call c=>
   match c.callee with
   | .builtin b=>
    match ox b c.argTypes o.type (bY (cT e) c.args.toList).toArray with
    |some s=>aC P s w λv w'=>K (ea e o.dst (.v v)) w'
    |none=>False
   | .value (.func f)=>
    bif free.1 then gI P f (bY (cT e) c.args.toList) w λv w'=>K (ea e o.dst (.v v)) w'
    else ai P f (bY (cT e) c.args.toList) w λv w'=>K (ea e o.dst (.v v)) w'
   | .value x=>rr P free.1 (cT e x) (bY (cT e) c.args.toList) w λv w'=>K (ea e o.dst (.v v)) w'
   | .invoke _ _=>False
  | .next x str=>rn P free (Instr.next (cT e x) str 0) w λv w'=>K (ea e o.dst (.v v)) w'
  |op=>
   match pJ (cT e) op with
   |some s=>aC P s w λv w'=>K (ea e o.dst (.v v)) w'
   |none=>
    match tX (cT e) op with
    |some s=>aC P s w λ_ w'=>K (ea e o.dst (.v undef)) w'
    |none=>False
 else False
def oy(free:fz)(o:T2)(e:Env)(w:x4)(K:Env->x4->Prop):Prop:=
 bif i7 o then lB P o e w (λa _=>K a w)else tZ P free o e w K
theorem Enters.of{f:R6}{fn:Func}{c:Code}(a:P.funcs[f]?=σ fn)(e:fn.body=σ c)(h:(fn.name == "runtime.NumGoroutine")=false):Enters P f:=by
 intro args w;have j:fn.name≠ "runtime.NumGoroutine":=by simpa using h
 unfold callFunc;simp[W6,program,Sem.run,W8,a,j,e,V3]
variable{P}
variable{N:Nat}{r:Option Nat}{o:T2}{e:Env}{a:Act}{w:x4}
theorem kd(f:S5 N e a)(hk:known e (opsOf o.op)=true)(I:∀cs b,o.op≠ .select cs b)(h:∀c,o.op≠ .go c:=by simp_all)(j:∀c,o.op≠ .defer c:=by simp_all):
  execOp a.eval o=execOp (cT e) o:=
 execOp_congr o I λx p=>f.eval (tU hk x (Fo h j I x p))
theorem pK{next:Act->x4->Prop}{Q:Exit->Act->x4->Prop}(j:S5 N e a)(hk:known e (opsOf o.op)=true)(I:∀cs b,o.op≠ .select cs b)(f:∀c,o.op≠ .defer c){v:x3}{w':x4}(p:(execOp (cT e) o).run P w= .ok (.value v) w')(h:next (a.put o.dst v) w')(q:∀c,o.op≠ .go c:=by simp_all):o.wpIn (ez r) 0 P a w next Q:=by
 refine⟨λ_ _=>trivial,?_⟩;rw[T2.semAt_eq _ _ _ f,kd j hk I q f,p,T2.uponIn_value];exact h
theorem Fu{next:Act->x4->Prop}{Q:Exit->Act->x4->Prop}(j:S5 N e a)(hk:known e (opsOf o.op)=true)(I:∀cs b,o.op≠ .select cs b)(f:∀c,o.op≠ .defer c){w':x4}(p:(execOp (cT e) o).run P w= .ok .skip w')(h:next (a.put o.dst undef) w')(q:∀c,o.op≠ .go c:=by simp_all):o.wpIn (ez r) 0 P a w next Q:=by
 refine⟨λ_ _=>trivial,?_⟩;rw[T2.semAt_eq _ _ _ f,kd j hk I q f,p,T2.uponIn_skip];exact h
def fl(N:Nat)(free:fz)(K:Env->x4->Prop)(o:T2)(a:Act)(w:x4)(a':Act)(w':x4):Prop:=
 ∃e v,K e w'/\S5 N e a'/\a'=a.put o.dst v/\(free.1=false->cB free.2 w w')
theorem fl.of{free:fz}{K:Env->x4->Prop}{x:eD}(f:K (ea e o.dst x) w')(h:S5 N e a)(j:jw N o.dst=true)(p:x.val=v)(q:free.1=false->cB free.2 w w'):fl N free K o a w (a.put o.dst v) w':=⟨_,v,f,h.put j p,rfl,q⟩
theorem xM{free:fz}{K:Env->x4->Prop}{Q:Exit->Act->x4->Prop}{f:R6}{args:Array x3}(p:S5 N e a)(q:jw N o.dst=true)(h:Calls P f args w λj w'=>∃v,j= .returned v/\(free.1=false->cB free.2 w w')/\K (ea e o.dst (.v v)) w'):
  o.uponIn (ez r) 0 P a (fl N free K o a w) Q (.ok (.enter f args) w):=by
 rw[T2.uponIn_enter];refine⟨tV _ _,CallsIn.mono (xK h) ?_⟩;rintro j w' ⟨v,rfl,s,x⟩;exact fl.of x p q rfl s
theorem lC{x:S4}{y:eD}(h:eJ e x=σ y):cT e x=y.val:=by simp[cT,h]
theorem xN{l:List S4}{x:S4}(hk:known e l=true)(a:x∈l):∃y,eJ e x=σ y:=Option.isSome_iff_exists.1 (tU hk x a)
theorem xO{K:Env->(x4->Prop)->Prop}(h:lB P o e w K)(A:S5 N e a)(L:jw N o.dst=true):
  ∃v,∃st:x4->Prop,(∀w',Ext w w'->(execOp a.eval o).run P w'= .ok (.value v) w')/\(∃B,K B st/\S5 N B (a.put o.dst v))/\(∀c,o.op≠ .defer c)/\
   (∀w',st w'->∀j,Ext w' j->(execOp a.eval o).run P j= .ok (.value v) j):=by
 unfold lB at h;cases hk:known e (opsOf o.op)with
 |false=>rw[hk]at h;exact h.elim
 |true=>
  rw[hk]at h;simp only[cond_true]at h;have put:∀{x:eD}{v:x3}{st:x4->Prop},K (ea e o.dst x) st->x.val=v->∃B,K B st/\S5 N B (a.put o.dst v):=λh1 C=>⟨_,h1,A.put L C⟩;cases f:o.op with
  |move x=>
   rw[f]at h;simp only at h;cases q:eJ e x with
   |none=>rw[q]at h;exact h.elim
   |some y=>
    rw[q]at h;have all:∀w':x4,(execOp a.eval o).run P w'= .ok (.value y.val) w':=λw'=>by
     rw[kd A hk (by simp[f])];unfold execOp;simp only[f,V3,lC q]
    exact⟨y.val,_,λw' _=>all w',put h rfl,Ξ,λ_ _ j _=>all j⟩
  |assign x=>
   rw[f]at h;simp only at h;cases q:eJ e x with
   |none=>rw[q]at h;exact h.elim
   |some y=>
    rw[q]at h;have all:∀w':x4,(execOp a.eval o).run P w'= .ok (.value y.val) w':=λw'=>by
     rw[kd A hk (by simp[f])];unfold execOp;simp only[f,V3,lC q]
    exact⟨y.val,_,λw' _=>all w',put h rfl,Ξ,λ_ _ j _=>all j⟩
  |pick c x y=>
   rw[f]at h;simp only at h;have F:=hk;rw[f]at F;obtain⟨R,q⟩:=xN F (x:=x) (by simp[opsOf]);obtain⟨S,J⟩:=xN F (x:=y) (by simp[opsOf]);have E:∀(t:Bool)(w':x4),cT e c= .bool t->(execOp a.eval o).run P w'= .ok (.value (if t=true then cT e x else cT e y)) w':=by
    intro t w' G;rw[kd A hk (by simp[f])];unfold execOp;simp[f,G,asBool,V3]
   cases p:eJ e c with
   |none=>rw[p]at h;exact h.elim
   |some M=>
    rw[p]at h;cases M with
    |b t=>
     cases t with
     |true=>
      simp only[q]at h;exact⟨_,_,λw' _=>E true w' (lC p),put h (by simp[lC q]),Ξ,λ_ _ w' _=>E true w' (lC p)⟩
     |false=>
      simp only[J]at h;exact⟨_,_,λw' _=>E false w' (lC p),put h (by simp[lC J]),Ξ,λ_ _ w' _=>E false w' (lC p)⟩
    |v z=>
     obtain⟨t,O,G,Q⟩:=h;have r:=λw'=>E t w' (by rw[lC p];exact O);cases t with
     |true=>exact⟨_,_,λw' _=>r w',put (G rfl) rfl,Ξ,λ_ _ w' _=>r w'⟩
     |false=>exact⟨_,_,λw' _=>r w',put (Q rfl) rfl,Ξ,λ_ _ w' _=>r w'⟩
    |u=>exact h.elim
  |call c=>
   rw[f]at h;simp only at h;cases p:c.callee with
   |builtin b=>
    rw[p]at h;simp only at h;rw[tW]at h;cases I:ox b c.argTypes o.type (c.args.map (cT e))with
    |none=>rw[I]at h;exact h.elim
    |some s=>
     rw[I]at h;obtain⟨v,r,H⟩:=h;have all:∀w':x4,s.run P w'= .ok v w'->(execOp a.eval o).run P w'= .ok (.value v) w':=λw' r=>by
      rw[kd A hk (by simp[f])];unfold execOp;cases b<;>simp only[ox]at I<;>first|(cases I;done)|(cases I;simp[f,p,resolve,invoke,builtin,r,W8])
     exact⟨v,_,λw' hw=>all w' (r w' hw),put H rfl,Ξ,λw' h1 j C=>all j (h1 j C)⟩
   |value x=>rw[p]at h;exact h.elim
   |invoke x m=>rw[p]at h;exact h.elim
  |_=>
   rw[f]at h
   first
    |(simp only[pJ]at h;done)
    |(obtain⟨v,r,H⟩:=h
      refine⟨v,_,λw' hw=>?_,put H rfl,Ξ,λw' h1 j C=>?_⟩
      .rw[kd A hk (by simp[f])];exact tY P (by rw[f];rfl) (r w' hw)
      .rw[kd A hk (by simp[f])];exact tY P (by rw[f];rfl) (h1 j C))
theorem Fv{free:fz}{K:Env->x4->Prop}{Q:Exit->Act->x4->Prop}(h:tZ P free o e w K)(p:S5 N e a)(C:jw N o.dst=true):
  o.wpIn (ez r) 0 P a w (fl N free K o a w) Q:=by
 unfold tZ at h;cases hk:known e (opsOf o.op)with
 |false=>rw[hk]at h;exact h.elim
 |true=>
  rw[hk]at h;simp only[cond_true]at h;cases j:o.op with
  |call c=>
   rw[j]at h;simp only at h;cases E:c.callee with
   |builtin b=>
    rw[E]at h;simp only at h;rw[tW]at h;cases I:ox b c.argTypes o.type (c.args.map (cT e))with
    |none=>rw[I]at h;exact h.elim
    |some s=>
     rw[I]at h;obtain⟨v,w',q,A,B⟩:=h;refine pK p hk (by simp[j]) (by simp[j]) (v:=v) (w':=w') ?_ (fl.of B p C rfl λ_=>A.b);unfold execOp;cases b<;>simp only[ox]at I<;>first|(cases I;done)|(cases I;simp[j,E,resolve,invoke,builtin,q,W8])
   |value x=>
    rw[E]at h;have step:∀(d:Deferred)(y:x3),cT e x=y->Deferred.ofValue y (c.args.map (cT e))=pure d->
      (invoke d.target d.args).run P w=(execOp (cT e) o).run P w:=by
     intro d y z S;unfold execOp;simp only[j,E,resolve,z,S,W6,V3,W8]
    have H:∀(g:R6)(first cap:Array x3),cT e x= .func (.func g) first cap->
      (execOp (cT e) o).run P w=(callFunc g (first.toList++bY (cT e) c.args.toList++cap.toList).toArray).run P w:=by
     intro g first cap z
     rw[<-step {target:=.fn (.func g) cap,args:=first++c.args.map (cT e)} _ z rfl];simp only[invoke];have J:first++c.args.map (cT e)++cap=(first.toList++bY (cT e) c.args.toList++cap.toList).toArray:=by apply Array.toList_inj.1;simp[rq]
     rw[J]
    have enter:∀(g:R6)(first cap:Array x3),cT e x= .func (.func g) first cap->Enters P g->
      (execOp (cT e) o).run P w= .ok (.enter g (first.toList++bY (cT e) c.args.toList++cap.toList).toArray) w:=by
     intro g first cap z F
     rw[H g first cap z,F]
    have go:∀(g:R6)(first cap:Array x3),cT e x= .func (.func g) first cap->
      (bif free.1 then gI P g (first.toList++bY (cT e) c.args.toList++cap.toList) w λv w'=>K (ea e o.dst (.v v)) w'
       else ai P g (first.toList++bY (cT e) c.args.toList++cap.toList) w λv w'=>K (ea e o.dst (.v v)) w')->
      o.wpIn (ez r) 0 P a w (fl N free K o a w) Q:=by
     intro g first cap z h
     obtain⟨fr,T⟩:=free;cases fr with
     |true=>
      rcases h with⟨F,L⟩|⟨v,w',q,B⟩
      .refine⟨λ_ _=>trivial,?_⟩;rw[T2.semAt_eq _ _ _ (by simp[j]),kd p hk (by simp[j])];rw[enter g first cap z F];exact xM p C (L.mono λG w' ⟨v,h1,M⟩=>⟨v,h1,(λh=>by cases h),M⟩)
      .rw[<-H g first cap z]at q;exact pK p hk (by simp[j]) (by simp[j]) q (fl.of B p C rfl λh=>by cases h)
     |false=>
      rcases h with⟨F,L⟩|⟨v,w',q,A,B⟩
      .refine⟨λ_ _=>trivial,?_⟩;rw[T2.semAt_eq _ _ _ (by simp[j]),kd p hk (by simp[j])];rw[enter g first cap z F];exact xM p C (L.mono λG w' ⟨v,h1,A,M⟩=>⟨v,h1,λ_=>A.b,M⟩)
      .rw[<-H g first cap z]at q;exact pK p hk (by simp[j]) (by simp[j]) q (fl.of B p C rfl λ_=>A.b)
    have O:rr P free.1 (cT e x) (bY (cT e) c.args.toList) w (λv w'=>K (ea e o.dst (.v v)) w')->
      o.wpIn (ez r) 0 P a w (fl N free K o a w) Q:=by
     intro h;unfold rr at h;split at h
     .rename_i g first cap z
      exact go g first cap z h
     .rename_i l first cap z
      obtain⟨fn,tmps,R,body,U,V⟩:hJ P l (first.toList++bY (cT e) c.args.toList) w λv w'=>(free.1=false->cB free.2 w w')/\K (ea e o.dst (.v v)) w':=by
       obtain⟨fr,T⟩:=free;cases fr with
       |true=>exact hJ.mono h.2 λv w' hk=>⟨(λh=>by cases h),hk⟩
       |false=>exact hJ.mono h λv w' hk=>⟨λ_=>hk.1.b,hk.2⟩
      refine⟨λ_ _=>trivial,?_⟩;rw[T2.semAt_eq _ _ _ (by simp[j]),kd p hk (by simp[j])];have:(execOp (cT e) o).run P w= .ok (.round l fn tmps R body) w:=by
       rw[<-step {target:=.fn (.yield l) cap,args:=first++c.args.map (cT e)} _ z rfl,<-U];have J:(first.toList++bY (cT e) c.args.toList).toArray=first++c.args.map (cT e):=by apply Array.toList_inj.1;simp[rq]
       rw[J];rfl
      rw[this,T2.uponIn_round];refine⟨tV _ _,?_⟩;have W:RoundIn (ez r) (0-1) P l fn tmps R body w λG w'=>∃v,G= .returned v/\(free.1=false->cB free.2 w w')/\K (ea e o.dst (.v v)) w':=V;refine RoundIn.mono W ?_;rintro G w' ⟨v,rfl,A,B⟩;exact fl.of B p C rfl A
     .exact h.elim
    cases x with
    |func f=>exact go f #[] #[] rfl (by simpa using h)
    |tmp t=>exact O h
    |const v=>exact O h
    |global g=>exact O h
   |invoke x m=>rw[E]at h;exact h.elim
  |next x str=>
   rw[j]at h;obtain⟨v,w',q,A,B⟩:=h;refine pK p hk (by simp[j]) (by simp[j]) (v:=v) (w':=w') ?_ (fl.of B p C rfl A);rw[Fq _ _ o.type]at q;unfold execOp;simp only[j,W6,q,W8,V3]
  |_=>
   rw[j]at h
   first
    |(simp only[pJ,tX]at h;done)
    |(obtain⟨v,w',q,A,B⟩:=h
      exact pK p hk (by simp[j]) (by simp[j]) (tY P (by rw[j];rfl) q) (fl.of B p C rfl λ_=>A.b))
    |(obtain⟨v,w',q,A,B⟩:=h
      exact Fu p hk (by simp[j]) (by simp[j]) (Fr P (by rw[j];rfl) q) (fl.of B p C rfl λ_=>A.b))
theorem rt{free:fz}{K:Env->x4->Prop}{Q:Exit->Act->x4->Prop}(h:oy P free o e w K)(j:S5 N e a)(p:jw N o.dst=true):
  o.wpIn (ez r) 0 P a w (fl N free K o a w) Q:=by
 unfold oy at h;cases q:i7 o with
 |false=>rw[q]at h;exact Fv h j p
 |true=>
  rw[q]at h;have h:lB P o e w (λf _=>K f w):=h;obtain⟨v,st,s,⟨f,x,y⟩,z,_⟩:=xO h j p;refine⟨λ_ _=>trivial,?_⟩;rw[T2.semAt_eq _ _ _ z,s w (Ext.refl _),T2.uponIn_value];exact⟨f,v,x,y,rfl,λ_=>cB.refl _ _⟩
end
section
variable{P:W9}
def Still{α:Type}(P:W9)(s:Sem α):Prop:=∀w v J,s.run P w= .ok v J->J=w/\∀w',s.run P w'= .ok v w'
theorem Still.pure{α:Type}(a:α):Still P (Pure.pure a:Sem α):=λw v J h=>by
 rw[V3]at h;cases h;exact⟨rfl,λw'=>by rw[V3]⟩
theorem Still.bind{α β:Type}{s:Sem α}{f:α->Sem β}(I:Still P s)(j:∀a,Still P (f a)):Still P (s >>= f):=λw v J h=>by
 rw[W6]at h;cases e:s.run P w with
 |halt x U=>rw[e]at h;simp[W8]at h
 |ok a U=>
  rw[e]at h;obtain⟨rfl,p⟩:=I w a U e;obtain⟨rfl,q⟩:=j a _ v J h;exact⟨rfl,λw'=>by rw[W6,p w'];exact q w'⟩
theorem Still.never{α:Type}{s:Sem α}(h:∀w v J,s.run P w≠ .ok v J):Still P s:=λw v J h'=>absurd h' (h w v J)
theorem Still.stuck{α:Type}(m:String):Still P (stuck m:Sem α):=.never λw v J h=>by simp[Go.stuck]at h
theorem Still.unsupported{α:Type}(m):Still P (unsupported m:Sem α):=.never λw v J h=>by simp[Go.unsupported]at h
theorem Still.program:Still P program:=λw v J h=>by cases h;exact⟨rfl,λ_=>rfl⟩
theorem Still.underlying(t:r9):Still P (underlying t):=Still.bind .program λp=>by
 cases p.underlying t with
 |some d=>exact Still.pure d
 |none=>exact Still.stuck _
theorem Still.typeInfo(t:r9):Still P (typeInfo t):=Still.bind .program λp=>by
 cases p.info? t with
 |some d=>exact Still.pure d
 |none=>exact Still.stuck _
theorem Still.sizeOf(t:r9):Still P (sizeOf t):=Still.bind (.typeInfo t) λ_=>Still.pure _
theorem Still.boundsPanic{α:Type}(k:o9)(x y:Int)(c:BoundsCode):Still P (boundsPanic k x y c:Sem α):=.never λw v J h=>by
 have e:∀(s:Sem Bool)(w:x4)(v:α)(J:x4),(s >>= λb=>(runtimePanic (.bounds (X7.wrap x) y b c):Sem α)).run P w≠ .ok v J:=by
  intro s w v J h;rw[W6]at h;cases f:s.run P w with
  |halt x U=>rw[f]at h;simp[W8]at h
  |ok a U=>rw[f]at h;simp[W8,Go.runtimePanic,Go.goPanic]at h
 unfold Go.boundsPanic at h;dsimp only at h;split at h
 .exact e _ _ _ _ h
 .exact e _ _ _ _ h
theorem Still.asIntOf(v:x3):Still P (asIntOf v):=by
 unfold Go.asIntOf;split
 .exact Still.pure _
 .exact Still.unsupported _
 .exact Still.stuck _
theorem Still.sureAddr(v:x3):Still P (Instr.sureAddr v):=by
 unfold Instr.sureAddr;split
 .exact Still.pure _
 .exact Still.stuck _
theorem Still.extract(v:x3)(i:Nat):Still P (Y2 v i):=by
 unfold Y2;split
 .split
  .exact Still.pure _
  .exact Still.stuck _
 .exact Still.stuck _
theorem Still.indexAt(t:r9)(x i:x3):Still P (j5 t x i):=by
 have tail:∀(t:r9)(k:o9)(i:Int)(base:Option Addr)(len:Nat)(e:r9),Still P (do
   let f:=len<=1&&(match <-Go.underlying t with| .array ..=>true|_=>false)
   match base with
   |some a=>
    if 0<=i/\i<len then Pure.pure (x3.pointer (σ (a.add (i.toNat*(<-Go.sizeOf e)))))
    else if f then Go.unsupported (.noEntry "op/indexAddr.an index out of range at an array of length 0 or 1 (ledger 616)")
    else Go.boundsPanic k i len .index
   |none=>Go.boundsPanic k i 0 .index):=by
  intro t k i base len e;refine .bind (.underlying t) λd=>?_;cases base with
  |none=>exact Still.boundsPanic _ _ _ _
  |some a=>
   dsimp only;split
   .exact .bind (.sizeOf e) λ_=>.pure _
   .split<;>split<;>first|exact Still.unsupported _|exact Still.boundsPanic _ _ _ _
 unfold j5;refine .bind (.asIntOf i) λh=>?_;refine .bind (.underlying t) λd=>?_;split
 .refine .bind (.sureAddr _) λb=>?_;refine .bind (.pure _) λy=>?_;exact tail _ _ _ _ _ _
 .refine .bind (.pure _) λy=>?_;exact tail _ _ _ _ _ _
 .refine .bind (.stuck _) λy=>?_;exact tail _ _ _ _ _ _
end
section
variable(P:W9)
def ru(free:fz)(ops:Array T2)(o:T2)(e:Env)(w:x4)(K:Env->x4->Prop):Prop:=
 match o.guard with
 |none=>oy P free o e w K
 |some (j,b)=>
  match(ops[j]?).bind (·.dst)with
  |none=>False
  |some s=>
   match look e s with
   |some (.b c)=>bif xor c b then K (ea e o.dst .u) w else oy P free o e w K
   |some (.v x)=>
    Split x (bif b then oy P free o ((s,.b true)::e) w K else K (ea ((s,.b true)::e) o.dst .u) w)
     (bif b then K (ea ((s,.b false)::e) o.dst .u) w else oy P free o ((s,.b false)::e) w K)
   |some .u=>K (ea e o.dst .u) w
   |none=>False
def oz(free:fz)(ops:Array T2):List T2->Env->x4->(Env->x4->Prop)->Prop
 |[],e,w,K=>K e w
 |o::l,e,w,K=>ru P free ops o e w λa w'=>oz free ops l a w' K
def ua(ops:Array T2)(o:T2)(e:Env)(w:x4)(K:Env->(x4->Prop)->Prop):Prop:=
 match o.guard with
 |none=>lB P o e w K
 |some (j,b)=>
  match(ops[j]?).bind (·.dst)with
  |none=>False
  |some s=>
   match look e s with
   |some (.b c)=>bif xor c b then K (ea e o.dst .u) (λ_=>True)else lB P o e w K
   |some (.v x)=>
    Split x (bif b then lB P o ((s,.b true)::e) w K else K (ea ((s,.b true)::e) o.dst .u) (λ_=>True))
     (bif b then K (ea ((s,.b false)::e) o.dst .u) (λ_=>True)else lB P o ((s,.b false)::e) w K)
   |some .u=>K (ea e o.dst .u) (λ_=>True)
   |none=>False
def lD(o:T2):Bool:=
 match o.op with
 | .move _| .assign _| .extract .. | .indexAddr ..=>true
 |_=>false
def mf(ops:Array T2):List Nat->Option Nat
 |[]=>ν
 |i::r=>match ops[i]? with
  |some o=>bif i7 o then σ i else mf ops r
  |none=>mf ops r
def ub(p:Nat->Prop):List Nat->Prop
 |[]=>True
 |[i]=>p i
 |i::r=>p i/\ub p r
def kI(bs:Array Nat)(j k:Nat):Bool:=!(S0 k j)&&(!((bs.getD j 0).testBit k)&& !((bs.getD k 0).testBit j))
def pL(same:Bool)(q:Nat)(w:x4)(st:x4->Prop)(a:List (x4×List (Nat×(x4->Prop)))):List (x4×List (Nat×(x4->Prop))):=
 match same,a with
 |true,g::r=>(g.1,(q,st)::g.2)::r
 |_,a=>(w,[(q,st)])::a
def pM(bs:Array Nat)(j:Nat):List (Nat×(x4->Prop))->Bool
 |[]=>false
 |x::r=>kI bs j x.1||pM bs j r
def oA(bs:Array Nat)(j:Nat)(w':x4):List (Nat×(x4->Prop))->Prop
 |[]=>True
 |x::r=>bif kI bs j x.1 then x.2 w'/\oA bs j w' r else oA bs j w' r
def m9(bs:Array Nat)(j:Nat)(w':x4)(C:Prop):List (x4×List (Nat×(x4->Prop)))->Prop
 |[]=>C
 |g::r=>bif pM bs j g.2 then(Ext g.1 w'\/oA bs j w' g.2)/\m9 bs j w' C r else m9 bs j w' C r
def mg(free:fz)(ops:Array T2)(bs:Array Nat):Nat->Array Bool->Bool->List (x4×List (Nat×(x4->Prop)))->Env->x4->(Env->x4->Prop)->Prop
 |0,a,_,_,e,w,K=>match Region.ready .any ops a with|[]=>K e w|_=>False
 |fuel+1,a,same,f,e,w,K=>
  match Region.ready .any ops a with
  |[]=>K e w
  |i::r=>
   match mf ops (i::r)with
   |some q=>
    bif Region.free .any ops a q then
     match ops[q]? with
     |some o=>ua P ops o e w λh st=>
       bif lD o then mg free ops bs fuel (a.setIfInBounds q true) same f h w K
       else mg free ops bs fuel (a.setIfInBounds q true) true (pL same q w st f) h w K
     |none=>False
    else False
   |none=>
    ub (λj=>match ops[j]? with
     |some o=>ru P free ops o e w λh w'=>m9 bs j w' (mg free ops bs fuel (a.setIfInBounds j true) false f h w' K) f
     |none=>False) (i::r)
def uc(free:fz)(ops:Array T2)(e:Env)(w:x4)(K:Env->x4->Prop):Prop:=
 bif Region.noSelect ops then mg P free ops (Region.before ops) ops.size (Array.replicate ops.size false) false [] e w K else False
end
section
variable{P:W9}{N:Nat}{r:Option Nat}{free:fz}{ops:Array T2}
theorem Fw{e:Env}{a:Act}(p:S5 N e a){s:Nat}{c:Bool}(q:(ops[j]?).bind (·.dst)=σ s){x:eD}(I:look e s=σ x)(r:x.val= .bool c):
  yielded ops a.tmps j=σ c:=by
 have h:=p.2 s x I;rw[r]at h;have w:a.tmps[s]?=σ (.bool c):=by
  rw[Array.getD_eq_getD_getElem?]at h;cases f:a.tmps[s]? with
  |none=>rw[f]at h;simp[undef]at h
  |some y=>rw[f]at h;simpa using h
 simp[yielded,q,w]
theorem rv{e:Env}{a:Act}(f:S5 N e a){o:T2}{s:Nat}{b c:Bool}(h:o.guard=σ (j,b))(p:(ops[j]?).bind (·.dst)=σ s){x:eD}(I:look e s=σ x)(q:x.val= .bool c):Region.wanted o (yielded ops a.tmps)= !(xor c b):=by
 simp only[Region.wanted,h,Fw f p I q];cases c<;>cases b<;>rfl
theorem xP{e:Env}{a:Act}(p:S5 N e a){o:T2}{s:Nat}{b:Bool}(q:o.guard=σ (j,b))(r:(ops[j]?).bind (·.dst)=σ s)(I:look e s=σ .u):Region.wanted o (yielded ops a.tmps)=false:=by
 have h:=p.2 s .u I;have w:yielded ops a.tmps j=ν:=by
  rw[Array.getD_eq_getD_getElem?]at h;unfold yielded;rw[r];cases f:a.tmps[s]? with
  |none=>simp[f]
  |some y=>
   rw[f]at h;simp only[V2,eD.val]at h;subst h;simp[f,undef]
 simp[Region.wanted,q,w]
theorem S5.lit{e:Env}{a:Act}(h:S5 N e a){s:Nat}{x:eD}{c:Bool}(I:look e s=σ x)(p:x.val= .bool c):S5 N ((s,.b c)::e) a:=by
 refine⟨h.1,λt y f=>?_⟩;simp only[look]at f;cases j:S0 s t with
 |true=>
  have:s=t:=Nat.eq_of_beq_eq_true j;subst this;simp only[j,cond_true,X4]at f;subst f;rw[h.2 s x I,p];rfl
 |false=>simp only[j,cond_false]at f;exact h.2 t y f
theorem xQ{o:T2}{e:Env}{a:Act}{K:Env->x4->Prop}{Q:Exit->Act->x4->Prop}(h:ru P free ops o e w K)(f:S5 N e a)(p:jw N o.dst=true):
  (Region.wanted o (yielded ops a.tmps)=true/\o.wpIn (ez r) 0 P a w (fl N free K o a w) Q)\/
  (Region.wanted o (yielded ops a.tmps)=false/\fl N free K o a w (a.put o.dst undef) w):=by
 unfold ru at h;cases q:o.guard with
 |none=>rw[q]at h;exact .inl ⟨by simp[Region.wanted,q],rt h f p⟩
 |some F=>
  obtain⟨j,b⟩:=F;rw[q]at h;simp only at h;cases z:(ops[j]?).bind (·.dst)with
  |none=>rw[z]at h;exact h.elim
  |some s=>
   rw[z]at h;simp only at h;cases I:look e s with
   |none=>rw[I]at h;exact h.elim
   |some x=>
    rw[I]at h;cases x with
    |b c=>
     simp only at h;have hw:=rv f q z I (c:=c) rfl;cases E:xor c b with
     |true=>
      rw[E]at h hw;exact .inr ⟨hw,fl.of h f p rfl λ_=>cB.refl _ _⟩
     |false=>
      rw[E]at h hw;exact .inl ⟨hw,rt h f p⟩
    |v y=>
     simp only at h;obtain⟨c,rfl,A,B⟩:=h;have hw:=rv f q z I (c:=c) rfl;have C:=f.lit I (c:=c) rfl;cases c with
     |true=>
      have A:=A rfl;cases b with
      |true=>exact .inl ⟨hw,rt A C p⟩
      |false=>exact .inr ⟨hw,fl.of A C p rfl λ_=>cB.refl _ _⟩
     |false=>
      have B:=B rfl;cases b with
      |true=>exact .inr ⟨hw,fl.of B C p rfl λ_=>cB.refl _ _⟩
      |false=>exact .inl ⟨hw,rt B C p⟩
    |u=>exact .inr ⟨xP f q z I,fl.of h f p rfl λ_=>cB.refl _ _⟩
def gJ(D:List Nat)(a a':Act):Prop:=a'.defers=a.defers/\∀t,t∉D->a'.tmps.getD t undef=a.tmps.getD t undef
theorem gJ.refl(D:List Nat)(a:Act):gJ D a a:=⟨rfl,λ_ _=>rfl⟩
theorem gJ.trans{a b c:Act}(h:gJ D a b)(k:gJ D b c):gJ D a c:=⟨k.1.trans h.1,λt e=>(k.2 t e).trans (h.2 t e)⟩
theorem gJ.put(a:Act){d:Option Tmp}(v:x3)(e:∀t,d=σ t->t∈D):gJ D a (a.put d v):=by
 cases d with
 |none=>exact gJ.refl _ _
 |some s=>
  refine⟨rfl,λt f=>?_⟩;have j:s≠t:=λh=>f (h▸e s rfl);simp only[Act.put,Array.getD_eq_getD_getElem?];rw[Array.getElem?_setIfInBounds_ne j]
def mh(N:Nat)(free:fz)(K:Env->x4->Prop)(D:List Nat)(a:Act)(w:x4)(a':Act)(w':x4):Prop:=
 ∃e,K e w'/\S5 N e a'/\gJ D a a'/\(free.1=false->cB free.2 w w')
theorem mh.step{K:Env->x4->Prop}{a e a':Act}{J:x4}(h:mh N free K D e J a' w')(hk:gJ D a e)(j:free.1=false->cB free.2 w J):
  mh N free K D a w a' w':=by
 obtain⟨p,h1,q,r,s⟩:=h;exact⟨p,h1,q,hk.trans r,λf=>(j f).trans (s f)⟩
def na(N:Nat)(l:List T2):Bool:=l.all λo=>jw N o.dst
theorem Fx{K:Env->x4->Prop}{Q:Exit->Act->x4->Prop}(B:∀o∈ops.toList,∀t,o.dst=σ t->t∈D)(y:na N ops.toList=true):
  ∀(l:List T2)(k:Nat)(e:Env)(a:Act)(w:x4),(∀j,l[j]?=ops[k+j]?)->oz P free ops l e w K->S5 N e a->
   (∀a' w',mh N free K D a w a' w'->Q .normal a' w')->wpOpsIn (ez r) 0 P ops Q (List.range' k l.length) a w:=by
 intro l;induction l with
 |nil=>
  intro k e a w _ h f p;exact p a w ⟨e,h,f,gJ.refl _ _,λ_=>cB.refl _ _⟩
 |cons o l C=>
  intro k e a w z h f p;have q:=z 0;simp only[List.getElem?_cons_zero,Nat.add_zero]at q;have A:o∈ops.toList:=by
   have:=q.symm;rw[<-S7]at this;exact x6 this
  have E:jw N o.dst=true:=by
   simp only[na,List.all_eq_true]at y;exact y o A
  have F:∀j,l[j]?=ops[k+1+j]?:=λj=>by
   have:=z (j+1);rw[List.getElem?_cons_succ]at this;rw[this];congr 1;omega
  have next:∀s J,fl N free (λG w'=>oz P free ops l G w' K) o a w s J->wpOpsIn (ez r) 0 P ops Q (List.range' (k+1) l.length) s J:=by
   rintro s J ⟨H,v,I,L,rfl,M⟩;refine C (k+1) H _ J F I L λa' w' O=>p a' w' (O.step (gJ.put a v λt R=>B o A t R) M)
  simp only[oz]at h;show wpOpsIn (ez r) 0 P ops Q (k::List.range' (k+1) l.length) a w;unfold wpOpsIn;rw[<-q];simp only;rcases xQ (r:=r) (Q:=Q) h f E with⟨hw,x⟩|⟨hw,x⟩
  .rw[if_pos hw];exact T2.wpIn_mono next x
  .rw[hw];exact⟨λ_ _=>trivial,next _ _ x⟩
theorem Fy{K:Env->x4->Prop}{Q:Exit->Act->x4->Prop}{id:Nat}{e:Env}{a:Act}(f:∀o∈ops.toList,∀t,o.dst=σ t->t∈D)(p:na N ops.toList=true)(h:oz P free ops ops.toList e w K)(q:S5 N e a)(s:∀a' w',mh N free K D a w a' w'->Q .normal a' w'):
  (Code.region id ops false).wpIn (ez r) 0 P Q a w:=by
 refine wpIn_region ?_;have:=Fx (r:=r) f p ops.toList 0 e a w (λj=>Ξ) h q s;rw[List.range_eq_range'];simpa using this
end
section
variable{P:W9}{N:Nat}{r:Option Nat}{free:fz}{ops:Array T2}{Q:Exit->Act->x4->Prop}
theorem Fz(e:Option Nat)(o:T2)(I:∀cs b,o.op≠ .select cs b)(a:Act)(d:Option Tmp)(v:x3)(h:∀t,d=σ t->t∉o.looksAt ops):
  o.semAt e (a.put d v).eval=o.semAt e a.eval:=by
 have he:=execOp_put o I a d v h;unfold T2.semAt;split
 .rename_i l c f;have:resolve (a.put d v).eval c o.type=resolve a.eval c o.type:=resolve_congr c o.type λx j=>Act.eval_put λt p q=>h t p (by
   subst q;refine List.mem_append_left _ (List.mem_filterMap.2 ⟨.tmp t,?_,rfl⟩);rw[f];simpa[Op.operands]using j)
  rw[this]
 .exact he
def mi(o:T2)(w0:x4)(st:x4->Prop)(w':x4):Prop:=lD o=true\/Ext w0 w'\/∃J,st J/\Ext J w'
theorem mi.ext{o:T2}{w0:x4}{st:x4->Prop}(h:mi o w0 st w)(k:Ext w w'):mi o w0 st w':=by
 rcases h with h|h|⟨J,h1,a⟩
 .exact .inl h
 .exact .inr (.inl (h.trans k))
 .exact .inr (.inr ⟨J,h1,a.trans k⟩)
theorem FA{o:T2}(hm:lD o=true){e:S4->x3}(h:(execOp e o).run P w= .ok (.value v) w):(execOp e o).run P w'= .ok (.value v) w':=by
 unfold lD at hm;split at hm
 .rename_i x a;unfold execOp at h ⊢;simp only[a,V3,Result.ok.injEq,and_true]at h ⊢;exact h
 .rename_i x a;unfold execOp at h ⊢;simp only[a,V3,Result.ok.injEq,and_true]at h ⊢;exact h
 .rename_i x i a;unfold execOp at h ⊢;simp only[a]at h ⊢;exact((Still.bind (Still.extract _ _) λ_=>Still.pure _) _ _ _ h).2 _
 .rename_i t x i a;unfold execOp at h ⊢;simp only[a]at h ⊢;exact((Still.bind (Still.indexAt _ _ _) λ_=>Still.pure _) _ _ _ h).2 _
 .cases hm
def h9(P:W9)(ops:Array T2)(o:T2)(v:x3)(a:Act)(w0:x4->Prop):Prop:=
 (Region.wanted o (yielded ops a.tmps)=true/\(∀c,o.op≠ .defer c)/\∀w',w0 w'->(execOp a.eval o).run P w'= .ok (.value v) w')\/
 (Region.wanted o (yielded ops a.tmps)=false/\v=undef)
theorem h9.put{o e:T2}{a:Act}{w0:x4->Prop}(f:h9 P ops o v a w0)(I:∀cs b,o.op≠ .select cs b)(h:∀t,e.dst=σ t->t∉o.looksAt ops)(u:x3):
  h9 P ops o v (a.put e.dst u) w0:=by
 unfold h9 at*;rw[execOp_put o I a e.dst u h,wanted_put o a e.dst u h];exact f
theorem h9.go{i:Nat}{e:T2}{a:Act}{w0:x4->Prop}(hi:ops[i]?=σ e)(f:h9 P ops e v a w0)(hw:w0 w){K:Act->x4->Prop}(h:K (a.put e.dst v) w):
  wpOpIn (ez r) 0 P ops Q i K a w:=by
 unfold wpOpIn;simp only[hi];rcases f with⟨h1,j,p⟩|⟨h1,rfl⟩
 .rw[if_pos h1];refine⟨λ_ _=>trivial,?_⟩;rw[T2.semAt_eq _ _ _ j,p w hw,T2.uponIn_value];exact h
 .rw[h1];exact⟨λ_ _=>trivial,h⟩
theorem FB{p s:T2}(B:ops[j]?=σ s)(C:p.apart ops s=true)(E:∀cs b,p.op≠ .select cs b)(F:∀cs b,s.op≠ .select cs b)(z:∀c a w,¬Q (.panic c) a w){K:Act->x4->Prop}{a:Act}{w:x4}{w0:x4->Prop}(q:h9 P ops p v a w0)(h:wpOpIn (ez r) 0 P ops Q j K (a.put p.dst v) w):
  wpOpIn (ez r) 0 P ops Q j (λa' w'=>h9 P ops p v a' w0/\K (a'.put p.dst v) w') a w:=by
 obtain⟨h1,y,G⟩:=T2.apart_spec C;have aU:∀(a:Act),h9 P ops p v a w0->∀u,h9 P ops p v (a.put s.dst u) w0:=λa q u=>q.put E G u;have H:∀d,h9 P ops p v {a with defers:=d::a.defers} w0:=λd=>q;unfold wpOpIn at*;simp only[B]at*;rw[wanted_put s a p.dst v h1]at h;split
 .rename_i hw;simp only[hw,if_true]at h;obtain⟨_,h⟩:=h;refine⟨λ_ _=>trivial,?_⟩;rw[Fz _ s F a p.dst v h1]at h;generalize (s.semAt (ez r).round a.eval).run P w=res at*;cases res with
  |ok n w'=>
   cases n<;>simp only[T2.uponIn]at h ⊢
   case value u=>exact⟨aU a q u,by rw[<-Act.put_comm a v u y];exact h⟩
   case skip=>exact⟨aU a q _,by rw[<-Act.put_comm a v undef y];exact h⟩
   case defer d=>
    refine⟨aU _ (H d) _,?_⟩;rw[<-Act.put_comm _ v undef y,<-Act.put_defers];exact h
   case enter f args=>
    refine⟨h.1,CallsIn.mono h.2 λe A he=>?_⟩;cases e with
    |returned u=>exact⟨aU a q u,by rw[<-Act.put_comm a v u y];exact he⟩
    |panicked c=>exact absurd he (z _ _ _)
    |outgrown=>exact he
   case row row args=>exact⟨h.1,RowsIn.mono h.2 λu A he=>⟨aU a q u,by rw[<-Act.put_comm a v u y];exact he⟩⟩
   case round l f tmps I body=>
    refine⟨h.1,RoundIn.mono h.2 λe A he=>?_⟩;cases e with
    |returned u=>exact⟨aU a q u,by rw[<-Act.put_comm a v u y];exact he⟩
    |panicked c=>exact absurd he (z _ _ _)
    |outgrown=>exact he
  |halt x w'=>
   cases x<;>simp only[T2.uponIn]at h ⊢
   case panic u=>exact absurd h (z _ _ _)
 .rename_i hw;simp only[hw]at h;exact⟨λ_ _=>trivial,aU a q _,by rw[<-Act.put_comm a v undef y];exact h.2⟩
def lE(ops:Array T2)(bs:Array Nat):Bool:=
 (W3 ops.size).all λj=>(W3 ops.size).all λk=>!((bs.getD j 0).testBit k)||
  (match ops[j]? with
   |some o=>o.after.any λe=>Region.binds .any e&&Nat.blt e.on j&&(S0 e.on k||(bs.getD e.on 0).testBit k)
   |none=>false)
def Down(ops:Array T2)(a:Array Bool):Prop:=
 ∀(x:Nat)(o:T2),ops[x]?=σ o->a.getD x false=true->∀e∈o.after,Region.binds .any e=true->a.getD e.on false=true
theorem xR{bs:Array Nat}(f:lE ops bs=true){k:Nat}(q:j<ops.size)(hk:k<ops.size)(h:(bs.getD j 0).testBit k=true):
  ∃o,ops[j]?=σ o/\∃e∈o.after,Region.binds .any e=true/\e.on<j/\(e.on=k\/(bs.getD e.on 0).testBit k=true):=by
 simp only[lE,List.all_eq_true,List.mem_range]at f;have:=f j q k hk;rw[h]at this;simp only[Y9,Bool.false_or]at this;cases p:ops[j]? with
 |none=>rw[p]at this;cases this
 |some o=>
  rw[p]at this;obtain⟨e,he,a⟩:=Array.any_eq_true'.1 this;simp only[U1,Nat.blt_eq,Bool.or_eq_true]at a;exact⟨o,rfl,e,he,a.1.1,a.1.2,a.2.imp (λh=>Nat.eq_of_beq_eq_true h) id⟩
theorem FC{bs:Array Nat}{a:Array Bool}(p:lE ops bs=true)(q:Down ops a):∀(j k:Nat),j<ops.size->k<ops.size->a.getD j false=true->
  (bs.getD j 0).testBit k=true->a.getD k false=true:=by
 intro j;induction j using Nat.strongRecOn with
 |_ j r=>
  intro k s hk w h;obtain⟨o,x,e,he,y,z,h⟩:=xR p s hk h;have f:=q j o x w e he y;rcases h with rfl|h
  .exact f
  .exact r e.on z k Ω hk f h
theorem xS{bs:Array Nat}{a:Array Bool}(f:lE ops bs=true)(s:Down ops a){k:Nat}(hk:k<ops.size)(w:j∈Region.ready .any ops a)(h:(bs.getD j 0).testBit k=true):a.getD k false=true:=by
 obtain⟨_,o,p,x⟩:=mem_ready.1 w;have y:=(j6.1 p).1;obtain⟨o',q,e,he,z,A,h⟩:=xR f y hk h;rw[p]at q;cases q;have r:=x e he z;rcases h with rfl|h
 .exact r
 .exact FC f s e.on k Ω hk r h
theorem Down.set{a:Array Bool}(r:Down ops a){i:Nat}(s:i∈Region.ready .any ops a):Down ops (a.setIfInBounds i true):=by
 intro x o f h e he j;by_cases p:x=i
 .subst p;obtain⟨_,o',q,w⟩:=mem_ready.1 s;rw[f]at q;cases q;exact getD_set_true (w e he j)
 .rw[getD_set_ne false (S6 p)]at h;exact getD_set_true (r x o f h e he j)
theorem ud{a:Array Bool}{k:Nat}(h:a.getD k true=false):a.getD k false=false:=by
 rcases Nat.lt_or_ge k a.size with h'|h'
 .simpa[h']using h
 .simp[Array.getElem?_eq_none h']at h
def mj(ops:Array T2)(i:Nat):Bool:=match ops[i]? with
 |some o=>i7 o
 |none=>false
def ml(bs:Array Nat)(a:List (x4×List (Nat×(x4->Prop))))(j:Nat)(w':x4):Prop:=∀g∈a,∀x∈g.2,kI bs j x.1=true->Ext g.1 w'\/x.2 w'
theorem ue{bs:Array Nat}{j:Nat}{w':x4}:∀{l:List (Nat×(x4->Prop))},oA bs j w' l->∀x∈l,kI bs j x.1=true->x.2 w'
 |[],_,_,h,_=>by cases h
 |y::l,h,x,a,hu=>by
  unfold oA at h;cases e:kI bs j y.1 with
  |true=>
   rw[e]at h;cases a with
   |head=>exact h.1
   |tail _ a=>exact ue h.2 x a hu
  |false=>
   rw[e]at h;cases a with
   |head=>rw[e]at hu;cases hu
   |tail _ a=>exact ue (show oA bs j w' l from h) x a hu
theorem xT{bs:Array Nat}{j:Nat}:∀{l:List (Nat×(x4->Prop))},pM bs j l=false->∀x∈l,kI bs j x.1=false
 |[],_,_,h=>by cases h
 |y::l,h,x,a=>by
  simp only[pM,U3]at h;cases a with
  |head=>exact h.1
  |tail _ a=>exact xT h.2 x a
theorem uf{bs:Array Nat}{j:Nat}{w':x4}{C:Prop}:∀{s:List (x4×List (Nat×(x4->Prop)))},m9 bs j w' C s->C/\ml bs s j w'
 |[],h=>⟨h,λg w=>by cases w⟩
 |g::r,h=>by
  unfold m9 at h;cases hu:pM bs j g.2 with
  |true=>
   rw[hu]at h;obtain⟨h1,p⟩:=uf h.2;refine⟨h1,λq a x f e=>?_⟩;cases a with
   |head=>exact h.1.imp id λh=>ue h x f e
   |tail _ a=>exact p q a x f e
  |false=>
   rw[hu]at h;obtain⟨h1,p⟩:=uf (show m9 bs j w' C r from h);refine⟨h1,λq a x f e=>?_⟩;cases a with
   |head=>rw[xT hu x f]at e;cases e
   |tail _ a=>exact p q a x f e
def ug(ops:Array T2)(bs:Array Nat)(a:List (x4×List (Nat×(x4->Prop))))(j:Nat)(w w':x4):Prop:=(mj ops j=true->Ext w w')/\(mj ops j=false->ml bs a j w')
def iB(r:Option Nat)(P:W9)(ops:Array T2)(bs:Array Nat)(Q:Exit->Act->x4->Prop):Nat->Array Bool->List (x4×List (Nat×(x4->Prop)))->Act->x4->Prop
 |0,e,_,a,w=>Region.ready .any ops e=[]/\Q .normal a w
 |fuel+1,e,f,a,w=>(Region.ready .any ops e=[]->Q .normal a w)/\
  ∀i∈Region.ready .any ops e,wpOpIn (ez r) 0 P ops Q i (λa' w'=>ug ops bs f i w w'/\iB r P ops bs Q fuel (e.setIfInBounds i true) f a' w') a w
theorem iB.any{bs:Array Nat}:∀(fuel:Nat)(e:Array Bool)(f:List (x4×List (Nat×(x4->Prop))))(a:Act)(w:x4),iB r P ops bs Q fuel e f a w->wpAnyIn (ez r) 0 P .any ops Q fuel e a w
 |0,_,_,_,_,h=>h
 |fuel+1,_,_,_,_,h=>⟨h.1,λi hi=>wpOpIn_mono (λa' w' h'=>iB.any fuel _ _ a' w' h'.2) (h.2 i hi)⟩
theorem FD{bs:Array Nat}{a:Array Bool}(e:lE ops bs=true)(f:Down ops a){i:Nat}{r:T2}(hi:ops[i]?=σ r)(p:i∈Region.ready .any ops a)(q:j∈Region.ready .any ops a)(s:j≠i):kI bs j i=true:=by
 have w:=(j6.1 hi).1;obtain⟨x,B,y,_⟩:=mem_ready.1 q;have z:=(j6.1 y).1;have A:=(mem_ready.1 p).1;simp only[kI,U1,Bool.not_eq_true'];refine⟨?_,?_,?_⟩
 .cases h:S0 i j with
  |true=>exact absurd (Nat.eq_of_beq_eq_true h).symm s
  |false=>rfl
 .cases h:(bs.getD j 0).testBit i with
  |true=>have:=xS e f w q h;rw[ud A]at this;cases this
  |false=>rfl
 .cases h:(bs.getD i 0).testBit j with
  |true=>have:=xS e f z p h;rw[ud x]at this;cases this
  |false=>rfl
theorem iB.take{bs:Array Nat}(S:lE ops bs=true)(T:Region.noSelect ops=true)(U:∀c a w,¬Q (.panic c) a w){i:Nat}{p:T2}(hi:ops[i]?=σ p)(V:i7 p=true){w0:x4}{A ev':List (x4×List (Nat×(x4->Prop)))}(G:∀j w',ml bs ev' j w'->ml bs A j w'){st:x4->Prop}(W:lD p=false->∀j w',kI bs j i=true->ml bs ev' j w'->Ext w0 w'\/st w'):
  ∀(fuel:Nat)(f:Array Bool)(a:Act)(w:x4),Down ops f->
   (∀j y,ops[j]?=σ y->j≠i->f.getD j true=false->(∀e∈y.after,Region.binds .any e=true->e.on≠i)->p.apart ops y=true)->
   i∈Region.ready .any ops f->h9 P ops p v a (mi p w0 st)->mi p w0 st w->
   iB r P ops bs Q fuel (f.setIfInBounds i true) ev' (a.put p.dst v) w->iB r P ops bs Q (fuel+1) f A a w:=by
 have I:=Region.noSelect_spec T;have X:mj ops i=true:=by simp[mj,hi,V]
 have hK:∀(fuel:Nat)(f:Array Bool)(a:Act)(w:x4),iB r P ops bs Q fuel f ev' a w->iB r P ops bs Q fuel f A a w:=by
  intro fuel;induction fuel with
  |zero=>intro f a w h;exact h
  |succ fuel C=>intro f a w h;exact⟨h.1,λj s=>wpOpIn_mono (λa' w' h'=>⟨⟨h'.1.1,λE=>G _ _ (h'.1.2 E)⟩,C _ a' w' h'.2⟩) (h.2 j s)⟩
 have J:∀w,ug ops bs A i w w:=λw=>⟨λ_=>Ext.refl _,λh=>by rw[X]at h;cases h⟩;intro fuel;induction fuel with
 |zero=>
  intro f a w _ _ x B hw H;refine⟨λh=>(by rw[h]at x;cases x),λj s=>?_⟩;by_cases q:j=i
  .subst q;exact B.go hi hw ⟨J w,hK _ _ _ _ H⟩
  .have:=ready_mono s q;rw[H.1]at this;cases this
 |succ fuel C=>
  intro f a w K L x B hw H;refine⟨λh=>(by rw[h]at x;cases x),λj s=>?_⟩;by_cases q:j=i
  .subst q;exact B.go hi hw ⟨J w,hK _ _ _ _ H⟩
  .have h1:=H.2 j (ready_mono s q);have hu:=FD S K hi x s q;obtain⟨M,y,F,Y⟩:=mem_ready.1 s;have Z:∀e∈y.after,Region.binds .any e=true->e.on≠i:=λe he aa ab=>by
    have h1:=Y e he aa;rw[ab,ud (mem_ready.1 x).1]at h1;cases h1
   have ac:=FB F (L j y F q M Z) (λcs b=>I i p cs b hi) (λcs b=>I j y cs b F) U B h1;have ad:∀k ok,ops[k]?=σ ok->k≠i->(f.setIfInBounds j true).getD k true=false->
     (∀e∈ok.after,Region.binds .any e=true->e.on≠i)->p.apart ops ok=true:=λk ok hk ae N af=>by
    refine L k ok hk ae ?_ af;by_cases O:j=k
    .subst O;exact M
    .rw[getD_set_ne true O]at N;exact N
   refine wpOpIn_mono (λa' w' z=>⟨⟨z.2.1.1,λE=>G _ _ (z.2.1.2 E)⟩,C (f.setIfInBounds j true) a' w' (K.set s) ad (ready_mono x (S6 q)) z.1 ?_ ?_⟩) ac
   .cases hm:lD p with
    |true=>exact .inl hm
    |false=>
     cases R:mj ops j with
     |true=>exact hw.ext (z.2.1.1 R)
     |false=>exact .inr ((W hm j w' hu (z.2.1.2 R)).imp id λh=>⟨w',h,Ext.refl _⟩)
   .rw[Array.setIfInBounds_comm _ _ q];exact z.2.2
theorem xU{p:Nat->Prop}:∀{l:List Nat},ub p l->∀i∈l,p i
 |[],_,_,h=>by cases h
 |[i],h,j,a=>by cases a with
  |head=>exact h
  |tail _ h=>cases h
 |i::k::l,h,j,a=>by
  obtain⟨h1,e⟩:=h;cases a with
  |head=>exact h1
  |tail _ a=>exact xU e j a
theorem uh:∀{l:List Nat}{q:Nat},mf ops l=σ q->q∈l/\∃o,ops[q]?=σ o/\i7 o=true
 |[],q,h=>by cases h
 |i::l,q,h=>by
  simp only[mf]at h;cases a:ops[i]? with
  |none=>rw[a]at h;obtain⟨h1,e⟩:=uh h;exact⟨.tail _ h1,e⟩
  |some o=>
   rw[a]at h;simp only at h;cases f:i7 o with
   |true=>rw[f]at h;simp only[cond_true,X4]at h;subst h;exact⟨.head _,o,a,f⟩
   |false=>rw[f]at h;obtain⟨h1,e⟩:=uh h;exact⟨.tail _ h1,e⟩
theorem FE{o:T2}{e:Env}{a:Act}{K:Env->(x4->Prop)->Prop}(h:ua P ops o e w K)(f:S5 N e a)(F:jw N o.dst=true):
  ∃v st,h9 P ops o v a (mi o w st)/\∃p,K p st/\S5 N p (a.put o.dst v):=by
 unfold ua at h;have z:∀{e:Env},S5 N e a->lB P o e w K->Region.wanted o (yielded ops a.tmps)=true->∃v st,h9 P ops o v a (mi o w st)/\∃p,K p st/\S5 N p (a.put o.dst v):=λf h hw=>by
  obtain⟨v,st,h1,G,H,L⟩:=xO h f F;exact⟨v,st,.inl ⟨hw,H,λw' A=>A.elim (λhm=>FA hm (h1 w (Ext.refl w))) λh=>h.elim (h1 w') λ⟨J,M,O⟩=>L J M w' O⟩,G⟩
 have skip:∀{e:Env},S5 N e a->K (ea e o.dst .u) (λ_=>True)->Region.wanted o (yielded ops a.tmps)=false->∃v st,h9 P ops o v a (mi o w st)/\∃p,K p st/\S5 N p (a.put o.dst v):=λf h hw=>
  ⟨undef,_,.inr ⟨hw,rfl⟩,_,h,f.put F rfl⟩
 cases q:o.guard with
 |none=>rw[q]at h;exact z f h (by simp[Region.wanted,q])
 |some Q=>
  obtain⟨j,b⟩:=Q;rw[q]at h;simp only at h;cases r:(ops[j]?).bind (·.dst)with
  |none=>rw[r]at h;exact h.elim
  |some s=>
   rw[r]at h;simp only at h;cases I:look e s with
   |none=>rw[I]at h;exact h.elim
   |some x=>
    rw[I]at h;cases x with
    |b c=>
     simp only at h;have hw:=rv f q r I (c:=c) rfl;cases A:xor c b with
     |true=>rw[A]at h hw;exact skip f h hw
     |false=>rw[A]at h hw;exact z f h hw
    |v y=>
     simp only at h;obtain⟨c,rfl,B,C⟩:=h;have hw:=rv f q r I (c:=c) rfl;have E:=f.lit I (c:=c) rfl;cases c with
     |true=>
      have B:=B rfl;cases b with
      |true=>exact z E B hw
      |false=>exact skip E B hw
     |false=>
      have C:=C rfl;cases b with
      |true=>exact skip E C hw
      |false=>exact z E C hw
    |u=>exact skip f h (xP f q r I)
theorem ui:∀{l:List Nat},mf ops l=ν->∀j∈l,mj ops j=false
 |[],_,_,h=>by cases h
 |i::l,h,j,a=>by
  simp only[mf]at h;cases e:ops[i]? with
  |none=>
   rw[e]at h;cases a with
   |head=>simp[mj,e]
   |tail _ a=>exact ui h j a
  |some o=>
   rw[e]at h;simp only at h;cases f:i7 o with
   |true=>rw[f]at h;cases h
   |false=>
    rw[f]at h;cases a with
    |head=>simp[mj,e,f]
    |tail _ a=>exact ui h j a
theorem FF{bs:Array Nat}{same:Bool}{q:Nat}{st:x4->Prop}{a:List (x4×List (Nat×(x4->Prop)))}(I:same=true->∃ks r,a=(w,ks)::r):
  (∀j w',ml bs (pL same q w st a) j w'->ml bs a j w')/\(∀j w',kI bs j q=true->ml bs (pL same q w st a) j w'->Ext w w'\/st w')/\∃ks r,pL same q w st a=(w,ks)::r:=by
 cases same with
 |true=>
  obtain⟨ks,r,rfl⟩:=I rfl;refine⟨λj w' h g e x f hu=>?_,λj w' hu h=>h (w,(q,st)::ks) (.head _) (q,st) (.head _) hu,_,_,rfl⟩;cases e with
  |head=>exact h (w,(q,st)::ks) (.head _) x (.tail _ f) hu
  |tail _ e=>exact h g (.tail _ e) x f hu
 |false=>
  refine⟨λj w' h g e x f hu=>h g (.tail _ e) x f hu,λj w' hu h=>h (w,[(q,st)]) (.head _) (q,st) (.head _) hu,_,_,rfl⟩
theorem FG{K:Env->x4->Prop}{bs:Array Nat}(V:lE ops bs=true)(W:Region.noSelect ops=true)(X:∀c a w,¬Q (.panic c) a w)(M:∀o∈ops.toList,∀t,o.dst=σ t->t∈D)(Y:na N ops.toList=true):
  ∀(fuel:Nat)(p:Array Bool)(same:Bool)(s:List (x4×List (Nat×(x4->Prop))))(e:Env)(a:Act)(w:x4),Down ops p->(same=true->∃ks r,s=(w,ks)::r)->
   mg P free ops bs fuel p same s e w K->S5 N e a->
   (∀a' w',mh N free K D a w a' w'->Q .normal a' w')->iB r P ops bs Q fuel p s a w:=by
 have F:∀{j:Nat}{o:T2},ops[j]?=σ o->o∈ops.toList:=λh=>by
  rw[<-S7]at h;exact x6 h
 have ok:∀{j:Nat}{o:T2},ops[j]?=σ o->jw N o.dst=true:=λh=>by
  simp only[na,List.all_eq_true]at Y;exact Y _ (F h)
 intro fuel;induction fuel with
 |zero=>
  intro p same s e a w A O h C B;unfold mg at h;cases y:Region.ready .any ops p with
  |nil=>rw[y]at h;exact⟨y,B a w ⟨e,h,C,gJ.refl _ _,λ_=>cB.refl _ _⟩⟩
  |cons i l=>rw[y]at h;exact h.elim
 |succ fuel R=>
  intro p same s e a w A O h C B;unfold mg at h;cases y:Region.ready .any ops p with
  |nil=>
   rw[y]at h;refine⟨λ_=>B a w ⟨e,h,C,gJ.refl _ _,λ_=>cB.refl _ _⟩,λi hi=>?_⟩;rw[y]at hi;cases hi
  |cons i l=>
   rw[y]at h;simp only at h;cases G:mf ops (i::l)with
   |some q=>
    rw[G]at h;simp only at h;obtain⟨ae,o,f,Z⟩:=uh G;cases H:Region.free .any ops p q with
    |false=>rw[H]at h;exact h.elim
    |true=>
     rw[H,f]at h;simp only[cond_true]at h;obtain⟨v,st,aa,I,z,ab⟩:=FE h C (ok f);have L:q∈Region.ready .any ops p:=by rw[y];exact ae
     cases hm:lD o with
     |true=>
      rw[hm]at z;refine iB.take V W X f Z (w0:=w) (ev':=s) (λ_ _ h=>h) (λh=>by rw[hm]at h;cases h) fuel p a w A (Region.free_spec f H) L aa (.inr (.inl (Ext.refl _))) ?_;exact R _ same s I _ w (A.set L) O z ab λa' w' x=>B a' w' (x.step (gJ.put a v λt E=>M o (F f) t E) λ_=>cB.refl _ _)
     |false=>
      rw[hm]at z;obtain⟨h1,af,ag⟩:=FF (bs:=bs) (q:=q) (st:=st) O;refine iB.take V W X f Z (w0:=w) (ev':=pL same q w st s) h1 (λ_=>af) fuel p a w A (Region.free_spec f H) L aa (.inr (.inl (Ext.refl _))) ?_;exact R _ true _ I _ w (A.set L) (λ_=>ag) z ab λa' w' x=>B a' w' (x.step (gJ.put a v λt E=>M o (F f) t E) λ_=>cB.refl _ _)
   |none=>
    rw[G]at h;simp only at h;refine⟨(λac=>by rw[y]at ac;cases ac),λj ad=>?_⟩;have S:=ad;rw[y]at S;have ah:=ui G j S;have x:=xU h j S;cases f:ops[j]? with
    |none=>rw[f]at x;exact x.elim
    |some o=>
     rw[f]at x;simp only at x;unfold wpOpIn;simp only[f];have next:∀T J,fl N free (λI w'=>m9 bs j w' (mg P free ops bs fuel (p.setIfInBounds j true) false s I w' K) s) o a w T J->
       ug ops bs s j w J/\iB r P ops bs Q fuel (p.setIfInBounds j true) s T J:=by
      rintro T J ⟨ai,v,z,aj,rfl,ak⟩;obtain⟨z,al⟩:=uf z;exact⟨⟨λh=>(by rw[ah]at h;cases h),λ_=>al⟩,
       R _ false s ai _ J (A.set ad) (λh=>by cases h) z aj λa' w' x=>B a' w' (x.step (gJ.put a v λt E=>M o (F f) t E) ak)⟩
     rcases xQ (r:=r) (Q:=Q) x C (ok f)with⟨hw,U⟩|⟨hw,U⟩
     .rw[if_pos hw];exact T2.wpIn_mono next U
     .rw[hw];exact⟨λ_ _=>trivial,next _ _ U⟩
theorem FH(hm:P.follows .mixedOrders=true){K:Env->x4->Prop}{id:Nat}{e:Env}{a:Act}(p:lE ops (Region.before ops)=true)(q:∀c a w,¬Q (.panic c) a w)(s:∀o∈ops.toList,∀t,o.dst=σ t->t∈D)(y:na N ops.toList=true)(h:∀w',Ext w w'->Ext w' w->cJ w w'->uc P free ops e w' K)(z:S5 N e a)(A:∀a' w',mh N free K D a w a' w'->Q .normal a' w'):
  (Code.region id ops true).wpIn (ez r) 0 P Q a w:=by
 refine wpIn_region_any hm ?_;have h:=h {w with drawn:=w.drawn+1} (rm w _) ⟨o5 _,λ_ _ h _=>h⟩ (pG w _ (Nat.le_succ _));unfold uc at h;cases f:Region.noSelect ops with
 |false=>rw[f]at h;exact h.elim
 |true=>
  rw[f]at h;refine iB.any _ _ _ _ _ (FG p f q s y ops.size _ false [] e a _ ?_ (λh=>by cases h) h z λa' w' B=>A a' w' (B.step (gJ.refl _ _) λ_=>(pG w _ (Nat.le_succ _)).b));intro x o _ j;rcases Nat.lt_or_ge x ops.size with h'|h'
  .simp[h']at j
  .simp[h']at j
end
def i9(t:Nat):List Nat->Bool
 |[]=>false
 |s::r=>bif S0 s t then true else i9 t r
theorem uj{t:Nat}:∀{l:List Nat},i9 t l=true↔t∈l
 |[]=>by simp[i9]
 |s::r=>by
  simp only[i9];cases h:S0 s t with
  |true=>simp[Nat.eq_of_beq_eq_true h]
  |false=>
   have:=Nat.ne_of_beq_eq_false h;simp[uj (l:=r),S6 this]
def nb:List T2->List Nat
 |[]=>[]
 |o::l=>match o.dst with
  |some d=>d::nb l
  |none=>nb l
def tmpsOf:List S4->List Nat
 |[]=>[]
 | .tmp t::l=>t::tmpsOf l
 |_::l=>tmpsOf l
def FI(ops:Array T2)(o:T2):List Nat:=
 match o.guard with
 |some (j,_)=>match(ops[j]?).bind (·.dst)with
  |some s=>[s]
  |none=>[]
 |none=>[]
def rx(D:List Nat):List Nat->List Nat
 |[]=>[]
 |t::r=>bif i9 t D then rx D r else t::rx D r
def uk(D:List Nat):List Nat->List Nat
 |[]=>[]
 |t::r=>bif i9 t D then t::uk D r else uk D r
def xV(ops:Array T2):List T2->List Nat->List Nat
 |[],_=>[]
 |o::l,D=>rx D (tmpsOf (opsOf o.op)++FI ops o)++xV ops l (match o.dst with
  |some d=>d::D
  |none=>D)
def dB:Code->List Nat
 | .region _ ops _=>nb ops.toList
 | .seq a b=>dB a++dB b
 | .cond _ a b=>dB a++dB b
 | .block _ c=>dB c
 | .loop c=>dB c
 | .scope c=>dB c
 |_=>[]
def jx(id:Nat):Code->Nat
 | .seq a b=>jx id a+jx id b
 | .cond _ a b=>jx id a+jx id b
 | .block _ c=>jx id c
 | .loop c=>jx id c
 | .scope c=>jx id c
 | .exit i=>bif S0 i id then 1 else 0
 | .rangeFunc _ _ _ b=>jx id b
 |_=>0
def FJ(ops:Array T2):Bool:=
 let bs:=Region.before ops;let a:=λ(i:Nat)=>match ops[i]? with|some o=>!(i7 o)|none=>false
 (W3 ops.size).any λj=>a j&&((W3 j).any λi=>a i&&(!((bs.getD j 0).testBit i)&& !((bs.getD i 0).testBit j)))
def kJ:Code->Nat
 | .region _ ops e=>bif (e&&FJ ops)||ops.any (·.guard.isSome)then 2 else 1
 | .seq a b=>bif S0 (kJ a) 0 then 0 else kJ b
 | .cond _ a b=>kJ a+kJ b
 | .block id c=>kJ c+jx id c
 | .loop _=>0
 | .scope c=>kJ c
 | .exit _=>0
 | .goto _=>0
 | .ret=>0
 | .refuse _=>0
 |_=>1
def lF:Code->List Nat
 | .region _ ops _=>nb ops.toList
 | .seq a b=>lF a++lF b
 | .cond _ a b=>bif S0 (kJ a) 0 then lF b else bif S0 (kJ b) 0 then lF a else uk (lF a) (lF b)
 | .block id c=>bif S0 (jx id c) 0 then lF c else[]
 | .scope c=>lF c
 |_=>[]
def reads:Code->List Nat
 | .region _ ops _=>xV ops ops.toList []
 | .seq a b=>reads a++rx (lF a) (reads b)
 | .cond c a b=>tmpsOf [c]++(reads a++reads b)
 | .block _ c=>reads c
 | .loop c=>reads c
 | .scope c=>reads c
 | .rangeFunc f _ a b=>tmpsOf [f]++(reads a++reads b)
 |_=>[]
def ke:Code->Bool
 | .seq a b=>ke a||ke b
 | .cond _ a b=>ke a||ke b
 | .block _ c=>ke c
 | .loop c=>ke c
 | .scope c=>ke c
 | .rangeFunc ..=>true
 |_=>false
def wf(N:Nat):Code->Bool
 | .region _ ops e=>na N ops.toList&&(!e||lE ops (Region.before ops))
 | .seq a b=>wf N a&&wf N b
 | .cond _ a b=>wf N a&&wf N b
 | .block _ c=>wf N c
 | .loop c=>wf N c
 | .scope c=>wf N c
 | .rangeFunc _ f a b=>(f.toList.all λt=>Nat.blt t N)&&(wf N a&&wf N b)
 |_=>true
def nc:Nat->Type->Type
 |0,β=>β
 |n+1,β=>x3->nc n β
def app{β:Type}:(n:Nat)->nc n β->List x3->β
 |0,f,_=>f
 |n+1,f,[]=>app n (f undef) []
 |n+1,f,v::r=>app n (f v) r
def lam{β:Type}:(n:Nat)->(List x3->β)->nc n β
 |0,f=>f []
 |n+1,f=>λv=>lam n λr=>f (v::r)
def ry:(n:Nat)->nc n Prop->Prop
 |0,p=>p
 |n+1,p=>∀v,ry n (p v)
theorem rz{β:Type}:∀(n:Nat)(f:List x3->β)(vs:List x3),vs.length=n->app n (lam n f) vs=f vs
 |0,f,[],_=>rfl
 |n+1,f,v::r,h=>by
  simp only[app,lam];exact rz n _ r (by simpa using h)
theorem rA:∀(n:Nat)(p:nc n Prop)(vs:List x3),ry n p->app n p vs
 |0,_,_,h=>h
 |n+1,_,[],h=>rA n _ [] (h undef)
 |n+1,_,v::r,h=>rA n _ r (h v)
def FK(n:Nat)(vs:List x3)(w:x4)(B:List x3->x4->(List x3->x4->Prop)->Prop):Prop:=
 ∃(a:nc n (x4->Prop))(e:nc n (x4->Nat)),app n a vs w/\
  ry n (lam n λus=>∀w',app n a us w'->B us w' λf h=>app n a f h/\app n e f h<app n e us w')
def FL(w:x4)(B:x4->(x4->Prop)->Prop):Prop:=
 ∃(a:x4->Prop)(e:x4->Nat),a w/\∀w',a w'->B w' λf=>a f/\e f<e w'
def b1(a:x3)(w:x4)(B:x3->x4->(x3->x4->Prop)->Prop):Prop:=
 ∃(e:x3->x4->Prop)(f:x3->x4->Nat),e a w/\∀a w',e a w'->B a w' λa' h=>e a' h/\f a' h<f a w'
def b3(a b:x3)(w:x4)(B:x3->x3->x4->(x3->x3->x4->Prop)->Prop):Prop:=
 ∃(e:x3->x3->x4->Prop)(f:x3->x3->x4->Nat),e a b w/\∀a b w',e a b w'->B a b w' λa' h j=>e a' h j/\f a' h j<f a b w'
def mm(a b c:x3)(w:x4)(B:x3->x3->x3->x4->(x3->x3->x3->x4->Prop)->Prop):Prop:=
 ∃(e:x3->x3->x3->x4->Prop)(f:x3->x3->x3->x4->Nat),e a b c w/\
  ∀a b c w',e a b c w'->B a b c w' λa' h j p=>e a' h j p/\f a' h j p<f a b c w'
def pN(a b c d:x3)(w:x4)(B:x3->x3->x3->x3->x4->(x3->x3->x3->x3->x4->Prop)->Prop):Prop:=
 ∃(e:x3->x3->x3->x3->x4->Prop)(f:x3->x3->x3->x3->x4->Nat),e a b c d w/\
  ∀a b c d w',e a b c d w'->B a b c d w' λa' h j p q=>e a' h j p q/\f a' h j p q<f a b c d w'
def pO(a b c d e:x3)(w:x4)(B:x3->x3->x3->x3->x3->x4->(x3->x3->x3->x3->x3->x4->Prop)->Prop):Prop:=
 ∃(f:x3->x3->x3->x3->x3->x4->Prop)(h:x3->x3->x3->x3->x3->x4->Nat),f a b c d e w/\∀a b c d e w',f a b c d e w'->B a b c d e w' λa' j p q r s=>f a' j p q r s/\h a' j p q r s<h a b c d e w'
def FM(a b c d e f:x3)(w:x4)(B:x3->x3->x3->x3->x3->x3->x4->(x3->x3->x3->x3->x3->x3->x4->Prop)->Prop):Prop:=
 ∃(h:x3->x3->x3->x3->x3->x3->x4->Prop)(j:x3->x3->x3->x3->x3->x3->x4->Nat),h a b c d e f w/\∀a b c d e f w',h a b c d e f w'->B a b c d e f w' λa' p q r s x y=>h a' p q r s x y/\j a' p q r s x y<j a b c d e f w'
def cv{α:Type}(aw:α)(B:α->Prop):Prop:=B aw
def ul(n:Nat)(w:x4)(K:x4->Prop):Prop:=∀w',Ext w w'->Ext w' w/\fy n w w'->K w'
def Over(n:Nat)(w:x4)(K:x4->Prop):Prop:=∀w',Ext w w'->Ext w' w/\fy n w w'->e4 w w'->K w'
def eg(w:x4)(K:x4->Prop):Prop:=∀w',Ext w w'->Ext w' w->cJ w w'->K w'
def kf(e:Env):List Nat->Option (List x3)
 |[]=>σ []
 |t::r=>match look e t with
  |some x=>match kf e r with
   |some vs=>σ (x.val::vs)
   |none=>ν
  |none=>ν
def ja:List Nat->List x3->Env->Env
 |t::r,v::vs,e=>(t,.v v)::ja r vs e
 |_,_,e=>e
def lG(D:List Nat):Env->Env
 |[]=>[]
 |(t,x)::r=>bif i9 t D then lG D r else(t,x)::lG D r
def pP(N:Nat)(D R:List Nat):List Nat:=(W3 N).filter λt=>i9 t D&&i9 t R
def pQ(N:Nat)(D R:List Nat)(e:Env):List Nat:=(W3 N).filter λt=>i9 t D&&((look e t).isSome&&i9 t R)
def jb:Code->Bool
 | .seq a b=>jb a||jb b
 | .cond _ a b=>jb a||jb b
 | .block _ c=>jb c
 | .loop c=>jb c
 | .scope c=>jb c
 | .rangeFunc _ _ a b=>jb a||jb b
 | .ret=>true
 |_=>false
def FN(i:Nat)(l:List Nat):List Nat:=bif i9 i l then l else i::l
def rB:List Nat->List Nat->List Nat
 |[],l=>l
 |i::r,l=>FN i (rB r l)
def um(i:Nat):List Nat->List Nat
 |[]=>[]
 |j::r=>bif S0 i j then um i r else j::um i r
def jy:Code->List Nat
 | .seq a b=>rB (jy a) (jy b)
 | .cond _ a b=>rB (jy a) (jy b)
 | .block id c=>um id (jy c)
 | .loop c=>jy c
 | .scope c=>jy c
 | .rangeFunc _ _ a b=>rB (jy a) (jy b)
 | .exit i=>[i]
 |_=>[]
def ne:List (Nat×(x4->Prop))->Nat->x4->Prop
 |[],_,_=>False
 |(j,k)::r,i,w=>(i=j/\k w)\/ne r i w
def uo(K:Nat->x4->Prop):List Nat->List (Nat×(x4->Prop))
 |[]=>[]
 |i::r=>(i,λw=>K i w)::uo K r
theorem xW{K:Nat->x4->Prop}:∀{l:List Nat}{i:Nat}{w:x4},ne (uo K l) i w->K i w
 |[],_,_,h=>h.elim
 |j::r,i,w,h=>by
  rcases h with⟨rfl,h⟩|h
  .exact h
  .exact xW h
section
variable(P:W9)
def oB{a:Type}(G:Bool)(g:R6)(cap:List x3)(p:a)(q:a->Prop)(r:a->List x3->a->x4->Prop)(h:x4->Prop):Prop:=
 Enters P g/\∀(l:Nat)(aw e:a->x4->Prop)(w:x4),
  (∀k J U,Ext J U->cB w.heap.size J U->aw k J->aw k U)->(∀k J U,Ext J U->cB w.heap.size J U->e k J->e k U)->
  (∀k j vs w',h w'->r k vs j w'->aw k w'->hJ P l vs w' λv f=>(v= .bool true/\h f/\aw j f/\(G=true->cJ w' f))\/(v= .bool false/\e k f))->
  h w->aw p w->gI P g (.func (.yield l) #[] #[]::cap) w λ_ w'=>(∃k,q k/\aw k w')\/∃k,e k w'
def uq(G:Bool)(g:R6)(cap:List x3)(n:Nat)(h:Nat->List x3->x4->Prop)(f:x4->Prop):Prop:=
 Enters P g/\∀(l:Nat)(aw a:Nat->x4->Prop)(w:x4),
  (∀k J U,Ext J U->cB w.heap.size J U->aw k J->aw k U)->(∀k J U,Ext J U->cB w.heap.size J U->a k J->a k U)->
  (∀k vs w',k<n->f w'->h k vs w'->aw k w'->hJ P l vs w' λv e=>(v= .bool true/\f e/\aw (k+1) e/\(G=true->cJ w' e))\/(v= .bool false/\a k e))->
  f w->aw 0 w->gI P g (.func (.yield l) #[] #[]::cap) w λ_ w'=>aw n w'\/∃k,k<n/\a k w'
def pR{e:Type}(o G:Bool)(g:R6)(cap:List x3)(p:e)(q:e->Prop)(s:e->List x3->e->x4->Prop)(h:(Nat->Prop)->x4->Prop):Prop:=
 Enters P g/\∀(l:Nat)(aw f:(Nat->Prop)->e->x4->Prop)(w:x4),
  (∀D k J U,ae (λr=>o=true/\w.heap.size<=r/\¬D r) J U->fy w.heap.size J U->aw D k J->aw D k U)->
  (∀D k J U,ae (λr=>o=true/\w.heap.size<=r/\¬D r) J U->fy w.heap.size J U->f D k J->f D k U)->
  (∀D k j vs w',(∀r,D r->w.heap.size<=r/\r<w'.heap.size)->w.heap.size<=w'.heap.size->h D w'->s k vs j w'->aw D k w'->hJ P l vs w' λv a=>
   (v= .bool true/\(∃D',(∀r,D' r->D r\/w'.heap.size<=r/\r<a.heap.size)/\(∀r,D r->D' r)/\h D' a/\aw D' j a)/\(G=true\/o=true->cJ w' a)/\w'.heap.size<=a.heap.size/\(o=true->ae (λr=>r<w.heap.size\/D r) w' a))\/(o=false/\v= .bool false/\f D k a))->
  (h (λ_=>False) w)->aw (λ_=>False) p w->gI P g (.func (.yield l) #[] #[]::cap) w λ_ w'=>(∃D k,q k/\aw D k w')\/∃D k,f D k w'
abbrev oC(g:R6)(cap:List x3)(n:Nat)(a:Nat->List x3->x4->Prop)(e:x4->Prop):Prop:=uq P false g cap n a e
def FO(z:x3)(q:Nat)(w:x4)(B:List x3->x4->(Exit->x4->Prop)->Prop)(A C:x4->Prop)(E:List (Nat×(x4->Prop))):Prop:=
 ∃(h:Type)(o G:Bool)(g:R6)(cap:Array x3)(x:h)(y:h->Prop)(s:h->List x3->h->x4->Prop)(e:(Nat->Prop)->x4->Prop)(f:(Nat->Prop)->h->x4->Prop)(j:(Nat->Prop)->h->Exit->x4->Prop),
  z= .func (.func g) #[] cap/\pR P o G g cap.toList x y s e/\(∀k vs p w,s k vs p w->vs.length=q)/\
  (∀m w w',Ext w w'->e m w->e m w')/\(∀m k J U,ae (λr=>o=true/\w.heap.size<=r/\¬m r) J U->fy w.heap.size J U->f m k J->f m k U)/\(∀m k ex J U,ae (λr=>o=true/\w.heap.size<=r/\¬m r) J U->fy w.heap.size J U->j m k ex J->j m k ex U)/\
  e (λ_=>False) w/\f (λ_=>False) x w/\
  ry q (lam q λvs=>∀m k p w',(∀r,m r->w.heap.size<=r/\r<w'.heap.size)->w.heap.size<=w'.heap.size->e m w'->s k vs p w'->f m k w'->B vs w' λex a=>match ex with
   | .normal=>bif o then(∃bV,(∀r,bV r->m r\/w'.heap.size<=r/\r<a.heap.size)/\(∀r,m r->bV r)/\e bV a/\f bV p a)/\e4 w' a/\ae (λr=>r<w.heap.size\/m r) w' a else e m a/\f m p a/\(G=true->e4 w' a)
   |ex=>bif o then False else j m k ex a)/\
  (∀m k w',y k->f m k w'->A w')/\(∀m k w',j m k .ret w'->C w')/\(∀m k i w',j m k (.exit i) w'->ne E i w')
def kK(z:x3)(w:x4)(B:x3->x4->(Exit->x4->Prop)->Prop)(A C:x4->Prop)(E:List (Nat×(x4->Prop))):Prop:=
 ∃(j:Type)(o G:Bool)(g:R6)(cap:Array x3)(x:j)(y:j->Prop)(s:j->List x3->j->x4->Prop)(f:(Nat->Prop)->x4->Prop)(h:(Nat->Prop)->j->x4->Prop)(p:(Nat->Prop)->j->Exit->x4->Prop),
  z= .func (.func g) #[] cap/\pR P o G g cap.toList x y s f/\(∀k vs q w,s k vs q w->vs.length=1)/\
  (∀m w w',Ext w w'->f m w->f m w')/\(∀m k J U,ae (λr=>o=true/\w.heap.size<=r/\¬m r) J U->fy w.heap.size J U->h m k J->h m k U)/\(∀m k ex J U,ae (λr=>o=true/\w.heap.size<=r/\¬m r) J U->fy w.heap.size J U->p m k ex J->p m k ex U)/\
  f (λ_=>False) w/\h (λ_=>False) x w/\
  (∀a,∀m k q w',(∀r,m r->w.heap.size<=r/\r<w'.heap.size)->w.heap.size<=w'.heap.size->f m w'->s k [a] q w'->h m k w'->B a w' λex e=>match ex with
   | .normal=>bif o then(∃bV,(∀r,bV r->m r\/w'.heap.size<=r/\r<e.heap.size)/\(∀r,m r->bV r)/\f bV e/\h bV q e)/\e4 w' e/\ae (λr=>r<w.heap.size\/m r) w' e else f m e/\h m q e/\(G=true->e4 w' e)
   |ex=>bif o then False else p m k ex e)/\
  (∀m k w',y k->h m k w'->A w')/\(∀m k w',p m k .ret w'->C w')/\(∀m k i w',p m k (.exit i) w'->ne E i w')
def oD(z:x3)(w:x4)(B:x3->x3->x4->(Exit->x4->Prop)->Prop)(A C:x4->Prop)(E:List (Nat×(x4->Prop))):Prop:=
 ∃(j:Type)(o G:Bool)(g:R6)(cap:Array x3)(x:j)(y:j->Prop)(s:j->List x3->j->x4->Prop)(f:(Nat->Prop)->x4->Prop)(h:(Nat->Prop)->j->x4->Prop)(p:(Nat->Prop)->j->Exit->x4->Prop),
  z= .func (.func g) #[] cap/\pR P o G g cap.toList x y s f/\(∀k vs q w,s k vs q w->vs.length=2)/\
  (∀m w w',Ext w w'->f m w->f m w')/\(∀m k J U,ae (λr=>o=true/\w.heap.size<=r/\¬m r) J U->fy w.heap.size J U->h m k J->h m k U)/\(∀m k ex J U,ae (λr=>o=true/\w.heap.size<=r/\¬m r) J U->fy w.heap.size J U->p m k ex J->p m k ex U)/\
  f (λ_=>False) w/\h (λ_=>False) x w/\
  (∀a b,∀m k q w',(∀r,m r->w.heap.size<=r/\r<w'.heap.size)->w.heap.size<=w'.heap.size->f m w'->s k [a,b] q w'->h m k w'->B a b w' λex e=>match ex with
   | .normal=>bif o then(∃bV,(∀r,bV r->m r\/w'.heap.size<=r/\r<e.heap.size)/\(∀r,m r->bV r)/\f bV e/\h bV q e)/\e4 w' e/\ae (λr=>r<w.heap.size\/m r) w' e else f m e/\h m q e/\(G=true->e4 w' e)
   |ex=>bif o then False else p m k ex e)/\
  (∀m k w',y k->h m k w'->A w')/\(∀m k w',p m k .ret w'->C w')/\(∀m k i w',p m k (.exit i) w'->ne E i w')
theorem uq.s{P:W9}{G:Bool}{g:R6}{cap:List x3}{f:Nat->List x3->x4->Prop}{a:x4->Prop}(h:uq P G g cap n f a):
  oB P G g cap 0 (λk=>k=n) (λk vs j w=>k<n/\j=k+1/\f k vs w) a:=by
 refine⟨h.1,λl aw p w q r x ha y=>?_⟩;have:=h.2 l aw (λk w=>p k w) w q r (λk vs w' hk hz A B=>x k (k+1) vs w' hz ⟨hk,rfl,A⟩ B) ha y;cases this with
 |code h1 C=>exact .code h1 (C.mono λ_ _ ⟨v,E,e⟩=>⟨v,E,e.elim (λh=>.inl ⟨n,rfl,h⟩) (λ⟨k,_,h⟩=>.inr ⟨k,h⟩)⟩)
 |ext v w' h1 e=>exact .ext v w' h1 (e.elim (λh=>.inl ⟨n,rfl,h⟩) (λ⟨k,_,h⟩=>.inr ⟨k,h⟩))
theorem oB.x{P:W9}{s:Type}{G:Bool}{g:R6}{cap:List x3}{E:s}{F:s->Prop}{H:s->List x3->s->x4->Prop}{y:x4->Prop}(h:oB P G g cap E F H y):pR P false G g cap E F H λ_=>y:=by
 refine⟨h.1,λl aw K w L M N hy O=>?_⟩;have:=h.2 l (λk w'=>w.heap.size<=w'.heap.size/\∃D,(∀r,D r->w.heap.size<=r/\r<w'.heap.size)/\aw D k w') (λk w'=>∃D,K D k w') w
  (λk J U f A ⟨I,D,a,j⟩=>⟨X0 I f.size,D,λr z=>⟨(a r z).1,T5 (a r z).2 f.size⟩,L D k J U (f.aa _) A.o j⟩) (λk J U f A ⟨D,j⟩=>⟨D,M D k J U (f.aa _) A.o j⟩)
  (λk Q vs w' hR S ⟨I,D,a,j⟩=>hJ.mono (N D k Q vs w' a I hR S j) λv W T=>T.imp (λ⟨h1,⟨D',d1,_,p,B⟩,q,e,_⟩=>⟨h1,p,⟨X0 I e,D',λr z=>(d1 r z).elim (λh=>⟨(a r h).1,T5 (a r h).2 e⟩) λh=>⟨X0 I h.1,h.2⟩,B⟩,λV=>q (.inl V)⟩) λ⟨_,h1,p⟩=>⟨h1,D,p⟩) hy ⟨o5 _,_,λ_ h=>h.elim,O⟩
 cases this with
 |code h1 p=>exact .code h1 (p.mono λ_ _ ⟨v,B,q⟩=>⟨v,B,q.imp (λ⟨k,e,_,D,_,C⟩=>⟨D,k,e,C⟩) (λ⟨k,D,h⟩=>⟨D,k,h⟩)⟩)
 |ext v w' h1 q=>exact .ext v w' h1 (q.imp (λ⟨k,e,_,D,_,C⟩=>⟨D,k,e,C⟩) (λ⟨k,D,h⟩=>⟨D,k,h⟩))
theorem kK.old{P:W9}{C:x3}{B:x3->x4->(Exit->x4->Prop)->Prop}{E F:x4->Prop}{H:List (Nat×(x4->Prop))}(h:∃(f:Type)(G:Bool)(g:R6)(cap:Array x3)(s:f)(y:f->Prop)(r:f->List x3->f->x4->Prop)(e:x4->Prop)(j:f->x4->Prop)(p:f->Exit->x4->Prop),
  C= .func (.func g) #[] cap/\oB P G g cap.toList s y r e/\(∀k vs q w,r k vs q w->vs.length=1)/\
  (∀w w',Ext w w'->e w->e w')/\(∀k w w',Ext w w'->j k w->j k w')/\(∀k ex w w',Ext w w'->p k ex w->p k ex w')/\
  e w/\j s w/\
  (∀a,∀k q w',e w'->r k [a] q w'->j k w'->B a w' λex z=>match ex with
   | .normal=>e z/\j q z/\(G=true->e4 w' z)
   |ex=>p k ex z)/\
  (∀k w',y k->j k w'->E w')/\(∀k w',p k .ret w'->F w')/\(∀k i w',p k (.exit i) w'->ne H i w')):kK P C w B E F H:=by
 obtain⟨f,G,g,cap,s,y,r,e,j,p,h1,I,K,L,M,N,O,Q,R,S,T,V⟩:=h;exact⟨f,false,G,g,cap,s,y,r,λ_=>e,λ_=>j,λ_=>p,h1,I.x,K,λ_=>L,λ_ k J U A _=>M k J U (A.ext λ_ _ h=>nomatch h.1),λ_ k ex J U A _=>N k ex J U (A.ext λ_ _ h=>nomatch h.1),O,Q,
  λa _ k q w' _ _ he W X=>R a k q w' he W X,λ_=>S,λ_=>T,λ_=>V⟩
theorem oD.old{P:W9}{C:x3}{B:x3->x3->x4->(Exit->x4->Prop)->Prop}{E F:x4->Prop}{H:List (Nat×(x4->Prop))}(h:∃(f:Type)(G:Bool)(g:R6)(cap:Array x3)(s:f)(y:f->Prop)(r:f->List x3->f->x4->Prop)(e:x4->Prop)(j:f->x4->Prop)(p:f->Exit->x4->Prop),
  C= .func (.func g) #[] cap/\oB P G g cap.toList s y r e/\(∀k vs q w,r k vs q w->vs.length=2)/\
  (∀w w',Ext w w'->e w->e w')/\(∀k w w',Ext w w'->j k w->j k w')/\(∀k ex w w',Ext w w'->p k ex w->p k ex w')/\
  e w/\j s w/\
  (∀a b,∀k q w',e w'->r k [a,b] q w'->j k w'->B a b w' λex z=>match ex with
   | .normal=>e z/\j q z/\(G=true->e4 w' z)
   |ex=>p k ex z)/\
  (∀k w',y k->j k w'->E w')/\(∀k w',p k .ret w'->F w')/\(∀k i w',p k (.exit i) w'->ne H i w')):oD P C w B E F H:=by
 obtain⟨f,G,g,cap,s,y,r,e,j,p,h1,I,K,L,M,N,O,Q,R,S,T,V⟩:=h;exact⟨f,false,G,g,cap,s,y,r,λ_=>e,λ_=>j,λ_=>p,h1,I.x,K,λ_=>L,λ_ k J U A _=>M k J U (A.ext λ_ _ h=>nomatch h.1),λ_ k ex J U A _=>N k ex J U (A.ext λ_ _ h=>nomatch h.1),O,Q,
  λa b _ k q w' _ _ he W X=>R a b k q w' he W X,λ_=>S,λ_=>T,λ_=>V⟩
def eE(N:Nat)(free:fz):Code->List Nat->Env->x4->(Exit->Env->x4->Prop)->Prop
 | .skip,_,e,w,K=>K .normal e w
 | .label _,_,e,w,K=>K .normal e w
 | .ret,_,e,w,K=>K .ret e w
 | .exit i,_,e,w,K=>K (.exit i) e w
 | .region _ ops p,_,e,w,K=>
  bif p then eg w λw'=>uc P free ops e w' (K .normal)
  else oz P free ops ops.toList e w (K .normal)
 | .seq x y,rd,e,w,K=>
  bif Nat.ble 2 (kJ x)then
   cv (lam (pP N (dB x) (reads y++rd)).length λvs=>λw'=>eE N free y rd (ja (pP N (dB x) (reads y++rd)) vs (lG (dB x) e)) w' K)
    λaw=>eE N free x (reads y++rd) e w λex a w'=>match ex with
     | .normal=>match kf a (pP N (dB x) (reads y++rd))with
      |some vs=>app (pP N (dB x) (reads y++rd)).length aw vs w'
      |none=>False
     |ex=>K ex a w'
  else eE N free x (reads y++rd) e w λex a w'=>match ex with
   | .normal=>eE N free y rd a w' K
   |ex=>K ex a w'
 | .cond c x y,rd,e,w,K=>
  match eJ e c with
  |some (.b true)=>eE N free x rd e w K
  |some (.b false)=>eE N free y rd e w K
  |some (.v v)=>Split v (eE N free x rd e w K) (eE N free y rd e w K)
  |some .u=>False
  |none=>False
 | .block id c,rd,e,w,K=>eE N free c rd e w λex a w'=>match ex with
  | .exit i=>bif S0 i id then K .normal a w' else K (.exit i) a w'
  |ex=>K ex a w'
 | .loop c,rd,e,w,K=>
  match kf e (pQ N (dB c) (reads c++rd) e)with
  |some vs=>
   FK (pQ N (dB c) (reads c++rd) e).length vs w λus w' k=>
    eE N free c (reads c++rd) (ja (pQ N (dB c) (reads c++rd) e) us (lG (dB c) e)) w' λex a h=>match ex with
     | .normal=>match kf a (pQ N (dB c) (reads c++rd) e)with
      |some q=>k q h
      |none=>False
     |ex=>K ex a h
  |none=>False
 | .scope c,rd,e,w,K=>eE N free c rd e w K
 | .rangeFunc f j r body,_,e,w,K=>
  bif free.1 then False else
  match eJ e f with
  |some s=>
   FO P s.val j.size w
    (λvs w' k=>eE N free r (reads body) (ja j.toList.reverse vs.reverse e) w' λex a h=>match ex with
     | .normal=>Over w.heap.size h λz=>eE N free body [] a z λex _ A=>k ex A
     |_=>False)
    (λw'=>K .normal e w') (bif jb body then λw'=>K .ret e w' else λ_=>False) (uo (λi w'=>K (.exit i) e w') (jy body))
  |none=>False
 | .goto _,_,_,_,_=>False
 | .refuse _,_,_,_,_=>False
end
theorem rC{w0:x4}(h:cB n w0 w){l:Nat}(j:w0.heap.size<=l)(o:Obj):cB n w0 (w.putObj l o):=
 ⟨h.os,h.tape,h.output,by simpa using h.size,λr x a I=>by
  have e:=(j6.1 a).1;rw[R7 Ω];exact h.aU r x a I,λr x f a I=>by
  have e:=(j6.1 a).1;rw[R7 Ω];exact h.old r x f a I⟩
theorem FP{w0:x4}(h:e4 w0 w){l:Nat}{a:Obj}(f:w.heap[l]?=σ a)(j:rl a=false)(o:Obj):e4 w0 (w.putObj l o):=λr x p I=>by
 have h1:=h r x p I;by_cases e:r=l
 .subst e;rw[f]at h1;cases h1;rw[j]at I;cases I
 .rw[R7 e];exact h1
theorem pS{l:Nat}{e:Obj}(h:w.heap[l]?=σ e)(j:fx e=false)(o:Obj):Ext w (w.putObj l o):=
 ⟨Ξ,λr x a I=>by
  by_cases f:r=l
  .subst f;rw[h]at a;cases a;rw[j]at I;cases I
  .rw[R7 f];exact a⟩
theorem xX{l:Nat}{o:Obj}(f:fx o=false):Ext (w.putObj l o) w:=
 ⟨Ξ,λr x a I=>by
  by_cases e:r=l
  .subst e;rcases Nat.lt_or_ge r w.heap.size with h|h
   .rw[x4.putObj_heap_same h]at a;cases a;rw[f]at I;cases I
   .rw[Array.getElem?_eq_none (by simpa using h)]at a;cases a
  .rw[R7 e]at a;exact a⟩
theorem oE(w:x4)(o:Obj):Ext w (w.alloc o):=pH w o
theorem oF(w:x4)(o:Obj):cJ w (w.alloc o):=pI w o
def kg(D:Nat):Deferred:={target:=.collected D,args:=#[]}
def lH(w:x4)(e:List Deferred):Prop:=∃a:List Nat,e=a.map kg/\a.Nodup/\∀D∈a,w.heap[D]?=σ (.deferred (σ []))
theorem lH.cu{a:List Deferred}(h:lH w a)(e:cB n w w'):lH w' a:=by
 obtain⟨f,h1,j,p⟩:=h;exact⟨f,h1,j,λD q=>e.aU D _ (p D q) rfl⟩
section
variable{P:W9}{N:Nat}
def FQ(w:x4)(e f:List Deferred):Prop:=∃a:List Nat,f=a.map kg++e/\∀D∈a,w.heap.size<=D
def gK(n:Nat)(w:x4)(e:List Deferred)(w':x4)(a:List Deferred):Prop:=cB n w w'/\lH w' a/\FQ w e a
theorem gK.refl{a:List Deferred}(h:lH w a):gK n w a w a:=⟨cB.refl _ _,h,[],rfl,λ_ h=>by cases h⟩
theorem gK.trans{J:x4}{a e f:List Deferred}(h:gK n w a J e)(k:gK n J e w' f):gK n w a w' f:=by
 obtain⟨j,A,p,a3,a4⟩:=h;obtain⟨q,r,s,x,y⟩:=k;refine⟨j.trans q,r,s++p,by simp[x,a3],λD z=>?_⟩;rcases l9.1 z with h|h
 .exact X0 j.size (y D h)
 .exact a4 D h
theorem gK.same{a:List Deferred}(h:lH w a)(e:cB n w w'):gK n w a w' a:=⟨e,h.cu e,[],rfl,λ_ h=>by cases h⟩
def kL:Exit->Bool
 | .panic _=>false
 | .outgrown=>false
 | .goto _=>false
 |_=>true
def mn(N:Nat)(free:fz)(f:Bool)(K:Exit->Env->x4->Prop)(D:List Nat)(a:Act)(w:x4)(ex:Exit)(a':Act)(w':x4):Prop:=
 kL ex=true/\∃e,K ex e w'/\S5 N e a'/\(∀t,t∉D->a'.tmps.getD t undef=a.tmps.getD t undef)/\(f=true->a'.defers=a.defers)/\
  (free.1=false->gK free.2 w a.defers w' a'.defers)
theorem mn.step{free:fz}{f j:Bool}{K:Exit->Env->x4->Prop}{D':List Nat}{a e a':Act}{J:x4}{ex:Exit}(h:mn N free j K D' e J ex a' w')(q:∀t,t∈D'->t∈D)(hk:∀t,t∉D->e.tmps.getD t undef=a.tmps.getD t undef)(r:f=true->j=true)(s:f=true->e.defers=a.defers)(x:free.1=false->gK free.2 w a.defers J e.defers):mn N free f K D a w ex a' w':=by
 obtain⟨y,z,h1,A,B,C,E⟩:=h;exact⟨y,z,h1,A,λt p=>(B t λh=>p (q t h)).trans (hk t p),λh=>(C (r h)).trans (s h),λh=>(x h).trans (E h)⟩
theorem rD{D:List Nat}{t:Nat}{x:eD}:∀{e:Env},look (lG D e) t=σ x->look e t=σ x/\t∉D
 |[],h=>by cases h
 |(s,y)::r,h=>by
  simp only[lG]at h;cases hm:i9 s D with
  |true=>
   rw[hm]at h;simp only[cond_true]at h;obtain⟨h1,f⟩:=rD h;refine⟨?_,f⟩;simp only[look];cases a:S0 s t with
   |true=>exact absurd (uj.1 hm) (by rw[Nat.eq_of_beq_eq_true a];exact f)
   |false=>exact h1
  |false=>
   rw[hm]at h;simp only[cond_false,look]at h ⊢;cases a:S0 s t with
   |true=>
    rw[a]at h;refine⟨h,λj=>?_⟩;rw[<-Nat.eq_of_beq_eq_true a]at j;rw[uj.2 j]at hm;cases hm
   |false=>
    rw[a]at h;exact rD h
theorem ur{a:Act}{e:Env}:∀{S:List Nat}{vs:List x3},S5 N e a->(∀p∈S.zip vs,a.tmps.getD p.1 undef=p.2)->S5 N (ja S vs e) a
 |[],_,h,_=>by simpa[ja]using h
 |t::r,[],h,_=>by simpa[ja]using h
 |t::r,v::vs,h,j=>by
  have q:=ur (S:=r) (vs:=vs) h λp w=>j p (by simp[w]);refine⟨q.1,λs x I=>?_⟩;simp only[ja,look]at I;cases f:S0 t s with
  |true=>
   rw[f]at I;simp only[cond_true,X4]at I;subst I;rw[<-Nat.eq_of_beq_eq_true f];exact j (t,v) Ξ
  |false=>rw[f]at I;exact q.2 s x I
theorem rE{e:Env}{a:Act}(s:S5 N e a):∀{S:List Nat}{vs:List x3},kf e S=σ vs->vs.length=S.length/\∀p∈S.zip vs,a.tmps.getD p.1 undef=p.2
 |[],vs,h=>by simp[kf]at h;subst h;simp
 |t::r,vs,h=>by
  simp only[kf]at h;cases j:look e t with
  |none=>rw[j]at h;cases h
  |some x=>
   rw[j]at h;simp only at h;cases q:kf e r with
   |none=>rw[q]at h;cases h
   |some us=>
    rw[q]at h;simp only[X4]at h;subst h;obtain⟨h1,w⟩:=rE s q;refine⟨by simp[h1],λp f=>?_⟩;simp only[List.zip_cons_cons,V1]at f;rcases f with rfl|f
    .exact s.2 t x j
    .exact w p f
theorem FR{a a':Act}{e f:Env}(j:S5 N e a)(p:S5 N f a')(hk:∀t,t∉D->a'.tmps.getD t undef=a.tmps.getD t undef):S5 N (lG D e) a':=
 ⟨p.1,λt x h=>by
  obtain⟨h1,q⟩:=rD h;rw[hk t q];exact j.2 t x h1⟩
theorem FS{o:T2}{t:Nat}(a:o.dst=σ t)(l:List T2)(hm:o∈l):t∈nb l:=by
 induction l with
 |nil=>cases hm
 |cons o' l e=>
  simp only[nb];rcases V1.1 hm with h|h
  .rw[<-h,a];simp
  .have:=e h;cases o'.dst with
   |none=>exact this
   |some d=>exact .tail _ this
theorem xY{free:fz}{j:Bool}{K:Exit->Env->x4->Prop}{a a':Act}(p:free.1=false->lH w a.defers)(h:mh N free (K .normal) D a w a' w'):
  mn N free j K D a w .normal a' w':=by
 obtain⟨q,h1,r,e,s⟩:=h;exact⟨rfl,q,h1,r,e.2,λ_=>e.1,λf=>by rw[e.1];exact gK.same (p f) (s f)⟩
theorem xZ:∀(a:List Nat)(vs:List x3)(p:Nat)(v:x3)(e:Env),a.length=vs.length->ja (a++[p]) (vs++[v]) e=ja a vs ((p,.v v)::e)
 |[],[],_,_,_,_=>rfl
 |[],_::_,_,_,_,h=>by simp at h
 |_::_,[],_,_,_,h=>by simp at h
 |q::a,u::vs,p,v,e,h=>by
  simp only[List.cons_append,ja];rw[xZ a vs p v e (by simpa using h)]
theorem x0:∀(a:List Nat)(vs:List x3)(iC:Array x3)(e:Env),a.length=vs.length->(a.all λt=>Nat.blt t N)=true->S5 N e {tmps:=iC,defers:=[]}->
  S5 N (ja a.reverse vs.reverse e) {tmps:=(a.zip vs).foldl (λiC (p:Nat×x3)=>iC.setIfInBounds p.1 p.2) iC,defers:=[]}
 |[],[],_,_,_,_,h=>h
 |[],_::_,_,_,h,_,_=>by simp at h
 |_::_,[],_,_,h,_,_=>by simp at h
 |p::a,v::vs,iC,e,q,f,h=>by
  have j:a.length=vs.length:=by simpa using q
  simp only[List.all_cons,U1]at f;simp only[List.zip_cons_cons,T7,List.reverse_cons];rw[xZ _ _ _ _ _ (by simpa using j)];exact x0 a vs _ _ j f.2 (h.put (d:=σ p) (x:=.v v) (v:=v) f.1 rfl)
def jc(free:fz)(c:Code):Bool:=free.1|| !ke c
theorem x1:∀f a b:Bool,(f|| !(a||b))=true->(f|| !a)=true:=Φ
theorem x2:∀f a b:Bool,(f|| !(a||b))=true->(f|| !b)=true:=Φ
def exitCode:Exit->Option Code
 | .ret=>σ .ret
 | .exit id=>σ (.exit id)
 |_=>ν
end
section
variable{P:W9}{N:Nat}
def Sound(P:W9)(N:Nat)(c:Code):Prop:=
 ∀(free:fz)(r:Option Nat)(rd:List Nat)(e:Env)(a:Act)(w:x4)(K:Exit->Env->x4->Prop)(Q:Exit->Act->x4->Prop),
  wf N c=true->(∀l,r=σ l->free.1=false/\∃f,w.heap[l]?=σ (.loop f))->(free.1=false->lH w a.defers)->
  eE P N free c rd e w K->S5 N e a->(∀ex a' w',mn N free (jc free c) K (dB c) a w ex a' w'->Q ex a' w')->(∀h a w,¬Q (.panic h) a w)->
  c.wpIn (ez r) 0 P Q a w
theorem FT{x y:Code}(aa:Sound P N x)(ab:Sound P N y):Sound P N (.seq x y):=by
 intro free r rd e a w K Q F O ac h R S T;simp only[wf,U1]at F;have U:∀t,t∈dB x->t∈dB (.seq x y):=λt q=>by simp[dB,q]
 have ad:∀t,t∈dB y->t∈dB (.seq x y):=λt q=>by simp[dB,q]
 have V:jc free (.seq x y)=true->jc free x=true:=λh=>x1 _ _ _ h;have ae:jc free (.seq x y)=true->jc free y=true:=λh=>x2 _ _ _ h;refine wpIn_seq ?_;have W:∀(f:Env)(j:Act)(J:x4),eE P N free y rd f J K->S5 N f j->(∀t,t∉dB x->j.tmps.getD t undef=a.tmps.getD t undef)->
   (jc free (.seq x y)=true->j.defers=a.defers)->(free.1=false->gK free.2 w a.defers J j.defers)->y.wpIn (ez r) 0 P Q j J:=by
  intro f j J h1 s hk A p;refine ab free r rd f j J K Q F.2 ?_ (λh=>(p h).2.1) h1 s ?_ T
  .intro l af;obtain⟨X,ag,E⟩:=O l af;exact⟨X,ag,(p X).1.aU _ _ E rfl⟩
  .intro ex a' w' B;exact S ex a' w' (B.step ad (λt q=>hk t λh=>q (U t h)) ae A p)
 have Y:∀(z:Exit->Env->x4->Prop),eE P N free x (reads y++rd) e w z->
   (∀f j J,mn N free (jc free x) z (dB x) a w .normal j J->S5 N f j->z .normal f J->(∀t,t∉dB x->j.tmps.getD t undef=a.tmps.getD t undef)->
    (jc free (.seq x y)=true->j.defers=a.defers)->(free.1=false->gK free.2 w a.defers J j.defers)->y.wpIn (ez r) 0 P Q j J)->
   (∀ex f J,ex≠ .normal->z ex f J->K ex f J)->x.wpIn (ez r) 0 P (Exit.then (y.wpIn (ez r) 0 P Q) Q) a w:=by
  intro z C p ah;refine aa free r _ e a w z _ F.1 O ac C R ?_ ?_
  .intro ex j J B;cases ex with
   |normal=>
    have ai:=B;obtain⟨E,f,h1,G,H,I,L⟩:=B;exact p f j J ai G h1 H (λh=>I (V h)) L
   |_=>
    obtain⟨E,f,h1,G,H,I,L⟩:=B;refine S _ j J ⟨E,f,ah _ f J Ξ h1,G,λt q=>H t λh=>q (U t h),λh=>I (V h),L⟩
  .intro aj a w ak;exact T aj a w ak
 simp only[eE]at h;cases Z:Nat.ble 2 (kJ x)with
 |false=>
  rw[Z]at h;refine Y _ h (λf j J _ s h1 hk A p=>W f j J h1 s hk A p) ?_;intro ex f J M h1;cases ex<;>first|exact absurd rfl M|exact h1
 |true=>
  rw[Z]at h;refine Y _ h (λf j J _ s h1 hk A p=>?_) ?_
  .simp only at h1;cases C:kf f (pP N (dB x) (reads y++rd))with
   |none=>rw[C]at h1;exact h1.elim
   |some vs=>
    rw[C]at h1;obtain⟨al,am⟩:=rE s C;simp only at h1;rw[rz _ _ _ al]at h1;exact W _ j J h1 (ur (FR R s hk) am) hk A p
  .intro ex f J M h1;cases ex<;>first|exact absurd rfl M|exact h1
theorem FU{c:Code}(ac:Sound P N c):Sound P N (.loop c):=by
 intro free r rd e a w K Q V ad ae h F af ag;simp only[wf]at V;simp only[eE]at h;generalize ax:pQ N (dB c) (reads c++rd) e=S at h;cases G:kf e S with
 |none=>rw[G]at h;exact h.elim
 |some vs=>
  rw[G]at h;simp only at h;obtain⟨ah,ai,q,aj⟩:=h;obtain⟨ak,al⟩:=rE F G;let Inv:Act->x4->Prop:=λf J=>∃us,us.length=S.length/\app S.length ah us J/\(∀p∈S.zip us,f.tmps.getD p.1 undef=p.2)/\f.tmps.size=N/\
   (∀t,t∉dB c->f.tmps.getD t undef=a.tmps.getD t undef)/\(jc free c=true->f.defers=a.defers)/\(free.1=false->gK free.2 w a.defers J f.defers)
  let s:Act->List x3:=λf=>S.map λt=>f.tmps.getD t undef;have W:∀(f:Act)(us:List x3),us.length=S.length->(∀p∈S.zip us,f.tmps.getD p.1 undef=p.2)->s f=us:=by
   intro f us y z;apply List.ext_getElem
   .simp[s,y]
   .intro i h1 j;have hi:i<S.length:=by simpa[s]using h1
    have am:(S[i],us[i])∈S.zip us:=by
     have:=Q3 (l:=S.zip us) (n:=i) (by simp[List.length_zip,y,hi]);simpa using this
    simpa[s]using z _ am
  refine wpIn_loop Inv (λf J=>app S.length ai (s f) J) ⟨vs,ak,q,al,F.1,λ_ _=>rfl,λ_=>rfl,λA=>gK.refl (ae A)⟩ ?_;rintro f J ⟨us,y,an,z,ao,hk,A,B⟩;have C:=rA S.length _ us aj;rw[rz _ _ _ y]at C;have C:=C J an;have ap:S5 N (ja S us (lG (dB c) e)) f:=by
   refine ur (a:=f) (e:=lG (dB c) e) ⟨ao,λt x E=>?_⟩ z;obtain⟨h1,j⟩:=rD E;rw[hk t j];exact F.2 t x h1
  refine ac free r _ _ f J _ _ V ?_ (λh=>(B h).2.1) C ap ?_ ?_
  .intro l aq;obtain⟨X,au,q⟩:=ad l aq;exact⟨X,au,(B X).1.aU _ _ q rfl⟩
  .intro ex H U I;have Y:∀t,t∉dB c->H.tmps.getD t undef=a.tmps.getD t undef:=by
    obtain⟨_,_,_,_,L,_,_⟩:=I;exact λt E=>(L t E).trans (hk t E)
   cases ex with
   |normal=>
    obtain⟨q,M,h1,j,L,O,R⟩:=I;simp only at h1;cases T:kf M S with
    |none=>rw[T]at h1;exact h1.elim
    |some Z=>
     rw[T]at h1;obtain⟨aa,ab⟩:=rE j T;refine⟨⟨Z,aa,h1.1,ab,j.1,Y,λh=>(O h).trans (A h),λh=>(B h).trans (R h)⟩,?_⟩;rw[W f us y z,W H Z aa ab];exact h1.2
   |_=>
    obtain⟨q,M,h1,j,L,O,R⟩:=I;exact af _ H U ⟨q,M,h1,j,Y,λh=>(O h).trans (A h),λh=>(B h).trans (R h)⟩
  .intro av a w aw;exact ag av a w aw
theorem FV{o:Obj}(h:fx o=false):book o=true\/rl o=true:=by cases o<;>first|exact .inl rfl|exact .inr rfl|cases h
theorem FW{l:Nat}{f s h:x4}{w y:Obj}(z:f.heap[l]?=σ w)(a:cB n f s)(e:cB n (s.putObj l y) h)(A:l<h.heap.size)(hi:e4 f h):cJ f (h.putObj l w):=
 ⟨e.os.trans a.os,jv.trans e.tape a.tape,e.output.trans a.output,by have h1:=a.size;have B:=e.size;simp at B ⊢;omega,λr x j I=>by
  by_cases q:r=l
  .subst q;rw[z]at j;cases j;exact x4.putObj_heap_same A
  .rw[R7 q];rcases FV I with p|p
   .exact e.aU r x (by rw[R7 q];exact a.aU r x j p) p
   .exact hi r x j p⟩
theorem FX{f:S4}{S:Array Tmp}{W body:Code}(bd:Sound P N W)(ah:Sound P N body):Sound P N (.rangeFunc f S W body):=by
 intro free r rd e a w K Q aL R av h ab be b1;simp only[wf,U1]at aL;obtain⟨bf,bg,bh⟩:=aL;simp only[eE]at h;obtain⟨fr,b⟩:=free;cases fr with
 |true=>exact h.elim
 |false=>
  simp only[cond_false]at h;cases ax:eJ e f with
  |none=>rw[ax]at h;exact h.elim
  |some b2=>
   rw[ax]at h;obtain⟨aM,o,G,g,cap,b3,b4,b5,ai,aN,ay,bi,⟨aO,bj⟩,bk,haP,aj,az,hbl,bm,bn,bo,bp,bq⟩:=h;have br:∀m k ex w',kL ex=true->ex≠ .normal->ay m k ex w'->K ex e w':=by
    intro m k ex w' ac aA ak;cases ex with
    |normal=>exact absurd rfl aA
    |ret=>
     have:=bp m k w' ak;cases R:jb body with
     |true=>rw[R]at this;exact this
     |false=>rw[R]at this;exact this.elim
    |exit i=>exact xW (bq m k i w' ak)
    |_=>cases ac
   have bt:a.eval f= .func (.func g) #[] cap:=by rw[ab.eJ ax];exact bi
   refine wpIn_rangeFunc ?_;intro fn _;obtain⟨D,mark,l,z,s,bu,C,aQ,al,L,aR,am⟩:∃(D:Nat)(mark:List Deferred)(l:Nat)(z:x4)(s:LoopState->Option Code->Loop),
     (Instr.enterLoop fn a.tmps S W body (ez r).round).run P w= .ok (l,mark) z/\
     s=(λst bw=>{state:=st,pending:=bw,fn,tmps:=a.tmps,params:=S,assign:=W,body,defers:=D})/\
     z.heap[l]?=σ (.loop (s .ready ν))/\(mark=[]\/(mark=[kg D]/\z.heap[D]?=σ (.deferred (σ []))/\w.heap.size<=D/\D≠l))/\Ext w z/\cJ w z/\w.heap.size<=l:=by
    cases r with
    |none=>
     refine⟨w.heap.size,[kg w.heap.size],w.heap.size+1,_,_,run_enterLoop_outer _ _ _ _ _,rfl,?_,.inr ⟨rfl,?_,o5 _,Ω⟩,?_,?_,Ω⟩
     .have:=x4.alloc_heap_new (w.alloc (.deferred (σ []))) (.loop {state:=.ready,pending:=ν,fn,tmps:=a.tmps,params:=S,assign:=W,body,defers:=w.heap.size});rwa [x4.size_alloc]at this
     .exact (Below.heap_alloc _ _ _ Ξ).trans (x4.alloc_heap_new w _)
     .exact (oE w _).trans (oE _ _)
     .exact (oF w _).trans (oF _ _)
    |some bx=>
     obtain⟨_,bz,M⟩:=R bx rfl;exact⟨bz.defers,[],w.heap.size,_,_,run_enterLoop_inner M _ _ _ _ _,rfl,x4.alloc_heap_new w _,.inl rfl,oE _ _,oF _ _,o5 _⟩
   let O:x4->Prop:=λj=>mark=[]\/(mark=[kg D]/\j.heap[D]?=σ (.deferred (σ []))/\w.heap.size<=D/\D≠l);have aB:∀{m:Nat}{A B:x4},cB m A B->O A->O B:=λE h=>h.imp id λ⟨h1,q,y⟩=>⟨h1,E.aU _ _ q rfl,y⟩;have an:∀{A:x4}(o:Obj),O A->O (A.putObj l o):=λo h=>h.imp id λ⟨h1,q,y,H⟩=>⟨h1,(R7 H).trans q,y,H⟩;have bA:cB b w z:=aR.b;have aS:=(j6.1 aQ).1;have aT:∀{A B:x4},fy z.heap.size A B->O A->O B:=λE h=>h.imp id λ⟨h1,q,y⟩=>⟨h1,E.old _ _ (by
    rcases al with hm|⟨_,av,_⟩
    .rw[hm]at h1;cases h1
    .exact (j6.1 av).1) q rfl,y⟩
   have ad:∀{A:x4}(o:Obj),fy w.heap.size A (A.putObj l o):=λ{A}o=>⟨rfl,.kb,rfl,Ξ,λr x R ak _=>by rw[R7 Ω];exact ak⟩;let aw:(Nat->Prop)->aM->x4->Prop:=λm k j=>aN m k j/\j.heap[l]?=σ (.loop (s .ready ν))/\cB b w j/\O j;let aV:(Nat->Prop)->aM->x4->Prop:=λm k j=>∃ex c,kL ex=true/\exitCode ex=σ c/\ay m k ex j/\j.heap[l]?=σ (.loop (s .done (σ c)))/\cB b w j/\O j;have own:∀{m:Nat->Prop}{A B:x4},ae (λr=>o=true/\z.heap.size<=r/\¬m r) A B->ae (λr=>o=true/\w.heap.size<=r/\¬m r) A B:=λh=>h.mono λr _ h=>⟨h.1,X0 L.size h.2.1,h.2.2⟩;have aC:=bj l aw aV z (λm k A B he E ⟨h1,q,y,H⟩=>⟨aj m k A B (own he) (E.mono L.size) h1,E.old _ _ aS q rfl,y.xJ E L.size,aT E H⟩)
    (λm k A B he E ⟨ex,c,M,h1,q,y,H,af⟩=>⟨ex,c,M,h1,az m k ex A B (own he) (E.mono L.size) q,E.old _ _ aS y rfl,H.xJ E L.size,aT E af⟩) ?round (haP _ _ _ L hbl) ⟨aj _ _ _ _ (L.aa _) aR.o bm,aQ,bA,al⟩
   case round=>
    intro m k ao vs j aW bB hai aX ⟨hi,ap,bC,bD⟩;have aD:=bk k vs ao j aX;have aY:=run_yield (P:=P) (args:=vs.toArray) ap (by rw[C];simp[aD]);rw[C]at aY;refine⟨fn,_,W,body,aY,roundIn_of_wpIn trivial ?_⟩;have bE:(S.zip vs.toArray).foldl (λtmps x=>match x with|(t,a)=>tmps.setIfInBounds t a) a.tmps=(S.toList.zip vs).foldl (λiC (p:Nat×x3)=>iC.setIfInBounds p.1 p.2) a.tmps:=by
     rw[<-Array.foldl_toList,Array.toList_zip]
    have aZ:=x0 (N:=N) S.toList vs a.tmps e (by simp[aD]) bf (show S5 N e {tmps:=a.tmps,defers:=[]}from⟨ab.1,ab.2⟩);rw[<-bE]at aZ;have bF:j.heap[l]?=σ (.loop (s .ready ν)):=ap;refine bd (false,b) (σ l) _ _ _ j _ _ bg (λl' aE=>⟨rfl,by cases aE;exact⟨_,ap⟩⟩) (λ_=>⟨[],rfl,List.nodup_nil,λD al=>by cases al⟩) (by have ah:=rA _ _ vs bn;rw[rz _ _ _ aD]at ah;exact ah m k ao j (λr R=>⟨X0 L.size (aW r R).1,(aW r R).2⟩) (X0 L.size bB) hai aX hi) aZ ?_ (λ_ _ _ h=>h);intro ex a1 F aF;obtain⟨M,b6,h1,q,y,H,af⟩:=aF;obtain⟨T,bG,_⟩:=af rfl;cases ex with
    |normal=>
     have X:F.heap[l]?=σ (.loop (s .ready ν)):=T.aU _ _ ap rfl;have bH:=(j6.1 X).1;refine⟨_,run_beginRound X (by rw[C]),?_⟩;have bI:Ext F (F.putObj l (.loop {s .ready ν with state:=.busy})):=pS X rfl _;have a2:(F.putObj l (.loop {s .ready ν with state:=.busy})).heap[l]?=σ (.loop {s .ready ν with state:=.busy}):=x4.putObj_heap_same bH;have bJ:lH (F.putObj l (.loop {s .ready ν with state:=.busy})) a1.defers:=by
      obtain⟨aq,Y,Z,ag⟩:=bG;refine⟨aq,Y,Z,λD' U=>?_⟩;have:=ag D' U;have aA:D'≠l:=λhe=>by rw[he,X]at this;cases this
      rw[R7 aA];exact this
     have a6:cB b w (F.putObj l (.loop {s .ready ν with state:=.busy})):=rC (bC.trans T) am _;have a7:=an (.loop {s .ready ν with state:=.busy}) (aB T bD);have bK:=h1 _ bI ⟨xX rfl,ad _⟩ (FP (e4.refl _) X rfl _);refine ah (false,b) (σ l) _ _ a1 _ _ _ bh (λl' aE=>⟨rfl,by cases aE;exact⟨_,a2⟩⟩) (λ_=>bJ) bK q ?_ (λ_ _ _ h=>h);intro bL b7 I aF;obtain⟨aG,b8,g1,b9,ca,cb,bM⟩:=aF;obtain⟨J,_,_⟩:=bM rfl;have aH:I.heap[l]?=σ (.loop {s .ready ν with state:=.busy}):=J.aU _ _ a2 rfl;have aI:=(j6.1 aH).1;have a8:=λbN=>run_endRound (P:=P) bN aH;have au:∀(o:Obj),Ext I (I.putObj l o):=λo=>pS aH rfl o;have ba:∀(ex:Exit)(c:Code),kL ex=true->exitCode ex=σ c->(bif o then False else ay m k ex I)->
       ∃v w',(Instr.endRound l (σ c)).run P I= .ok v w'/\∃aJ,Ending.returned v= .returned aJ/\((aJ= .bool true/\(∃bV,(∀r,bV r->m r\/j.heap.size<=r/\r<w'.heap.size)/\(∀r,m r->bV r)/\ai bV w'/\aw bV ao w')/\(G=true\/o=true->cJ j w')/\j.heap.size<=w'.heap.size/\(o=true->ae (λr=>r<z.heap.size\/m r) j w'))\/(o=false/\aJ= .bool false/\aV m k w')):=by
      intro ex c ac bO bb;cases o with
      |true=>exact bb.elim
      |false=>
       refine⟨_,_,a8 (σ c),_,rfl,.inr ⟨rfl,rfl,ex,c,ac,bO,az m k ex _ _ ((au _).aa _) (ad _) bb,?_,rC (a6.trans J) am _,an _ (aB J a7)⟩⟩;rw[x4.putObj_heap_same aI,C];rfl
     cases bL with
     |normal=>
      have bP:j.heap.size<=I.heap.size:=by
       have h1:=T.size;have q:=J.size;simp at q;omega
      obtain⟨⟨bV,d1,d2,Y,Z⟩,bQ,bR⟩:(∃bV,(∀r,bV r->m r\/j.heap.size<=r/\r<I.heap.size)/\(∀r,m r->bV r)/\ai bV I/\aN bV ao I)/\(G=true\/o=true->e4 j I)/\(o=true->ae (λr=>r<z.heap.size\/m r) j I):=by
       cases o with
       |true=>exact⟨g1.1,λ_=>g1.2.1,λ_=>g1.2.2.mono λr _ h=>h.imp (λh=>T5 h L.size) id⟩
       |false=>exact⟨⟨m,λr h=>.inl h,λ_ h=>h,g1.1,g1.2.1⟩,λh=>g1.2.2 (h.elim id λh=>nomatch h),λh=>nomatch h⟩
      refine⟨_,_,a8 ν,_,rfl,.inl ⟨rfl,⟨bV,by simpa using d1,d2,haP _ _ _ (au _) Y,aj _ _ _ _ ((au _).aa _) (ad _) Z,?_,rC (a6.trans J) am _,an _ (aB J a7)⟩,λbS=>?_,?_,λbT=>(bR bT).trans ((au _).aa _)⟩⟩
      .rw[x4.putObj_heap_same aI,C];rfl
      .have:=FW bF T J aI (bQ bS);subst C;exact this
      .simpa using bP
     |ret=>exact ba .ret _ rfl rfl g1
     |exit id=>exact ba (.exit id) _ rfl rfl g1
     |goto t=>cases aG
     |panic bU=>cases aG
     |outgrown=>cases aG
    |_=>exact h1.elim
   have aC:=gI.calls P aC aO;refine⟨l,mark,z,{target:=.fn (.func g) cap,args:=#[.func (.yield l) #[] #[]]},z,g,#[.func (.yield l) #[] #[]]++cap,z,bu,?_,λ_ _=>trivial,?_,tV _ _,?_⟩
   .simp only[resolve,bt];simp[go_sem]
   .simp only[invoke];exact aO _ _
   .have bW:(#[.func (.yield l) #[] #[]]++cap:Array x3)=(x3.func (.yield l) #[] #[]::cap.toList).toArray:=by apply Array.toList_inj.1;simp
    rw[bW];refine CallsIn.mono (xK aC) ?_;rintro cc F ⟨v,rfl,bX⟩;have left:∀(V:Loop)(ex:Exit),kL ex=true->F.heap[l]?=σ (.loop V)->V.state≠ .busy->cB b w F->O F->K ex e (F.putObj l (.loop {V with state:=.exhausted}))->
      Q ex {a with defers:=mark++a.defers} (F.putObj l (.loop {V with state:=.exhausted})):=by
     intro V ex ac X cd T bc bY;have J:cB b w (F.putObj l (.loop {V with state:=.exhausted})):=rC T am _;refine be ex _ _ ⟨ac,e,bY,⟨ab.1,ab.2⟩,λ_ _=>rfl,(λh=>by simp[jc,ke]at h),λ_=>⟨J,?_,?_⟩⟩
     case refine_2=>
      rcases bc with hm|⟨hm,_,bZ,_⟩
      .exact⟨[],by simp[hm],λ_ h=>by cases h⟩
      .exact⟨[D],by simp[hm],λD' U=>by simp at U;omega⟩
     obtain⟨aq,Y,Z,ag⟩:=av rfl;have aK:=an (.loop {V with state:=.exhausted}) bc;rcases aK with hm|⟨hm,aK,bZ,_⟩
     .exact⟨aq,by simp[hm,Y],Z,λD' U=>J.aU _ _ (ag D' U) rfl⟩
     .refine⟨D::aq,by simp[hm,Y],List.nodup_cons.2 ⟨λb0=>?_,Z⟩,λD' U=>?_⟩
      .have:=(j6.1 (ag D b0)).1;omega
      .rcases V1.1 U with h|h
       .rw[h];exact aK
       .exact J.aU _ _ (ag D' h) rfl
    rcases bX with⟨m,k,hk,h1,q,y,H⟩|⟨m,k,ex,c,M,h1,q,y,H,af⟩
    .refine⟨ν,_,by have:=run_endLoop (P:=P) q (by rw[C];simp);rw[C]at this;exact this,?_⟩;have:=left (s .ready ν) .normal rfl q (by rw[C];simp) y H (bo m _ _ hk (aj m _ _ _ ((pS q rfl _).aa _) (ad _) h1));rw[C]at this;exact this
    .refine⟨σ c,_,by have:=run_endLoop (P:=P) y (by rw[C];simp);rw[C]at this;exact this,?_⟩;have:=left (s .done (σ c)) ex M y (by rw[C];simp) H af (br m k ex _ M (by intro he;rw[he]at h1;cases h1) (az m _ _ _ _ ((pS y rfl _).aa _) (ad _) q));rw[C]at this;cases ex with
     |normal=>cases h1
     |ret=>cases h1;exact wpIn_ret this
     |exit id=>cases h1;exact wpIn_exit this
     |goto t=>cases M
     |panic bU=>cases M
     |outgrown=>cases M
theorem rF{b:Frame}{a:Act}{k:List Item}{cs:List Frame}{c:Code}:
  step P (lone (b.atR a (.code (.scope c)::k)) cs w)= .next (lone (b.atR a (.code c:: .inScope c::k)) cs w):=
 step_lone_go (by simp[stepG,stepG.exec,Frame.atR])
theorem FY{b:Frame}{a:Act}{k:List Item}{cs:List Frame}{c:Code}:
  step P (lone (b.atR a (.inScope c::k)) cs w)= .next (lone (b.atR a k) cs w):=
 step_lone_go (by simp[stepG,stepG.exec,Frame.atR])
theorem FZ{F:Fence}{c:Code}{Q:Exit->Act->x4->Prop}{a:Act}(h:c.wpIn F n P (λex a' w'=>kL ex=true/\Q ex a' w') a w):
  (Code.scope c).wpIn F n P Q a w:=by
 intro b k cs A p q;have f:(lone (b.atR a (.code (.scope c)::k)) cs w).fenced P F:=fenced_calm p q rfl;obtain⟨e,r,s,⟨x,y⟩,j⟩:=h b (.inScope c::k) cs A p q;have z:∀id,exitTo id (.inScope c::k)=exitTo id k:=λid=>by simp[exitTo]
 cases e with
 |normal=>exact⟨.normal,r,s,y,.head f rF (StepsIn.trans j (.one (fenced_calm p q rfl) FY))⟩
 |exit id=>
  exact⟨.exit id,r,s,y,λB hk=>.head f rF (j.1 B (by rw[z];exact hk)),
   λC hk=>let⟨E,h1,G⟩:=j.2 C (by rw[z];exact hk);⟨E,h1,.head f rF G⟩⟩
 |ret=>exact⟨_,r,s,y,.of_steps (.one f rF) j⟩
 |goto l=>cases x
 |panic H=>cases x
 |outgrown=>cases x
theorem sound(hm:P.follows .mixedOrders=true)(c:Code):Sound P N c:=by
 induction c with
 |skip=>exact λfree r rd e a w K Q _ _ p h j q _=>wpIn_skip (q _ _ _ ⟨rfl,e,h,j,λ_ _=>rfl,λ_=>rfl,λE=>gK.refl (p E)⟩)
 |label l=>exact λfree r rd e a w K Q _ _ p h j q _=>wpIn_label (q _ _ _ ⟨rfl,e,h,j,λ_ _=>rfl,λ_=>rfl,λE=>gK.refl (p E)⟩)
 |ret=>exact λfree r rd e a w K Q _ _ p h j q _=>wpIn_ret (q _ _ _ ⟨rfl,e,h,j,λ_ _=>rfl,λ_=>rfl,λE=>gK.refl (p E)⟩)
 |exit i=>exact λfree r rd e a w K Q _ _ p h j q _=>wpIn_exit (q _ _ _ ⟨rfl,e,h,j,λ_ _=>rfl,λ_=>rfl,λE=>gK.refl (p E)⟩)
 |goto l=>exact λfree r rd e a w K Q _ _ p h j q _=>h.elim
 |refuse s=>exact λfree r rd e a w K Q _ _ p h j q _=>h.elim
 |region id ops aa=>
  intro free r rd e a w K Q A F p h j q G;simp only[wf,U1]at A;have W:∀o∈ops.toList,∀t,o.dst=σ t->t∈nb ops.toList:=λo ab t J=>FS J _ ab;simp only[eE]at h;cases aa with
  |false=>exact Fy W A.1 h j λa' w' B=>q _ _ _ (xY p B)
  |true=>
   simp only[Y9,Bool.false_or]at A;exact FH hm A.2 G W A.1 (λw' h1 H I=>h w' h1 H I) j λa' w' B=>q _ _ _ (xY p B)
 |seq x y R S=>exact FT R S
 |cond c x y R S=>
  intro free r rd e a w K Q A F p h j q G;simp only[wf,U1]at A;have X:∀ex a' w',mn N free (jc free x) K (dB x) a w ex a' w'->Q ex a' w':=λex a' w' B=>q ex a' w' (by
   obtain⟨O,L,h1,H,I,M,T⟩:=B;exact⟨O,L,h1,H,λt J=>I t λh=>J (by simp[dB,h]),(λh=>M (x1 _ _ _ h)),T⟩)
  have Y:∀ex a' w',mn N free (jc free y) K (dB y) a w ex a' w'->Q ex a' w':=λex a' w' B=>q ex a' w' (by
   obtain⟨O,L,h1,H,I,M,T⟩:=B;exact⟨O,L,h1,H,λt J=>I t λh=>J (by simp[dB,h]),(λh=>M (x2 _ _ _ h)),T⟩)
  simp only[eE]at h;cases C:eJ e c with
  |none=>rw[C]at h;exact h.elim
  |some v=>
   rw[C]at h;cases v with
   |b t=>
    cases t with
    |true=>exact wpIn_cond (t:=true) (j.eJ C) (R free r rd e a w K Q A.1 F p h j X G)
    |false=>exact wpIn_cond (t:=false) (j.eJ C) (S free r rd e a w K Q A.2 F p h j Y G)
   |v z=>
    obtain⟨t,ac,J,E⟩:=h;refine wpIn_cond (t:=t) ((j.eJ C).trans ac) ?_;cases t with
    |true=>exact R free r rd e a w K Q A.1 F p (J rfl) j X G
    |false=>exact S free r rd e a w K Q A.2 F p (E rfl) j Y G
   |u=>exact h.elim
 |block id c C=>
  intro free r rd e a w K Q A F p h j q G;simp only[wf]at A;simp only[eE]at h;refine wpIn_block (C free r rd e a w _ _ A F p h j ?_ λZ a w U=>G Z a w U);intro ex a' w' B;obtain⟨O,L,h1,H,I,M⟩:=B;cases ex with
  |exit i=>
   simp only[Exit.inBlock];simp only at h1;by_cases hi:i=id
   .rw[if_pos hi];rw[hi,Nat.beq_refl]at h1;exact q _ _ _ ⟨rfl,L,h1,H,I,M⟩
   .rw[if_neg hi];have:S0 i id=false:=by
     cases V:S0 i id with
     |true=>exact absurd (Nat.eq_of_beq_eq_true V) hi
     |false=>rfl
    rw[this]at h1;exact q _ _ _ ⟨rfl,L,h1,H,I,M⟩
  |_=>exact q _ _ _ ⟨O,L,h1,H,I,M⟩
 |loop c C=>exact FU C
 |scope c C=>
  intro free r rd e a w K Q A F p h j q G;exact FZ (C free r rd e a w K (λex a' w'=>kL ex=true/\Q ex a' w') A F p h j (λex a' w' B=>⟨B.1,q ex a' w' B⟩) λZ a w U=>by cases U.1)
 |rangeFunc f ae af body ad V=>exact FX ad V
def kM:Nat->List x3->Env
 |_,[]=>[]
 |i,v::r=>(i,.v v)::kM (i+1) r
def nf(P:W9)(e:Env)(w:x4):List ResultVar->(List x3->Prop)->Prop
 |[],K=>K []
 | .tmp t::r,K=>match look e t with
  |some x=>nf P e w r λvs=>K (x.val::vs)
  |none=>False
 | .cell a t::r,K=>match look e a with
  |some x=>V P (do loadVar t (<-asAddr x.val)) w λv=>nf P e w r λvs=>K (v::vs)
  |none=>False
def rG:List x3->x3
 |[v]=>v
 |vs=>.tuple vs.toArray
def lI(P:W9)(a:List ResultVar)(marks:Bool)(n:Nat)(Q:x3->x4->Prop):Exit->Env->x4->Prop
 | .normal,e,w| .ret,e,w=>nf P e w a λvs=>bif marks then ul n w λw'=>Q (rG vs) w' else Q (rG vs) w
 |_,_,_=>False
def mo:List ResultVar->List Nat
 |[]=>[]
 | .tmp t::r=>t::mo r
 | .cell a _::r=>a::mo r
theorem x9:∀(vs:List x3)(i t:Nat)(x:eD),look (kM i vs) t=σ x->∃j v,t=i+j/\vs[j]?=σ v/\x= .v v
 |[],_,_,_,h=>by cases h
 |v::r,i,t,x,h=>by
  simp only[kM,look]at h;cases a:S0 i t with
  |true=>
   rw[a]at h;simp only[cond_true,X4]at h;exact⟨0,v,by rw[Nat.eq_of_beq_eq_true a];rfl,rfl,h.symm⟩
  |false=>
   rw[a]at h;obtain⟨j,u,h1,e,f⟩:=x9 r (i+1) t x h;exact⟨j+1,u,Ω,by simpa using e,f⟩
theorem ut(vs:List x3)(h:vs.length<=n):S5 n (kM 0 vs) {tmps:=vs.toArray++Array.replicate (n-vs.toArray.size) undef,defers:=[]}:=by
 refine⟨Θ,λt x e=>?_⟩;obtain⟨j,v,h1,a,rfl⟩:=x9 vs 0 t x e;have h1:t=j:=Ω
 subst h1;have f:t<vs.length:=(x5.1 a).1;rw[Array.getD_eq_getD_getElem?,Array.getElem?_append_left (by simpa using f)];simp[a,eD.val]
def rH(iC:Array x3):ResultVar->Sem x3
 | .tmp t=>pure (iC.getD t undef)
 | .cell b t=>do loadVar t (<-asAddr (iC.getD b undef))
theorem F0(fn:Func)(iC:Array x3):results fn iC=(do let vs <-fn.results.mapM (rH iC);pure (if h:vs.size=1 then vs[0]else .tuple vs)):=by
 unfold results;congr 2
theorem uu{e:Env}{a:Act}{w:x4}(j:S5 N e a):∀(p:List ResultVar)(K:List x3->Prop),nf P e w p K->
  ∃vs,K vs/\vs.length=p.length/\∀w',Ext w w'->(p.mapM (rH a.tmps)).run P w'= .ok vs w'
 |[],K,h=>⟨[],h,rfl,λw' _=>by simp[V3]⟩
 | .tmp t::r,K,h=>by
  simp only[nf]at h;cases f:look e t with
  |none=>rw[f]at h;exact h.elim
  |some x=>
   rw[f]at h;obtain⟨vs,h1,q,s⟩:=uu j r _ h;refine⟨x.val::vs,h1,by simp[q],λw' hw=>?_⟩;rw[List.mapM_cons];simp only[rH,W6,V3,W8,s w' hw,j.2 t x f]
 | .cell b t::r,K,h=>by
  simp only[nf]at h;cases f:look e b with
  |none=>rw[f]at h;exact h.elim
  |some x=>
   rw[f]at h;obtain⟨v,y,h⟩:=h;obtain⟨vs,h1,q,s⟩:=uu j r _ h;refine⟨v::vs,h1,by simp[q],λw' hw=>?_⟩;rw[List.mapM_cons];have:=y w' hw;rw[<-j.2 b x f]at this;rw[rH,W6,this];simp only[W8,W6,s w' hw,V3]
theorem uv{fn:Func}{e:Env}{a:Act}(j:S5 N e a){K:List x3->Prop}(h:nf P e w fn.results.toList K):
  ∃vs,K vs/\∀w',Ext w w'->(results fn a.tmps).run P w'= .ok (rG vs) w':=by
 obtain⟨vs,h1,p,f⟩:=uu j _ _ h;refine⟨vs,h1,λw' hw=>?_⟩;have f:=f w' hw;rw[F0,W6,Array.mapM_eq_mapM_toList,map_eq_pure_bind,W6,f];simp only[W8,V3];cases vs with
 |nil=>rfl
 |cons v r=>
  cases r with
  |nil=>rfl
  |cons u r=>simp[rG]
theorem ya{fn:Func}{tmps:Array x3}{R:Ending->x4->Prop}:∀(a:List Nat)(w:x4),a.Nodup->(∀D∈a,w.heap[D]?=σ (.deferred (σ [])))->
  (∀w',Ext w w'->Ext w' w->w'.os=w.os->jv w w'->w'.output=w.output->w.heap.size=w'.heap.size->
   (∀r,r∉a->w'.heap[r]?=w.heap[r]?)->∃v,(results fn tmps).run P w'= .ok v w'/\R (.returned v) w')->
  LeavesInM Fence.wide 0 P fn tmps R (a.map kg) .returning w
 |[],w,_,_,h=>by
  obtain⟨v,h1,e⟩:=h w (Ext.refl _) (Ext.refl _) rfl .kb rfl rfl λ_ _=>rfl;exact⟨v,h1,e⟩
 |D::a,w,f,j,h=>by
  rw[List.nodup_cons]at f;have p:=j D (.head _);refine⟨Ξ,.inl ⟨D,_,rfl,run_takeDeferred p,?_⟩⟩;refine ya a _ f.2 (λD' q=>?_) λw' h1 e x y z A B=>?_
  .rw[R7 (λhe=>f.1 (by rw[<-he];exact q))];exact j D' (.tail _ q)
  .refine h w' ((pS p rfl _).trans h1) (e.trans (xX rfl)) x y z (by simpa using A) λr s=>?_;rw[B r λhm=>s (.tail _ hm),R7 λhe=>s (by rw[he];exact .head _)]
theorem ai.enter(hm:P.follows .mixedOrders=true){f:R6}{fn:Func}{c:Code}(y:P.funcs[f]?=σ fn)(z:fn.body=σ c)(A:(fn.name == "runtime.NumGoroutine")=false)(N:wf fn.ntmps c=true){args:List x3}(O:Nat.ble args.length fn.ntmps=true){w:x4}{Q:x3->x4->Prop}(h:eE P fn.ntmps (false,w.heap.size) c (mo fn.results.toList) (kM 0 args) w (lI P fn.results.toList true w.heap.size Q)):ai P f args w Q:=by
 refine .code (Enters.of P y z A) (callsIn_wide (n:=0).1 (callsIn_of_wp_marks y z trivial ?_));have R:=ut (n:=fn.ntmps) args (Nat.le_of_ble_eq_true O);refine wpIn_mono (Q:=λex a' w'=>kL ex=true/\bodyPostM Fence.wide 0 P fn (λe w'=>∃v,e= .returned v/\cJ w w'/\Q v w') ex a' w') ?_ λ_ _ _ h=>h.2;refine sound hm c (false,w.heap.size) ν _ _ _ w _ _ N (λl S=>by cases S) (λ_=>⟨[],rfl,List.nodup_nil,λD q=>by cases q⟩) h R ?_ (λ_ _ _ h=>by cases h.1)
 .intro ex a' w' T;obtain⟨V,W,j,X,_,_,I⟩:=T;obtain⟨a,⟨s,B,Y,q⟩,Z,aa,ab⟩:=I rfl;have C:∀D∈s,w.heap.size<=D:=by
   intro D ac;have h1:kg D∈Z.map kg:=by
    have:kg D∈s.map kg:=j0.2 ⟨D,ac,rfl⟩;rw[<-B,aa]at this;simpa using this
   obtain⟨E,x,ad⟩:=j0.1 h1;have:E=D:=by simpa[kg]using ad
   exact this▸ab E x
  have F:lI P fn.results.toList true w.heap.size Q .ret W w'->LeavesInM Fence.wide 0 P fn a'.tmps (λe G=>∃v,e= .returned v/\cJ w G/\Q v G) a'.defers .returning w':=by
   intro j;rw[B];obtain⟨vs,h1,x⟩:=uv (fn:=fn) X j;refine ya s w' Y q λU g1 ae H J K L M=>⟨_,x U g1,_,rfl,?_,h1 U g1 ⟨ae,H,J,K,Nat.le_of_eq L,λr o A p _=>by rw[M r λhm=>by have:=C r hm;omega];exact p⟩⟩;have a:=a.cu (o5 _);refine⟨H.trans a.os,J.trans a.tape,K.trans a.output,by rw[<-L];exact a.size,λr o p af=>?_⟩;have ag:=(j6.1 p).1;rw[M r λhm=>by have:=C r hm;omega];exact a.aU r o p af
  cases ex with
  |normal=>exact⟨rfl,F j⟩
  |ret=>exact⟨rfl,F j⟩
  |exit id=>exact j.elim
  |_=>cases V
theorem ai.F3(hm:P.follows .mixedOrders=true){f:R6}{fn:Func}{c:Code}(j:P.funcs[f]?=σ fn)(p:fn.body=σ c)(s:(fn.name == "runtime.NumGoroutine")=false)(x:wf fn.ntmps c=true){args:List x3}(y:Nat.ble args.length fn.ntmps=true)(ap:ke c=false){w:x4}{Q:x3->x4->Prop}(h:eE P fn.ntmps (false,w.heap.size) c (mo fn.results.toList) (kM 0 args) w (lI P fn.results.toList false 0 Q)):ai P f args w Q:=by
 refine .code (Enters.of P j p s) (callsIn_wide (n:=0).1 (callsIn_of_wp j p trivial ?_));have z:=ut (n:=fn.ntmps) args (Nat.le_of_ble_eq_true y);refine wpIn_mono (Q:=λex a' w'=>kL ex=true/\bodyPost P fn (λe w'=>∃v,e= .returned v/\cJ w w'/\Q v w') ex a' w') ?_ λ_ _ _ h=>h.2;refine sound hm c (false,w.heap.size) ν _ _ _ w _ _ x (λl A=>by cases A) (λ_=>⟨[],rfl,List.nodup_nil,λD B=>by cases B⟩) h z ?_ (λ_ _ _ h=>by cases h.1);intro ex a' w' C;obtain⟨E,F,a,G,_,H,I⟩:=C;have J:a'.defers=[]:=H (by simp[jc,ap]);have q:lI P fn.results.toList false 0 Q .ret F w'->a'.defers=[]/\∃v,(results fn a'.tmps).run P w'= .ok v w'/\∃r,Ending.returned v= .returned r/\cJ w w'/\Q r w':=by
  intro a;obtain⟨vs,h1,K⟩:=uv (fn:=fn) G a;exact⟨J,_,K w' (Ext.refl _),_,rfl,(I rfl).1.cu (o5 _),h1⟩
 cases ex with
 |normal=>exact⟨rfl,q a⟩
 |ret=>exact⟨rfl,q a⟩
 |exit id=>exact a.elim
 |_=>cases E
theorem gI.enter(hm:P.follows .mixedOrders=true){f:R6}{fn:Func}{c:Code}(j:P.funcs[f]?=σ fn)(p:fn.body=σ c)(s:(fn.name == "runtime.NumGoroutine")=false)(x:wf fn.ntmps c=true){args:List x3}(y:Nat.ble args.length fn.ntmps=true){w:x4}{Q:x3->x4->Prop}(h:eE P fn.ntmps (true,0) c (mo fn.results.toList) (kM 0 args) w (lI P fn.results.toList false 0 Q)):gI P f args w Q:=by
 refine .code (Enters.of P j p s) (callsIn_wide (n:=0).1 (callsIn_of_wp j p trivial ?_));have z:=ut (n:=fn.ntmps) args (Nat.le_of_ble_eq_true y);refine wpIn_mono (Q:=λex a' w'=>kL ex=true/\bodyPost P fn (λe w'=>∃v,e= .returned v/\Q v w') ex a' w') ?_ λ_ _ _ h=>h.2;refine sound hm c (true,0) ν _ _ _ w _ _ x (λl A=>by cases A) (λh=>by cases h) h z ?_ (λ_ _ _ h=>by cases h.1);intro ex a' w' B;obtain⟨C,E,a,F,_,G,I⟩:=B;have H:a'.defers=[]:=G rfl;have q:lI P fn.results.toList false 0 Q .ret E w'->a'.defers=[]/\∃v,(results fn a'.tmps).run P w'= .ok v w'/\∃r,Ending.returned v= .returned r/\Q r w':=by
  intro a;obtain⟨vs,h1,J⟩:=uv (fn:=fn) F a;exact⟨H,_,J w' (Ext.refl _),_,rfl,h1⟩
 cases ex with
 |normal=>exact⟨rfl,q a⟩
 |ret=>exact⟨rfl,q a⟩
 |exit id=>exact a.elim
 |_=>cases C
end
def pT(l:List S4)(d:Nat):Nat:=
 match l with
 |[]=>d
 | .tmp t::r=>pT r (Nat.lor d (Nat.shiftLeft 1 t))
 |_::r=>pT r d
def oG:List T2->Nat->Option T2
 |[],_=>ν
 |o::_,0=>σ o
 |_::l,n+1=>oG l n
def yb(a b:Nat):Nat:=Nat.xor a (Nat.land a b)
def pU(m t:Nat):Bool:=S0 (Nat.land (Nat.shiftRight m t) 1) 1
def kh(m t:Nat):Nat:=Nat.lor m (Nat.shiftLeft 1 t)
def F4(ops:List T2)(o:T2):Nat:=
 match o.guard with
 |none=>0
 |some (j,_)=>match oG ops j with
  |some ⟨σ d,_,_,_,_,_⟩=>Nat.shiftLeft 1 d
  |_=>0
def rI:List T2->Nat->Nat
 |[],d=>d
 |⟨σ t,_,_,_,_,_⟩::l,d=>rI l (kh d t)
 |_::l,d=>rI l d
def yc(ops:List T2):List T2->Nat->Nat->Nat
 |[],_,r=>r
 |o::l,d,r=>yc ops l (match o.dst with|some t=>kh d t|none=>d) (Nat.lor r (yb (pT (opsOf o.op) (F4 ops o)) d))
def rJ:List Nat->Nat->Nat
 |[],_=>0
 |x::_,0=>x
 |_::l,n+1=>rJ l n
def yd(e:Edge):Bool:=
 match e.ground with
 | .textOnly _=>false
 | .gcOnly _=>false
 |_=>true
def ye(bs:List Nat):List Edge->Nat->Nat
 |[],s=>s
 |e::r,s=>ye bs r (bif yd e then Nat.lor (kh s e.on) (rJ bs e.on)else s)
def uw:List T2->List Nat->List Nat
 |[],bs=>bs
 |o::l,bs=>uw l (bs++[ye bs o.after.toList 0])
def yf:List T2->Bool
 |[]=>false
 |⟨_,_,_,_,_,σ _⟩::_=>true
 |_::l=>yf l
def ux(bs:List Nat)(j k:Nat):Bool:=!(S0 k j)&&(!(pU (rJ bs j) k)&& !(pU (rJ bs k) j))
def yg(bs:List Nat)(j:Nat):Nat->List T2->Bool
 |_,[]=>false
 |i,o::l=>bif Nat.ble j i then false else(!(i7 o)&&ux bs j i)||yg bs j (Nat.succ i) l
def yh(ops:List T2)(bs:List Nat):Nat->List T2->Bool
 |_,[]=>false
 |j,o::l=>(!(i7 o)&&yg bs j 0 ops)||yh ops bs (Nat.succ j) l
def lJ:Code->Nat
 | .region _ ops e=>bif (e&&yh ops.toList (uw ops.toList []) 0 ops.toList)||yf ops.toList then 2 else 1
 | .seq a b=>bif S0 (lJ a) 0 then 0 else lJ b
 | .cond _ a b=>Nat.add (lJ a) (lJ b)
 | .block id c=>Nat.add (lJ c) (jx id c)
 | .loop _=>0
 | .scope c=>lJ c
 | .exit _=>0
 | .goto _=>0
 | .ret=>0
 | .refuse _=>0
 |_=>1
def ia:Code->Nat
 | .region _ ops _=>rI ops.toList 0
 | .seq a b=>Nat.lor (ia a) (ia b)
 | .cond _ a b=>Nat.lor (ia a) (ia b)
 | .block _ c=>ia c
 | .loop c=>ia c
 | .scope c=>ia c
 |_=>0
def lK:Code->Nat
 | .region _ ops _=>rI ops.toList 0
 | .seq a b=>Nat.lor (lK a) (lK b)
 | .cond _ a b=>bif S0 (lJ a) 0 then lK b else bif S0 (lJ b) 0 then lK a else Nat.land (lK a) (lK b)
 | .block id c=>bif S0 (jx id c) 0 then lK c else 0
 | .scope c=>lK c
 |_=>0
def gk:Code->Nat
 | .region _ ops _=>yc ops.toList ops.toList 0 0
 | .seq a b=>Nat.lor (gk a) (yb (gk b) (lK a))
 | .cond c a b=>pT [c] (Nat.lor (gk a) (gk b))
 | .block _ c=>gk c
 | .loop c=>gk c
 | .scope c=>gk c
 | .rangeFunc f _ a b=>pT [f] (Nat.lor (gk a) (gk b))
 |_=>0
def mp:Nat->Nat->Nat->List Nat
 |0,_,_=>[]
 |n+1,k,m=>bif S0 m 0 then[]else bif S0 (Nat.land m 1) 1 then k::mp n (Nat.succ k) (Nat.shiftRight m 1)else mp n (Nat.succ k) (Nat.shiftRight m 1)
def pV(e:Env):List Nat->List Nat
 |[]=>[]
 |t::r=>match look e t with
  |some _=>t::pV e r
  |none=>pV e r
structure mq(B S aT:Type) where
 kN:{x:x3}->x3
 tup:List x3->x3
 no:B
 kO:B
 and:B->B->B
 or:B->B->B
 ext:x4->x4->B
 stays:S->x3->x4->B
 split:x3->B->B->B
 uy:S->x4->(x3->B)->B
 yi:S->x4->(x3->x4->B)->B
 yj:aT->x4->(x4->B)->B
 runN:{fr:Bool}->{n:Nat}->S->x4->(x3->x4->B)->B
 yk:{f:R6}->List x3->x4->(x3->x4->B)->B
 yl:{f:R6}->List x3->x4->(x3->x4->B)->B
 ym:{fr:Bool}->x3->List x3->x4->(x3->x4->B)->B
 drew:x4->(x4->B)->B
 again:{n:Nat}->x4->(x4->B)->B
 over:{n:Nat}->x4->(x4->B)->B
 dl:(x4->B)->((x4->B)->B)->B
 aW:(x3->x4->B)->((x3->x4->B)->B)->B
 ib:(x3->x3->x4->B)->((x3->x3->x4->B)->B)->B
 yn:(x3->x3->x3->x4->B)->((x3->x3->x3->x4->B)->B)->B
 yo:(x3->x3->x3->x3->x4->B)->((x3->x3->x3->x3->x4->B)->B)->B
 yp:(x3->x3->x3->x3->x3->x4->B)->((x3->x3->x3->x3->x3->x4->B)->B)->B
 yq:x4->(x4->(x4->B)->B)->B
 yr:x3->x4->(x3->x4->(x3->x4->B)->B)->B
 ys:x3->x3->x4->(x3->x3->x4->(x3->x3->x4->B)->B)->B
 yt:x3->x3->x3->x4->(x3->x3->x3->x4->(x3->x3->x3->x4->B)->B)->B
 yu:x3->x3->x3->x3->x4->(x3->x3->x3->x3->x4->(x3->x3->x3->x3->x4->B)->B)->B
 yv:x3->x3->x3->x3->x3->x4->(x3->x3->x3->x3->x3->x4->(x3->x3->x3->x3->x3->x4->B)->B)->B
 yw:x3->x3->x3->x3->x3->x3->x4->(x3->x3->x3->x3->x3->x3->x4->(x3->x3->x3->x3->x3->x3->x4->B)->B)->B
 yx:x3->x4->(x3->x4->(Exit->x4->B)->B)->(x4->B)->(x4->B)->List (Nat×(x4->B))->B
 yy:x3->x4->(x3->x3->x4->(Exit->x4->B)->B)->(x4->B)->(x4->B)->List (Nat×(x4->B))->B
 loadVar:{t:r9}->x3->S
 alloc:{t:r9}->S
 box:{t:r9}->x3->S
 build:{t:r9}->List (Nat×x3)->S
 buildSlice:{t:r9}->{n:Nat}->List (Nat×x3)->S
 load:{t:r9}->x3->S
 nil:x3->S
 bin:{op:BinOp}->{t:r9}->Bool->Bool->x3->x3->S
 un:{op:UnOp}->x3->S
 conv:{s d:r9}->x3->S
 yz:{t:r9}->x3->S
 yA:{f:Fn}->List x3->List x3->S
 yB:{t:r9}->Option x3->S
 yC:{t:r9}->x3->x3->S
 slice:{t:r9}->x3->Option x3->Option x3->Option x3->S
 yD:{t:r9}->x3->{f:Nat}->S
 field:{t:r9}->x3->{f:Nat}->S
 yE:{t:r9}->x3->x3->S
 index:{t:r9}->x3->x3->S
 lookup:{t:r9}->x3->x3->{ok:Bool}->S
 yF:{t:r9}->x3->x3->S
 range:{t:r9}->x3->S
 entry:x3->S
 assert:{t a:r9}->x3->{ok:Bool}->S
 extract:x3->{i:Nat}->S
 next:x3->{b:Bool}->S
 append:{ats:Array r9}->{t:r9}->List x3->S
 cap:{ats:Array r9}->{t:r9}->List x3->S
 clear:{ats:Array r9}->{t:r9}->List x3->S
 copy:{ats:Array r9}->{t:r9}->List x3->S
 delete:{ats:Array r9}->{t:r9}->List x3->S
 len:{ats:Array r9}->{t:r9}->List x3->S
 max:{ats:Array r9}->{t:r9}->List x3->S
 min:{ats:Array r9}->{t:r9}->List x3->S
 store:{t:r9}->x3->x3->aT
 uz:{t:r9}->x3->x3->x3->aT
 yG:{t:r9}->x3->x3->x3->aT
section
variable{B S aT:Type}(A:mq B S aT)
def eD.g:eD->x3
 | .v x=>x
 | .b c=>.bool c
 | .u=>A.kN (x:=undef)
def ng(e:Env):S4->eD
 | .tmp t=>match look e t with
  |some x=>x
  |none=>.u
 | .const (.bool c)=>.b c
 | .const x=>.v (A.kN (x:=x))
 | .global g=>.v (A.kN (x:=Γ g))
 | .func f=>.v (A.kN (x:=.func (.func f) #[] #[]))
def c4(e:Env)(x:S4):x3:=(ng A e x).g A
def nh(e:Env):List S4->List x3
 |[]=>[]
 |x::r=>c4 A e x::nh e r
def rK(e:Env):Option S4->Option x3
 |none=>ν
 |some x=>σ (c4 A e x)
def uA(e:Env):List (Nat×S4)->List (Nat×x3)
 |[]=>[]
 |(i,x)::r=>(i,c4 A e x)::uA e r
def F5(b:Z4)(ats:Array r9)(t:r9)(l:List x3)(K:S->B):B:=
 match b with
 | .append=>K (A.append (ats:=ats) (t:=t) l)
 | .cap=>K (A.cap (ats:=ats) (t:=t) l)
 | .clear=>K (A.clear (ats:=ats) (t:=t) l)
 | .copy=>K (A.copy (ats:=ats) (t:=t) l)
 | .delete=>K (A.delete (ats:=ats) (t:=t) l)
 | .len=>K (A.len (ats:=ats) (t:=t) l)
 | .max=>K (A.max (ats:=ats) (t:=t) l)
 | .min=>K (A.min (ats:=ats) (t:=t) l)
 |_=>A.no
def yH(e:Env)(t:r9)(K:S->B)(j:aT->B):Op->B
 | .alloc t=>K (A.alloc (t:=t))
 | .box t x=>K (A.box (t:=t) (c4 A e x))
 | .build t p=>K (A.build (t:=t) (uA A e p.toList))
 | .buildSlice t n p=>K (A.buildSlice (t:=t) (n:=n) (uA A e p.toList))
 | .load t x=>K (A.load (t:=t) (c4 A e x))
 | .nilCheck x=>K (A.nil (c4 A e x))
 | .binOp op t x y _=>K (A.bin (op:=op) (t:=t) (ow x) (ow y) (c4 A e x) (c4 A e y))
 | .unOp op _ x=>K (A.un (op:=op) (c4 A e x))
 | .convert s d x=>K (A.conv (s:=s) (d:=d) (c4 A e x))
 | .makeInterface t x=>K (A.yz (t:=t) (c4 A e x))
 | .makeFunc f a b=>K (A.yA (f:=f) (nh A e a.toList) (nh A e b.toList))
 | .makeMap t r=>K (A.yB (t:=t) (rK A e r))
 | .makeSlice t l c=>K (A.yC (t:=t) (c4 A e l) (c4 A e c))
 | .slice t x l h m=>K (A.slice (t:=t) (c4 A e x) (rK A e l) (rK A e h) (rK A e m))
 | .fieldAddr t x f=>K (A.yD (t:=t) (c4 A e x) (f:=f))
 | .field t x f=>K (A.field (t:=t) (c4 A e x) (f:=f))
 | .indexAddr t x i=>K (A.yE (t:=t) (c4 A e x) (c4 A e i))
 | .index t x i=>K (A.index (t:=t) (c4 A e x) (c4 A e i))
 | .lookup t x i ok=>K (A.lookup (t:=t) (c4 A e x) (c4 A e i) (ok:=ok))
 | .mapEntry t m k=>K (A.yF (t:=t) (c4 A e m) (c4 A e k))
 | .range t x=>K (A.range (t:=t) (c4 A e x))
 | .entry x=>K (A.entry (c4 A e x))
 | .typeAssert x t a ok=>K (A.assert (t:=t) (a:=a) (c4 A e x) (ok:=ok))
 | .extract x i=>K (A.extract (c4 A e x) (i:=i))
 | .call ⟨.builtin b,args,ats⟩=>F5 A b ats t (nh A e args.toList) K
 | .store t a x=>j (A.store (t:=t) (c4 A e a) (c4 A e x))
 | .mapUpdate t m k x=>j (A.uz (t:=t) (c4 A e m) (c4 A e k) (c4 A e x))
 | .insert t m k x=>j (A.uz (t:=t) (c4 A e m) (c4 A e k) (c4 A e x))
 | .entryStore t m k x=>j (A.yG (t:=t) (c4 A e m) (c4 A e k) (c4 A e x))
 |_=>A.no
def hq(e:Env)(d:Option Tmp)(x:eD):Env:=
 match d with
 |some t=>(t,x)::e
 |none=>e
def yI(o:T2)(e:Env)(w:x4)(K:Env->(x4->B)->B):B:=
 match o with
 |⟨d,.move x,_,_,_,_⟩=>K (hq e d (ng A e x)) (λ_=>A.kO)
 |⟨d,.assign x,_,_,_,_⟩=>K (hq e d (ng A e x)) (λ_=>A.kO)
 |⟨d,.pick c a b,_,_,_,_⟩=>
  match ng A e c with
  | .b true=>K (hq e d (ng A e a)) (λ_=>A.kO)
  | .b false=>K (hq e d (ng A e b)) (λ_=>A.kO)
  | .v x=>A.split x (K (hq e d (.v (c4 A e a))) (λ_=>A.kO)) (K (hq e d (.v (c4 A e b))) (λ_=>A.kO))
  | .u=>A.no
 |⟨d,op,t,_,_,_⟩=>yH A e t (λs=>A.uy s w λv=>K (hq e d (.v v)) (A.stays s v)) (λ_=>A.no) op
def F6(fr:Bool)(n:Nat)(o:T2)(e:Env)(w:x4)(K:Env->x4->B):B:=
 match o with
 |⟨d,.call ⟨.value (.func f),args,_⟩,_,_,_,_⟩=>
  bif fr then A.yl (f:=f) (nh A e args.toList) w λv w'=>K (hq e d (.v v)) w'
  else A.yk (f:=f) (nh A e args.toList) w λv w'=>K (hq e d (.v v)) w'
 |⟨d,.call ⟨.value x,args,_⟩,_,_,_,_⟩=>A.ym (fr:=fr) (c4 A e x) (nh A e args.toList) w λv w'=>K (hq e d (.v v)) w'
 |⟨d,.next x b,_,_,_,_⟩=>A.runN (fr:=fr) (n:=n) (A.next (c4 A e x) (b:=b)) w λv w'=>K (hq e d (.v v)) w'
 |⟨d,op,t,_,_,_⟩=>yH A e t (λs=>A.yi s w λv w'=>K (hq e d (.v v)) w') (λu=>A.yj u w λw'=>K (hq e d (.v (A.kN (x:=undef)))) w') op
def yJ(fr:Bool)(n:Nat)(o:T2)(e:Env)(w:x4)(K:Env->x4->B):B:=
 bif i7 o then yI A o e w (λa _=>K a w)else F6 A fr n o e w K
def uB(ops:List T2)(o:T2)(e:Env)(D N:Env->B):B:=
 match o.guard with
 |none=>D e
 |some (j,b)=>
  match oG ops j with
  |some ⟨σ s,_,_,_,_,_⟩=>
   match look e s with
   |some (.b c)=>bif xor c b then N e else D e
   |some (.v x)=>A.split x (bif b then D ((s,.b true)::e)else N ((s,.b true)::e)) (bif b then N ((s,.b false)::e)else D ((s,.b false)::e))
   |some .u=>N e
   |none=>A.no
  |_=>A.no
def uC(fr:Bool)(n:Nat)(ops:List T2):List T2->Env->x4->(Env->x4->B)->B
 |[],e,w,K=>K e w
 |o::l,e,w,K=>uB A ops o e (λe=>yJ A fr n o e w λa w'=>uC fr n ops l a w' K) (λe=>uC fr n ops l (hq e o.dst .u) w K)
def yK:List Edge->Nat->Bool
 |[],_=>true
 |e::r,a=>(bif yd e then pU a e.on else true)&&yK r a
def rL(a:Nat):Nat->List T2->List Nat
 |_,[]=>[]
 |i,o::l=>bif pU a i then rL a (Nat.succ i) l else bif yK o.after.toList a then i::rL a (Nat.succ i) l else rL a (Nat.succ i) l
def yL(ops:List T2):List Nat->Option Nat
 |[]=>ν
 |i::r=>match oG ops i with
  |some o=>bif i7 o then σ i else yL ops r
  |none=>ν
def yM(p:Nat->B):List Nat->B
 |[]=>A.kO
 |[i]=>p i
 |i::r=>A.and (p i) (yM p r)
def yN(same:Bool)(q:Nat)(w:x4)(st:x4->B)(a:List (x4×List (Nat×(x4->B)))):List (x4×List (Nat×(x4->B))):=
 match same,a with
 |true,g::r=>(g.1,(q,st)::g.2)::r
 |_,a=>(w,[(q,st)])::a
def yO(bs:List Nat)(j:Nat):List (Nat×(x4->B))->Bool
 |[]=>false
 |(i,_)::r=>ux bs j i||yO bs j r
def uD(bs:List Nat)(j:Nat)(w':x4):List (Nat×(x4->B))->B
 |[]=>A.kO
 |(i,p)::r=>bif ux bs j i then A.and (p w') (uD bs j w' r)else uD bs j w' r
def rM(bs:List Nat)(j:Nat)(w':x4)(C:B):List (x4×List (Nat×(x4->B)))->B
 |[]=>C
 |(w,l)::r=>bif yO bs j l then A.and (A.or (A.ext w w') (uD A bs j w' l)) (rM bs j w' C r)else rM bs j w' C r
def ni(fr:Bool)(n:Nat)(ops:List T2)(bs:List Nat):Nat->Nat->Bool->List (x4×List (Nat×(x4->B)))->Env->x4->(Env->x4->B)->B
 |0,_,_,_,e,w,K=>K e w
 |fuel+1,f,same,a,e,w,K=>
  match rL f 0 ops with
  |[]=>K e w
  |i::r=>
   match yL ops (i::r)with
   |some q=>
    match oG ops q with
    |some o=>uB A ops o e
      (λe=>yI A o e w λh st=>
       bif lD o then ni fr n ops bs fuel (kh f q) same a h w K
       else ni fr n ops bs fuel (kh f q) true (yN same q w st a) h w K)
      (λe=>bif lD o then ni fr n ops bs fuel (kh f q) same a (hq e o.dst .u) w K
       else ni fr n ops bs fuel (kh f q) true (yN same q w (λ_=>A.kO) a) (hq e o.dst .u) w K)
    |none=>A.no
   |none=>
    yM A (λj=>match oG ops j with
     |some o=>uB A ops o e (λe=>yJ A fr n o e w λh w'=>rM A bs j w' (ni fr n ops bs fuel (kh f j) false a h w' K) a)
       (λe=>rM A bs j w (ni fr n ops bs fuel (kh f j) false a (hq e o.dst .u) w K) a)
     |none=>A.no) (i::r)
def rN(e:Env):List Nat->List x3
 |[]=>[]
 |t::r=>(match look e t with|some x=>x.g A|none=>A.kN (x:=undef))::rN e r
def uE(l:List Nat)(vs:List x3)(e:Env):Env:=
 match l,vs with
 |t::r,v::vs=>(t,.v v)::uE r vs e
 |_,_=>e
def rO(d:Nat):Env->Env
 |[]=>[]
 |(t,x)::r=>bif pU d t then rO d r else(t,x)::rO d r
def F7(l:List Nat)(aw:List x3->x4->B)(e:(List x3->x4->B)->B):B:=
 match l with
 |[]=>A.dl (λw=>aw [] w) λk=>e λ_ w=>k w
 |[_]=>A.aW (λa w=>aw [a] w) λk=>e λvs w=>match vs with
  |[a]=>k a w
  |_=>A.no
 |[_,_]=>A.ib (λa b w=>aw [a,b] w) λk=>e λvs w=>match vs with
  |[a,b]=>k a b w
  |_=>A.no
 |[_,_,_]=>A.yn (λa b c w=>aw [a,b,c] w) λk=>e λvs w=>match vs with
  |[a,b,c]=>k a b c w
  |_=>A.no
 |[_,_,_,_]=>A.yo (λa b c d w=>aw [a,b,c,d] w) λk=>e λvs w=>match vs with
  |[a,b,c,d]=>k a b c d w
  |_=>A.no
 |[_,_,_,_,_]=>A.yp (λa b c d f w=>aw [a,b,c,d,f] w) λk=>e λvs w=>match vs with
  |[a,b,c,d,f]=>k a b c d f w
  |_=>A.no
 |_=>A.no
def F8(us:List x3)(w:x4)(e:List x3->x4->(List x3->x4->B)->B):B:=
 match us with
 |[]=>A.yq w λw k=>e [] w λ_ w=>k w
 |[a]=>A.yr a w λa w k=>e [a] w λvs w=>match vs with
  |[a]=>k a w
  |_=>A.no
 |[a,b]=>A.ys a b w λa b w k=>e [a,b] w λvs w=>match vs with
  |[a,b]=>k a b w
  |_=>A.no
 |[a,b,c]=>A.yt a b c w λa b c w k=>e [a,b,c] w λvs w=>match vs with
  |[a,b,c]=>k a b c w
  |_=>A.no
 |[a,b,c,d]=>A.yu a b c d w λa b c d w k=>e [a,b,c,d] w λvs w=>match vs with
  |[a,b,c,d]=>k a b c d w
  |_=>A.no
 |[a,b,c,d,f]=>A.yv a b c d f w λa b c d f w k=>e [a,b,c,d,f] w λvs w=>match vs with
  |[a,b,c,d,f]=>k a b c d f w
  |_=>A.no
 |[a,b,c,d,f,g]=>A.yw a b c d f g w λa b c d f g w k=>e [a,b,c,d,f,g] w λvs w=>match vs with
  |[a,b,c,d,f,g]=>k a b c d f g w
  |_=>A.no
 |_=>A.no
def uF(K:Nat->x4->B):List Nat->List (Nat×(x4->B))
 |[]=>[]
 |i::r=>(i,λw=>K i w)::uF K r
def hL(fr:Bool)(n:Nat):Code->Nat->Env->x4->(Exit->Env->x4->B)->B
 | .skip,_,e,w,K=>K .normal e w
 | .label _,_,e,w,K=>K .normal e w
 | .ret,_,e,w,K=>K .ret e w
 | .exit i,_,e,w,K=>K (.exit i) e w
 | .region _ ops C,_,e,w,K=>
  bif C then A.drew w λw'=>ni A fr n ops.toList (uw ops.toList []) (ops.toList.length) 0 false [] e w' (K .normal)
  else uC A fr n ops.toList ops.toList e w (K .normal)
 | .seq x y,rd,e,w,K=>
  bif Nat.ble 2 (lJ x)then
   F7 A (mp 1000 0 (Nat.land (ia x) (Nat.lor (gk y) rd))) (λvs w'=>hL fr n y rd (uE (mp 1000 0 (Nat.land (ia x) (Nat.lor (gk y) rd))) vs (rO (ia x) e)) w' K)
    λaw=>hL fr n x (Nat.lor (gk y) rd) e w λex h w'=>match ex with
     | .normal=>aw (rN A h (mp 1000 0 (Nat.land (ia x) (Nat.lor (gk y) rd)))) w'
     |ex=>K ex h w'
  else hL fr n x (Nat.lor (gk y) rd) e w λex h w'=>match ex with
   | .normal=>hL fr n y rd h w' K
   |ex=>K ex h w'
 | .cond c x y,rd,e,w,K=>
  match ng A e c with
  | .b true=>hL fr n x rd e w K
  | .b false=>hL fr n y rd e w K
  | .v v=>A.split v (hL fr n x rd e w K) (hL fr n y rd e w K)
  | .u=>A.no
 | .block id c,rd,e,w,K=>hL fr n c rd e w λex h w'=>match ex with
  | .exit i=>bif S0 i id then K .normal h w' else K (.exit i) h w'
  |ex=>K ex h w'
 | .loop c,rd,e,w,K=>
  F8 A (rN A e (pV e (mp 1000 0 (Nat.land (ia c) (Nat.lor (gk c) rd))))) w λus w' k=>
   hL fr n c (Nat.lor (gk c) rd) (uE (pV e (mp 1000 0 (Nat.land (ia c) (Nat.lor (gk c) rd)))) us (rO (ia c) e)) w' λex h j=>match ex with
    | .normal=>k (rN A h (pV e (mp 1000 0 (Nat.land (ia c) (Nat.lor (gk c) rd))))) j
    |ex=>K ex h j
 | .scope c,rd,e,w,K=>hL fr n c rd e w K
 | .rangeFunc f E z body,_,e,w,K=>
  match E.toList with
  |[p]=>A.yx (c4 A e f) w
    (λa w' k=>hL fr n z (gk body) ((p,.v a)::e) w' λex h j=>match ex with
     | .normal=>A.over (n:=w.heap.size) j λr=>hL fr n body 0 h r λex _ s=>k ex s
     |_=>A.no)
    (λw'=>K .normal e w') (bif jb body then λw'=>K .ret e w' else λ_=>A.no) (uF (λi w'=>K (.exit i) e w') (jy body))
  |[p,q]=>A.yy (c4 A e f) w
    (λa b w' k=>hL fr n z (gk body) ((q,.v b)::(p,.v a)::e) w' λex h j=>match ex with
     | .normal=>A.over (n:=w.heap.size) j λr=>hL fr n body 0 h r λex _ s=>k ex s
     |_=>A.no)
    (λw'=>K .normal e w') (bif jb body then λw'=>K .ret e w' else λ_=>A.no) (uF (λi w'=>K (.exit i) e w') (jy body))
  |_=>A.no
 | .goto _,_,_,_,_=>A.no
 | .refuse _,_,_,_,_=>A.no
def yP:Nat->List x3->Env
 |_,[]=>[]
 |i,v::r=>(i,.v (A.kN (x:=v)))::yP (i+1) r
def rP(e:Env)(w:x4):List ResultVar->(List x3->B)->B
 |[],K=>K []
 | .tmp t::r,K=>rP e w r λvs=>K ((match look e t with|some x=>x.g A|none=>A.kN (x:=undef))::vs)
 | .cell a t::r,K=>A.uy (A.loadVar (t:=t) (match look e a with|some x=>x.g A|none=>A.kN (x:=undef))) w λv=>rP e w r λvs=>K (v::vs)
def rQ(vs:List x3)(K:x3->B):B:=
 match vs with
 |[v]=>K v
 |vs=>K (A.tup vs)
def uG:List ResultVar->Nat->Nat
 |[],s=>s
 | .tmp t::r,s=>uG r (kh s t)
 | .cell a _::r,s=>uG r (kh s a)
def F9(a:List ResultVar)(marks:Bool)(n:Nat)(Q:x3->x4->B):Exit->Env->x4->B
 | .normal,e,w=>rP A e w a λvs=>bif marks then A.again (n:=n) w λw'=>rQ A vs λv=>Q v w' else rQ A vs λv=>Q v w
 | .ret,e,w=>rP A e w a λvs=>bif marks then A.again (n:=n) w λw'=>rQ A vs λv=>Q v w' else rQ A vs λv=>Q v w
 |_,_,_=>A.no
def uH(fr marks:Bool)(fn:Func)(c:Code)(args:List x3)(w:x4)(Q:x3->x4->B):B:=
 hL A fr n c (uG fn.results.toList 0) (yP A 0 args) w (F9 A fn.results.toList marks n Q)
end
def oH(P:W9):mq Prop (Sem x3) (Sem Unit) where
 kN {x}:=x
 tup l:=.tuple l.toArray
 no:=False
 kO:=True
 and:=And
 or:=Or
 ext:=Ext
 stays:=bZ P
 split:=Split
 uy:=V P
 yi:=aC P
 yj u w K:=aC P u w λ_ w'=>K w'
 runN {fr n}:=rn P (fr,n)
 yk {f}:=ai P f
 yl {f}:=gI P f
 ym {fr}:=rr P fr
 drew:=eg
 again {n}:=ul n
 over {n}:=Over n
 dl:=cv
 aW:=cv
 ib:=cv
 yn:=cv
 yo:=cv
 yp:=cv
 yq:=FL
 yr:=b1
 ys:=b3
 yt:=mm
 yu:=pN
 yv:=pO
 yw:=FM
 yx:=kK P
 yy:=oD P
 loadVar {t} x:=do loadVar t (<-asAddr x)
 alloc {t}:=Instr.alloc t true (.tuple #[])
 box {t} x:=Instr.box t x
 build {t} l:=Instr.build t l.toArray
 buildSlice {t n} l:=Y8 t n l.toArray
 load {t} x:=u5 t x
 nil x:=bP x
 bin {op t} a b x y:=aJ op t a b x y
 un {op} x:=Op.unary op x
 conv {s d} x:=convert s d x
 yz {t} x:=Instr.makeInterface t x
 yA {f} a b:=Instr.makeFunc f a.toArray b.toArray
 yB {t} x:=Instr.makeMap t x
 yC {t} l c:=Instr.makeSlice t l c
 slice {t} x l h m:=V8 t x l h m
 yD {t} x {f}:=u6 t x f
 field {t} x {f}:=Instr.field t x f
 yE {t} x i:=j5 t x i
 index {t} x i:=Instr.index t x i
 lookup {t} x i {ok}:=Instr.lookup t x i ok
 yF {t} m k:=Instr.mapEntry t m k
 range {t} x:=Instr.range t x
 entry x:=Instr.entry x
 assert {t a} x {ok}:=Instr.typeAssert x t a ok
 extract x {i}:=Y2 x i
 next x {b}:=Instr.next x b 0
 append {ats t} l:=Z3 ats t l.toArray
 cap {ats t} l:=Z4.cap_ ats t l.toArray
 clear {ats t} l:=Z4.clear_ ats t l.toArray
 copy {ats t} l:=Z4.copy_ ats t l.toArray
 delete {ats t} l:=Z4.delete_ ats t l.toArray
 len {ats t} l:=W7 ats t l.toArray
 max {ats t} l:=Z4.max_ ats t l.toArray
 min {ats t} l:=Z4.min_ ats t l.toArray
 store {t} a x:=o8 t a x
 uz {t} m k x:=Instr.mapUpdate t m k x
 yG {t} m k x:=Instr.entryStore t m k x
end Go.Vc
namespace Go.Proofs.YtikkpokkcdocoaaGreatDoor
open Go Go.Vc Go.RowKit Go.Proofs Go.Proofs.Tryz
set_option maxRecDepth 100000
theorem mixed:x8.follows .mixedOrders=true:=Ψ
def yQ:Nat:=3
def yR:Nat:=4
def Ga:Nat:=7
def Gb:Nat:=8
def Gc:Nat:=9
def Gd:Nat:=10
def yS:Nat:=11
def Ge:Nat:=12
def Gf:Nat:=13
def Gg:Nat:=14
def Gh:Nat:=15
def Gi:Nat:=16
def Gj:Nat:=17
def Gk:Nat:=18
def yT:Nat:=19
def Gl:Nat:=21
def yU:Nat:=22
def Gm:Nat:=25
def yV:Nat:=26
def yW:Nat:=27
def uI:Nat:=28
def Gn:Nat:=29
def uJ:Nat:=30
def Gp:Nat:=31
def Gq:Nat:=32
def Gr:Nat:=33
def Gs:Nat:=34
def yX:Nat:=35
def yY:Nat:=36
def uK:Nat:=37
def yZ:Nat:=38
def y0:Nat:=39
def Gt:Nat:=40
def Gu:Nat:=41
def y1:Nat:=42
def Gv:Nat:=43
def Rn:Nat:=44
def Ro:Nat:=45
def Rp:Nat:=46
def Gw:Nat:=47
def Gx:Nat:=49
def Gy:Nat:=50
def Gz:Nat:=51
def GA:Nat:=53
def y2:Nat:=54
def GB:Nat:=55
def GC:Nat:=58
def GD:Nat:=59
def GF:Nat:=60
def GG:Nat:=61
def y3:Nat:=62
def GH:Nat:=63
def GI:Nat:=64
def GJ:Nat:=65
def GK:Nat:=66
def GL:Nat:=67
def GM:Nat:=68
def GN:Nat:=69
def GO:Nat:=70
def GP:Nat:=71
def GQ:Nat:=72
def Rq:Nat:=73
def uL:Nat:=74
def GR:Nat:=75
def GS:Nat:=76
def GU:Nat:=77
def GV:Nat:=78
def GW:Nat:=79
def GX:Nat:=80
def jz:Nat:=81
def GY:Nat:=82
def GZ:Nat:=83
def G0:Nat:=84
def G1:Nat:=85
def G2:Nat:=86
def y4:Nat:=87
def Rr:Nat:=88
def G3:Nat:=92
def G4:Nat:=93
def lL:Nat:=94
def G5:Nat:=95
def G6:Nat:=96
def G7:Nat:=97
def G8:Nat:=98
def G9:Nat:=99
def Ha:Nat:=100
def Hb:Nat:=101
def Hc:Nat:=102
def Hd:Nat:=103
def nj:Nat:=104
def nk:Nat:=105
def y5:Nat:=108
def y6:Nat:=109
def pW:Nat:=110
def nl:Nat:=111
def kP:Nat:=112
def y7:Nat:=113
def uM:Nat:=114
def nn:Nat:=115
def y8:Nat:=116
def uN:Nat:=117
def He:Nat:=118
def Hf:Nat:=119
def rR:Nat:=120
def lM:Nat:=121
def y9:Nat:=122
def np:Nat:=123
def Hg:Nat:=124
def Hh:Nat:=125
def Hi:Nat:=126
def Hj:Nat:=127
def za:Nat:=128
def Hk:Nat:=129
def Hl:Nat:=130
def zb:Nat:=131
def zc:Nat:=132
def Hm:Nat:=133
def Hn:Nat:=134
def Ho:Nat:=135
def Hp:Nat:=136
def Hq:Nat:=137
def uO:Nat:=138
def Hr:Nat:=139
def Hs:Nat:=140
def Ht:Nat:=141
def Hu:Nat:=142
def Hv:Nat:=143
def Hw:Nat:=144
def Hx:Nat:=145
def Hy:Nat:=146
def Hz:Nat:=147
def HA:Nat:=148
def HB:Nat:=149
def HC:Nat:=150
def HD:Nat:=151
def HE:Nat:=152
def HF:Nat:=154
def zd:Nat:=155
def HG:Nat:=156
def HH:Nat:=157
def HI:Nat:=158
def HJ:Nat:=159
def ze:Nat:=160
def HK:Nat:=163
def HL:Nat:=164
def zf:Nat:=165
def HM:Nat:=166
def HN:Nat:=167
def HO:Nat:=168
def HP:Nat:=169
def HQ:Nat:=170
def oI:Nat:=171
def HR:Nat:=172
def HS:Nat:=173
def rS:Nat:=174
def HT:Nat:=175
def HU:Nat:=176
def zg:Nat:=177
def zh:Nat:=178
def zi:Nat:=179
def HV:Nat:=180
def pX:Nat:=181
def HW:Nat:=182
def uP:Nat:=183
def HX:Nat:=184
def HY:Nat:=185
def zj:Nat:=186
def HZ:Nat:=187
def H0:Nat:=188
def H1:Nat:=189
def H2:Nat:=190
def H3:Nat:=191
def H4:Nat:=192
def H5:Nat:=193
def zk:Nat:=194
def H6:Nat:=195
def H7:Nat:=196
def H8:Nat:=197
def H9:Nat:=198
def Ia:Nat:=199
def zl:Nat:=200
def Ib:Nat:=201
def Ic:Nat:=202
def Ie:Nat:=203
def If:Nat:=204
def rT:Nat:=205
def zm:Nat:=206
def Ig:Nat:=207
def Ih:Nat:=208
def Ii:Nat:=209
def zn:Nat:=210
def Ij:Nat:=211
def uQ:Nat:=212
def rU:Nat:=213
def uR:Nat:=214
def Ik:Nat:=215
def uS:Nat:=216
def Il:Nat:=217
def Im:Nat:=218
def uT:Nat:=219
def In:Nat:=220
def Io:Nat:=221
def zo:Nat:=222
def zp:Nat:=223
def zq:Nat:=224
def Ip:Nat:=225
def Iq:Nat:=226
def Ir:Nat:=227
def Is:Nat:=228
def It:Nat:=229
def Iu:Nat:=230
def Iv:Nat:=231
def Rs:Nat:=232
def Iw:Nat:=234
def cmp_isNaN_int:Nat:=235
def zr:Nat:=236
def uU:Nat:=237
def rV:Nat:=238
def Ix:Nat:=239
def Iy:Nat:=240
def zs:Nat:=241
def Iz:Nat:=242
def IA:Nat:=243
def IB:Nat:=244
def IC:Nat:=245
def ID:Nat:=246
def IE:Nat:=247
def IF:Nat:=248
def lN:Nat:=249
def lO:Nat:=250
def IG:Nat:=251
def Rt:Nat:=252
def IH:Nat:=253
def Ru:Nat:=254
def II:Nat:=255
def IJ:Nat:=256
def oJ:Nat:=257
def IK:Nat:=258
def IL:Nat:=259
def IM:Nat:=260
def IN:Nat:=270
def IP:Nat:=271
def rW:Nat:=272
def IQ:Nat:=273
def IR:Nat:=274
def IS:Nat:=275
def IT:Nat:=276
def lP:Nat:=277
def IU:Nat:=278
def IV:Nat:=279
def IW:Nat:=280
def Rv:Nat:=281
def Rw:Nat:=288
def IX:Nat:=289
def IY:Nat:=290
def IZ:Nat:=292
def I0:Nat:=293
def I1:Nat:=294
def Rx:Nat:=295
def I2:Nat:=296
def Ry:Nat:=297
def Rz:Nat:=298
def RA:Nat:=299
def RB:Nat:=300
def RC:Nat:=301
def cmp_Less_int:Nat:=302
def RD:Nat:=303
def RE:Nat:=304
def RF:Nat:=314
def RG:Nat:=315
abbrev I3:Nat:=0
abbrev ao:Nat:=2
abbrev ag:Nat:=3
abbrev eb:Nat:=4
abbrev cH:Nat:=5
abbrev c5:Nat:=9
abbrev cL:Nat:=22
abbrev nq:Nat:=23
abbrev eh:Nat:=25
abbrev an:Nat:=26
abbrev b2:Nat:=27
abbrev hM:Nat:=28
abbrev cP:Nat:=29
abbrev dm:Nat:=30
abbrev nr:Nat:=31
abbrev aA:Nat:=33
abbrev jA:Nat:=38
abbrev ns:Nat:=47
abbrev au:Nat:=51
abbrev fA:Nat:=58
abbrev b4:Nat:=60
abbrev c6:Nat:=63
abbrev aX:Nat:=70
abbrev cU:Nat:=72
abbrev mr:Nat:=82
abbrev pY:Nat:=83
abbrev fS:Nat:=84
abbrev cG:Nat:=86
abbrev I4:Nat:=87
abbrev eY:Nat:=89
abbrev zt:Nat:=92
abbrev oK:Nat:=94
abbrev bE:Nat:=96
abbrev fT:Nat:=98
abbrev uV:Nat:=108
abbrev uW:Nat:=111
abbrev cV:Nat:=118
abbrev dI:Nat:=120
abbrev eK:Nat:=135
abbrev ic:Nat:=136
abbrev nt:Nat:=137
abbrev rX:Nat:=138
abbrev fB:Nat:=140
abbrev I5:Nat:=155
abbrev gl:Nat:=157
abbrev kQ:Nat:=162
abbrev rY:Nat:=164
abbrev e5:Nat:=167
abbrev hr:Nat:=168
abbrev ci:Nat:=170
abbrev jd:Nat:=175
abbrev iD:Nat:=176
abbrev b6:Nat:=178
abbrev dN:Nat:=184
abbrev cC:Nat:=186
abbrev eZ:Nat:=187
abbrev cD:Nat:=189
abbrev fm:Nat:=191
abbrev dC:Nat:=195
abbrev bC:Nat:=197
abbrev dJ:Nat:=199
abbrev cr:Nat:=201
abbrev ei:Nat:=205
abbrev a6:Nat:=207
abbrev kR:Nat:=212
abbrev fC:Nat:=214
abbrev e0:Nat:=215
abbrev hs:Nat:=219
abbrev oL:Nat:=228
abbrev pZ:Nat:=239
abbrev hN:Nat:=248
abbrev jB:Nat:=254
abbrev ej:Nat:=259
abbrev ch:Nat:=263
abbrev gm:Nat:=265
abbrev cW:Nat:=270
abbrev iE:Nat:=283
abbrev fD:Nat:=285
abbrev oM:Nat:=286
abbrev gn:Nat:=289
abbrev cX:Nat:=292
abbrev rZ:Nat:=305
abbrev gW:Nat:=307
abbrev fU:Nat:=310
abbrev cE:Nat:=312
abbrev kS:Nat:=335
abbrev je:Nat:=337
abbrev RH:Nat:=350
abbrev oN:Nat:=357
abbrev lQ:Nat:=358
abbrev mu:Nat:=380
abbrev r0:Nat:=399
abbrev p0:Nat:=422
theorem ay{f:R6}{fn:Func}{c:Code}{Q:x3->x4->Prop}{Z:{B S aT:Type}->mq B S aT->(x3->x4->B)->B}{a:Prop}(j:x8.funcs[f]?=σ fn)(h:a)(p:fn.body=σ c:=by rfl)(_:∀{B S aT:Type}(A:mq B S aT)(Q:x3->x4->B),uH A false false (n:=w.heap.size) fn c args w Q=Z A Q:=by intros;conv=>lhs;reduce)(_:Z (oH x8) Q=a:=by dsimp only[oH])(e:a=eE x8 fn.ntmps (false,w.heap.size) c (mo fn.results.toList) (kM 0 args) w (lI x8 fn.results.toList false 0 Q):=by kernel_rfl)(hk:(!(fn.name == "runtime.NumGoroutine")&&wf fn.ntmps c&&Nat.ble args.length fn.ntmps&& !ke c)=true:=by kernel_rfl):ai x8 f args w Q:=by
 simp only[U1,Bool.not_eq_true']at hk;exact ai.F3 mixed j p hk.1.1.1 hk.1.1.2 hk.1.2 hk.2 (e▸h)
theorem iF{f:R6}{fn:Func}{c:Code}{Q:x3->x4->Prop}{Z:{B S aT:Type}->mq B S aT->(x3->x4->B)->B}{a:Prop}(j:x8.funcs[f]?=σ fn)(h:a)(p:fn.body=σ c:=by rfl)(_:∀{B S aT:Type}(A:mq B S aT)(Q:x3->x4->B),uH A false true (n:=w.heap.size) fn c args w Q=Z A Q:=by intros;conv=>lhs;reduce)(_:Z (oH x8) Q=a:=by dsimp only[oH])(e:a=eE x8 fn.ntmps (false,w.heap.size) c (mo fn.results.toList) (kM 0 args) w (lI x8 fn.results.toList true w.heap.size Q):=by kernel_rfl)(hk:(!(fn.name == "runtime.NumGoroutine")&&wf fn.ntmps c&&Nat.ble args.length fn.ntmps)=true:=by kernel_rfl):ai x8 f args w Q:=by
 simp only[U1,Bool.not_eq_true']at hk;exact ai.enter mixed j p hk.1.1 hk.1.2 hk.2 (e▸h)
theorem p1{f:R6}{fn:Func}{c:Code}{Q:x3->x4->Prop}{Z:{B S aT:Type}->mq B S aT->(x3->x4->B)->B}{a:Prop}(j:x8.funcs[f]?=σ fn)(h:a)(p:fn.body=σ c:=by rfl)(_:∀{B S aT:Type}(A:mq B S aT)(Q:x3->x4->B),uH A true false (n:=0) fn c args w Q=Z A Q:=by intros;conv=>lhs;reduce)(_:Z (oH x8) Q=a:=by dsimp only[oH])(e:a=eE x8 fn.ntmps (true,0) c (mo fn.results.toList) (kM 0 args) w (lI x8 fn.results.toList false 0 Q):=by kernel_rfl)(hk:(!(fn.name == "runtime.NumGoroutine")&&wf fn.ntmps c&&Nat.ble args.length fn.ntmps)=true:=by kernel_rfl):gI x8 f args w Q:=by
 simp only[U1,Bool.not_eq_true']at hk;exact gI.enter mixed j p hk.1.1 hk.1.2 hk.2 (e▸h)
theorem jz.enters:Enters x8 jz:=Enters.of x8 (show x8.funcs[jz]?=σ Tryz.f81 from Tryz.func81) rfl Ψ
theorem lL.enters:Enters x8 lL:=Enters.of x8 (show x8.funcs[lL]?=σ Tryz.f94 from Tryz.func94) rfl Ψ
theorem lN.enters:Enters x8 lN:=Enters.of x8 (show x8.funcs[lN]?=σ Tryz.f249 from Tryz.func249) rfl Ψ
theorem oJ.enters:Enters x8 oJ:=Enters.of x8 (show x8.funcs[oJ]?=σ Tryz.f257 from Tryz.func257) rfl Ψ
theorem lP.enters:Enters x8 lP:=Enters.of x8 (show x8.funcs[lP]?=σ Tryz.f277 from Tryz.func277) rfl Ψ
end Go.Proofs.YtikkpokkcdocoaaGreatDoor
namespace Go.Vc
open Go Go.RowKit
theorem uX{b o:Nat}(h:w.cell? ⟨b,o,ν⟩=σ v):∃c e f,w.heap[b]?=σ (.cells c e f)/\c[o]?=σ v:=by
 simp only[x4.cell?]at h;split at h
 .rename_i c e f a;exact⟨c,e,f,a,by simpa using h⟩
 .cases h
theorem zu(a:ae S w w'){b o:Nat}(j:¬S b)(h:w.cell? ⟨b,o,ν⟩=σ v):w'.cell? ⟨b,o,ν⟩=σ v:=by
 obtain⟨c,e,f,p,q⟩:=uX h;simp[x4.cell?,a.aU b _ p rfl j,q]
theorem iG(a:Ext w w'){b o:Nat}(h:w.cell? ⟨b,o,ν⟩=σ v):w'.cell? ⟨b,o,ν⟩=σ v:=
 zu (a.aa λ_=>False) (λh=>h) h
theorem nu(a:Ext w w'){b o:Nat}(h:w.rangeAt b o cs):w'.rangeAt b o cs:=λj v e=>iG a (h j v e)
theorem hP(a:ae S w w'){b o:Nat}(e:¬S b)(h:w.rangeAt b o cs):w'.rangeAt b o cs:=λj v f=>zu a e (h j v f)
def ad(w:x4)(g:Nat)(e:r9)(cs:List x3):Prop:=w.heap[g]?=σ (.cells cs.toArray e (0,0))
theorem ad.ext{g:Nat}(h:ad w g e cs)(a:Ext w w'):ad w' g e cs:=a.aU g _ h rfl
theorem ad.aa{g:Nat}(h:ad w g e cs)(a:ae S w w')(f:¬S g):ad w' g e cs:=a.aU g _ h rfl f
theorem ad.lt{g:Nat}(h:ad w g e cs):g<w.heap.size:=(j6.1 h).1
theorem ad.cell{g:Nat}(h:ad w g e cs){o:Nat}(a:cs[o]?=σ v):w.cell? ⟨g,o,ν⟩=σ v:=by
 unfold ad at h;simp[x4.cell?,h,a]
theorem ad.Qz{w:World}{g:Nat}{e:TypeId}{cs:List Value}{v:Value}(h:ad w g e cs)(I:cs[0]?=σ v):w.cell? ⟨g,0,ν⟩=σ v:=h.cell I
theorem ad.range{g:Nat}(h:ad w g e cs):w.rangeAt g 0 cs:=λj v a=>by rw[X3];exact h.cell a
theorem ad.frozen{g:Nat}(h:ad w g e cs)(o:Nat)(a:Option Nat):w.frozen? ⟨g,o,a⟩=false:=by
 unfold ad at h;simp[x4.frozen?,h]
def cc(w:x4)(k:Nat)(v:x3)(n:Nat)(cs:List x3):Prop:=
 cs.length=n*k/\∃b o base cap,v= .slice base n cap/\n<=cap/\cap<=maxLen/\(0<n->base=σ ⟨b,o,ν⟩)/\w.rangeAt b o cs
theorem cc.ext{k:Nat}(h:cc w k v n cs)(a:Ext w w'):cc w' k v n cs:=by
 obtain⟨h1,b,o,base,cap,e,f,j,p,q⟩:=h;exact⟨h1,b,o,base,cap,e,f,j,p,nu a q⟩
theorem cc.le{k:Nat}(h:cc w k v n cs):n<=maxLen:=by
 obtain⟨_,_,_,_,_,_,a,e,_⟩:=h;exact X0 a e
theorem cc.nil(w:x4)(k:Nat):cc w k (.slice ν 0 0) 0 []:=⟨Ξ,0,0,ν,0,rfl,o5 _,X5 _,λh=>absurd h (Nat.lt_irrefl _),λj v h=>by simp at h⟩
def aP(P:W9)(t:r9)(k b:Nat)(z:x3):Prop:=∃i,P.info? t=σ i/\i.size=k/\i.bytes=b/\i.zero=σ z
theorem aP.of{P:W9}{k b:Nat}(h:(P.info? t).map (λi=>(i.size,i.bytes,i.zero))=σ (k,b,σ z)):aP P t k b z:=by
 cases hi:P.info? t with
 |none=>simp[hi]at h
 |some i=>simp[hi]at h;exact⟨i,hi,h⟩
theorem aP.size{P:W9}{k b:Nat}(h:aP P t k b z):(P.info? t).map (·.size)=σ k:=by
 obtain⟨i,hi,I,_⟩:=h;simp[hi,I]
def bM(P:W9)(t:r9)(pl:List (Nat×Nat)):Prop:=∃a,P.underlying t=σ (.struct a)/\a.toList.map (λf=>(f.offset,((P.info? f.type).map (·.size)).getD 0))=pl
def zv(P:W9)(t:r9):Option (List (Nat×Nat)):=match P.underlying t with
 |some (.struct a)=>σ (a.toList.map λf=>(f.offset,((P.info? f.type).map (·.size)).getD 0))
 |_=>ν
theorem bM.of{P:W9}{pl:List (Nat×Nat)}(h:zv P t=σ pl):bM P t pl:=by
 unfold zv at h;split at h
 .rename_i a hu;exact⟨a,hu,by simpa using h⟩
 .cases h
section
variable{P:W9}{w:x4}
theorem V.of{s:Sem x3}(h:∀w',Ext w w'->s.run P w'= .ok v w'):V P s w K=K v:=by
 refine propext ⟨λ⟨a,h',k⟩=>?_,λk=>⟨v,h,k⟩⟩;have:=h' w (Ext.refl w);rw[h w (Ext.refl w)]at this;cases this;exact k
theorem aC.of{α:Type}{s:Sem α}{v:α}{K:α->x4->Prop}(h:s.run P w= .ok v w')(a:cJ w w')(k:K v w'):aC P s w K:=⟨v,w',h,a,k⟩
theorem cj{c:Bool}{A B:Prop}:Split (.bool c) A B=((c=true->A)/\(c=false->B)):=by
 refine propext ⟨λ⟨e,h,h1,a⟩=>?_,λ⟨h1,a⟩=>⟨c,rfl,h1,a⟩⟩;cases h;exact⟨h1,a⟩
theorem aj{p:Prop}[Decidable p]{A B:Prop}:Split (.bool (decide p)) A B=((p->A)/\(¬p->B)):=by rw[cj];simp
theorem bQ{A B:Prop}:Split (.bool true) A B=A:=by rw[cj];simp
theorem aY{A B:Prop}:Split (.bool false) A B=B:=by rw[cj];simp
theorem aM{b:Int}:V P (aJ .add t cx cy (.int k a) (.int k b)) w K=K (.int k (k.wrap (a+b))):=
 V.of λw' _=>by simp[aJ,eqGuard,binOp,Op.intArith]
theorem ec{b:Int}:V P (aJ .sub t cx cy (.int k a) (.int k b)) w K=K (.int k (k.wrap (a-b))):=
 V.of λw' _=>by simp[aJ,eqGuard,binOp,Op.intArith]
theorem gp{b:Int}:V P (aJ .mul t cx cy (.int k a) (.int k b)) w K=K (.int k (k.wrap (a*b))):=
 V.of λw' _=>by simp[aJ,eqGuard,binOp,Op.intArith]
theorem p2{b:Int}(e:b≠0):V P (aJ .quo t cx cy (.int k a) (.int k b)) w K=K (.int k (k.wrap (a.tdiv b))):=
 V.of λw' _=>by simp[aJ,eqGuard,binOp,Op.intDiv,e]
theorem p3{b:Int}(e:b≠0):V P (aJ .rem t cx cy (.int k a) (.int k b)) w K=K (.int k (a.tmod b)):=
 V.of λw' _=>by simp[aJ,eqGuard,binOp,Op.intDiv,e]
theorem aR{b:Int}:V P (aJ .lss t cx cy (.int k a) (.int k b)) w K=K (.bool (decide (a<b))):=
 V.of λw' _=>by simp[aJ,eqGuard,binOp,Op.intCmp]
theorem Υ{k:IntKind}{P:Program}{t:TypeId}{cx cy:Bool}{a b:Int}{w:World}{A B:Prop}(hA:a<b->A)(h:a<b:=by omega):V P (aJ .lss t cx cy (.int k a) (.int k b)) w λv=>Split v A B:=by
 rw[aR,aj];exact⟨hA,λe=>absurd h e⟩
theorem kT{b:Int}:V P (aJ .leq t cx cy (.int k a) (.int k b)) w K=K (.bool (decide (a<=b))):=
 V.of λw' _=>by simp[aJ,eqGuard,binOp,Op.intCmp]
theorem bS{b:Int}:V P (aJ .gtr t cx cy (.int k a) (.int k b)) w K=K (.bool (decide (b<a))):=
 V.of λw' _=>by simp[aJ,eqGuard,binOp,Op.intCmp]
theorem cQ{b:Int}:V P (aJ .geq t cx cy (.int k a) (.int k b)) w K=K (.bool (decide (b<=a))):=
 V.of λw' _=>by simp[aJ,eqGuard,binOp,Op.intCmp]
theorem bb{b:Int}:V P (aJ .eql t cx cy (.int k a) (.int k b)) w K=K (.bool (decide (a=b))):=
 V.of λw' _=>by
  have:(a == b)=decide (a=b):=by by_cases h:a=b<;>simp[h]
  simp[aJ,eqGuard,binOp,Op.intCmp,this]
theorem bK{b:Int}:V P (aJ .neq t cx cy (.int k a) (.int k b)) w K=K (.bool (decide (a≠b))):=
 V.of λw' _=>by
  have:(a != b)=decide (a≠b):=by by_cases h:a=b<;>simp[h,bne]
  simp[aJ,eqGuard,binOp,Op.intCmp,this]
theorem zw{e:o9}{b:Int}(f:0<=b):V P (aJ .shl t cx cy (.int k a) (.int e b)) w K=K (.int k (k.wrap (a*2 ^ min b.toNat k.bits))):=
 V.of λw' _=>by simp[aJ,eqGuard,binOp,Op.shift,show¬b<0 by omega]
theorem bJ{c:Bool}:V P (Op.unary .not (.bool c)) w K=K (.bool !c):=V.of λw' _=>by simp[Op.unary]
theorem lR:V P (Op.unary .neg (.int k a)) w K=K (.int k (k.wrap (0-a))):=V.of λw' _=>by simp[Op.unary,Op.intArith]
theorem fo{s d:r9}{e:o9}(I:P.underlying s=σ (.int e))(f:P.underlying d=σ (.int k)):
  V P (convert s d (.int e a)) w K=K (.int k (k.wrap a)):=V.of λw' _=>by simp[convert,run_underlying I,run_underlying f,Conv.intToInt]
theorem zx{x y:x3}{r:Bool}(a:∀w',(eqGuard .eql t (aZ cx) (aZ cy) x y).run P w'= .ok () w')(e:binOp .eql t x y=(do pure (.bool (<-Op.equal t x y))))(h:∀w',Ext w w'->(Op.equal t x y).run P w'= .ok r w'):V P (aJ .eql t cx cy x y) w K=K (.bool r):=V.of λw' f=>by
 unfold aJ;rw[e,W6,a w',Result.andThen_ok,W6,h w' f];rfl
theorem I6{x y:x3}{r:Bool}(a:∀w',(eqGuard .neq t (aZ cx) (aZ cy) x y).run P w'= .ok () w')(e:binOp .neq t x y=(do pure (.bool (!(<-Op.equal t x y)))))(h:∀w',Ext w w'->(Op.equal t x y).run P w'= .ok r w'):V P (aJ .neq t cx cy x y) w K=K (.bool !r):=V.of λw' f=>by
 unfold aJ;rw[e,W6,a w',Result.andThen_ok,W6,h w' f];rfl
theorem zy(w:x4)(d:Nat){p:Option Addr}(h:P.underlying t=σ (.pointer e)):(Op.equalIn (d+1) t (.pointer p) (.pointer ν)).run P w= .ok p.isNone w:=by
 cases p<;>simp[Op.equalIn,run_underlying h]
theorem r1{base:Option Addr}{c:Nat}(a:P.underlying t=σ (.slice e)):
  V P (aJ .eql t cx cy (.slice base n c) (.slice ν 0 0)) w K=K (.bool base.isNone):=zx (λ_=>rfl) rfl λw' _=>run_equal_slice_nil w' t e base n c a
theorem da{p:Option Addr}(a:P.underlying t=σ (.pointer e)):
  V P (aJ .eql t cx cy (.pointer p) (.pointer ν)) w K=K (.bool p.isNone):=zx (λ_=>rfl) rfl λw' _=>zy w' 9999 a
theorem zz{p:Option Addr}(a:P.underlying t=σ (.pointer e)):
  V P (aJ .neq t cx cy (.pointer p) (.pointer ν)) w K=K (.bool !p.isNone):=I6 (λ_=>rfl) rfl λw' _=>zy w' 9999 a
theorem hQ{a:r9}{base:Option Addr}{c:Nat}(f:P.underlying t=σ (.slice e)):
  V P (W7 #[t] a #[.slice base n c]) w K=K (Δ n):=V.of λw' _=>by simp[W7,run_underlying f,goInt]
theorem kU{e:Array r9}{f:r9}{b:Int}:
  V P (Z4.min_ e f #[.int k a,.int k b]) w K=K (.int k (min a b)):=V.of λw' _=>by
 simp only[Z4.min_,List.foldlM,Z4.min2];simp only[W6,V3,Result.andThen_ok,Int.min_def];congr 2;split<;>split<;>omega
theorem uY{e:Array r9}{f:r9}{b:Int}:
  V P (Z4.max_ e f #[.int k a,.int k b]) w K=K (.int k (max a b)):=V.of λw' _=>by
 simp only[Z4.max_,List.foldlM,Z4.max2];simp only[W6,V3,Result.andThen_ok,Int.max_def];congr 2;split<;>split<;>omega
theorem iH{vs:Array x3}{i:Nat}(h:vs[i]?=σ v):V P (Y2 (.tuple vs) i) w K=K v:=V.of λw' _=>by simp[Y2,h]
theorem kV{f:Fn}{a b:Array x3}:V P (Instr.makeFunc f a b) w K=K (.func f a b):=V.of λ_ _=>rfl
def jC(P:W9)(t:r9):Bool:=match P.underlying t with
 |some (.struct _)|some (.array _ _)|none=>false
 |_=>true
theorem aF{b o:Nat}(a:jC P t=true)(h:w.cell? ⟨b,o,ν⟩=σ v):
  V P (u5 t (.pointer (σ ⟨b,o,ν⟩))) w K=K v:=V.of λw' e=>by
 have h':=iG e h;unfold jC at a;cases hu:P.underlying t with
 |none=>rw[hu]at a;cases a
 |some d=>
  rw[hu]at a;cases d<;>first|(cases a;done)|simp[u5,Instr.sureAddr,loadVar,isAgg,run_underlying hu,h']
theorem zA{d:TypeDesc}{b o k a:Nat}(hu:P.underlying t=σ d)(e:d.isRow=true)(hi:aP P t k a z)(f:cs.length=k)(h:w.rangeAt b o cs):V P (u5 t (.pointer (σ ⟨b,o,ν⟩))) w K=K (.agg cs.toArray):=V.of λw' j=>
 run_loadAt_mid (P:=P) w' b o t cs d (nu j h) hu e (by rw[hi.size,f])
theorem bF{pl:List (Nat×Nat)}{b o k a:Nat}(hu:bM P t pl)(hi:aP P t k a z)(e:cs.length=k)(h:w.rangeAt b o cs):V P (u5 t (.pointer (σ ⟨b,o,ν⟩))) w K=K (.agg cs.toArray):=by
 obtain⟨f,hu,_⟩:=hu;exact zA hu rfl hi e h
theorem aS{pl:List (Nat×Nat)}{i b o off z:Nat}(q:bM P t pl)(a:pl[i]?=σ (off,z+1)):
  V P (u6 t (.pointer (σ ⟨b,o,ν⟩)) i) w K=K (.pointer (σ ⟨b,o+off,ν⟩)):=V.of λw' _=>by
 obtain⟨r,hu,rfl⟩:=q;rw[v8]at a;cases e:r[i]? with
 |none=>rw[S7,e]at a;cases a
 |some f=>
  rw[S7,e]at a;simp only[Z7,X4,S1]at a;obtain⟨rfl,p⟩:=a;cases h:P.info? f.type with
  |none=>simp[h]at p
  |some j=>
   have I:j.size=z+1:=by simpa[h]using p
   simp[u6,run_underlying hu,e,Instr.sureAddr,fieldPlace,sizeOf,typeInfo,h,I,T4]
theorem zB{i:Int}{b o c z:Nat}{h:x3}{base:Option Addr}(hu:P.underlying t=σ (.slice e))(p:aP P e z f h)(q:0<=i)(hi:i<n)(a:0<n->base=σ ⟨b,o,ν⟩):
  V P (j5 t (.slice base n c) (.int k i)) w K=K (.pointer (σ ⟨b,o+i.toNat*z,ν⟩)):=V.of λw' _=>by
 have a:=a Ω;subst a;obtain⟨j,r,I,_⟩:=p;simp[j5,asIntOf,run_underlying hu,q,hi,sizeOf,typeInfo,r,I,T4]
theorem eL{i:Nat}{b o c z a:Nat}{f:x3}{base:Option Addr}(hu:P.underlying t=σ (.slice e))(h:aP P e z a f)(hi:i<n)(j:0<n->base=σ ⟨b,o,ν⟩):
  V P (j5 t (.slice base n c) (.int k (i:Int))) w K=K (.pointer (σ ⟨b,o+i*z,ν⟩)):=by
 rw[zB (i:=(i:Int)) hu h Ω Ω j];rfl
theorem I7{i:Int}{b o z a:Nat}{f:x3}(hu:P.underlying t=σ (.array n e))(h:aP P e z a f)(p:0<=i)(hi:i<n):
  V P (j5 t (.pointer (σ ⟨b,o,ν⟩)) (.int k i)) w K=K (.pointer (σ ⟨b,o+i.toNat*z,ν⟩)):=V.of λw' _=>by
 obtain⟨j,q,I,_⟩:=h;simp[j5,asIntOf,run_underlying hu,Instr.sureAddr,p,hi,sizeOf,typeInfo,q,I,T4]
theorem uZ{i:Nat}{b o z a:Nat}{f:x3}(hu:P.underlying t=σ (.array n e))(h:aP P e z a f)(hi:i<n):
  V P (j5 t (.pointer (σ ⟨b,o,ν⟩)) (.int k (i:Int))) w K=K (.pointer (σ ⟨b,o+i*z,ν⟩)):=by
 rw[I7 (i:=(i:Int)) hu h Ω Ω];rfl
def lS:Option x3->Nat->Prop
 |none,l=>l=0
 |some v,l=>∃k,v= .int k l
def lT:Option x3->Nat->Nat->Prop
 |none,n,h=>h=n
 |some v,_,h=>∃k,v= .int k h
def maxOf:Option x3->Option x3->Nat->Nat->Prop
 |none,_,c,m=>m=c
 |some v,σ _,_,m=>∃k,v= .int k m
 |some _,ν,_,_=>False
theorem p4{l:Nat}:lS (σ (.int k (l:Int))) l:=⟨_,rfl⟩
theorem nv(l:Nat)(x:Int)(h:x=(l:Int)):lS (σ (.int k x)) l:=⟨k,by rw[h]⟩
theorem nw(l:Nat)(x:Int)(h:x=(l:Int)):lT (σ (.int k x)) n l:=⟨k,by rw[h]⟩
theorem jD:lS ν 0:=rfl
theorem p5:lT (σ (.int k (h:Int))) n h:=⟨_,rfl⟩
theorem jE:lT ν n n:=rfl
theorem fE{h:Option x3}{c:Nat}:maxOf ν h c c:=by cases h<;>rfl
theorem r2(w:x4){sl:Bool}{c l m:Nat}{low high mx:Option x3}(h1:lS low l)(e:lT high n h)(a:maxOf mx high c m)(f:l<=h)(ap:h<=m)(hm:m<=c):
  (Instr.sliceBounds sl n c low high mx).run P w= .ok (l,h,m) w:=by
 cases low<;>cases high<;>cases mx<;>simp only[lS,lT,maxOf]at h1 e a<;>(try exact a.elim)<;>(try obtain⟨j,rfl⟩:=h1)<;>(try obtain⟨p,rfl⟩:=e)<;>(try obtain⟨q,rfl⟩:=a)<;>(try subst h1)<;>(try subst e)<;>(try subst a) <;>
  simp[Instr.sliceBounds,Instr.sliceBound,asIntOf,f,ap,hm]
theorem hR{c z a l m:Nat}{f:x3}{base:Option Addr}{low high mx:Option x3}(hu:P.underlying t=σ (.slice e))(p:aP P e z a f)(h1:lS low l)(q:lT high n h)(r:maxOf mx high c m)(s:l<=h)(ap:h<=m)(hm:m<=c):
  V P (V8 t (.slice base n c) low high mx) w K=K (.slice (if m=l then base else base.map (·.add (l*z))) (h-l) (m-l)):=V.of λw' _=>by
 obtain⟨j,x,I,_⟩:=p;simp[V8,Instr.slice,run_underlying hu,r2 w' h1 q r s ap hm,sizeOf,typeInfo,x,I]
theorem r3{z a l m b o:Nat}{f:x3}{low high mx:Option x3}(hu:P.underlying t=σ (.array n e))(p:aP P e z a f)(h1:lS low l)(q:lT high n h)(r:maxOf mx high n m)(s:l<=h)(ap:h<=m)(hm:m<=n):
  V P (V8 t (.pointer (σ ⟨b,o,ν⟩)) low high mx) w K=K (.slice (σ (if m=l then⟨b,o,ν⟩else⟨b,o+l*z,ν⟩)) (h-l) (m-l)):=V.of λw' _=>by
 obtain⟨j,x,I,_⟩:=p;simp[V8,Instr.sureAddr,run_underlying hu,r2 w' h1 q r s ap hm,sizeOf,typeInfo,x,I,T4]
theorem dn{parts:Array (Nat×x3)}{cs:Array x3}(h:P.built t parts.toList=σ cs):V P (Instr.build t parts) w K=K (.agg cs):=V.of λw' _=>
 run_build (P:=P) w' t parts cs h
end
theorem cc.part{k c l m:Nat}{base:Option Addr}(I:cc w k (.slice base n c) n cs)(q:l<=h)(ap:h<=n)(hm:h<=m)(r:m<=c):
  cc w k (.slice (if m=l then base else base.map (·.add (l*k))) (h-l) (m-l)) (h-l) ((cs.drop (l*k)).take ((h-l)*k)):=by
 obtain⟨h1,b,o,s,cap,he,x,y,e,f⟩:=I;cases he;have z:h*k<=n*k:=W0 _ ap;have A:l*k+(h-l)*k=h*k:=by rw[<-U7];congr 1;omega
 refine⟨by simp[h1];omega,b,o+l*k,_,m-l,rfl,Ω,Ω,λB=>?_,λj v a=>?_⟩
 .rw[e Ω,if_neg Ω];simp[T4]
 .have p:=(x5.1 a).1;simp at p;rw[Y0 Ω,S2]at a;rw[R3];exact f _ _ a
section
variable{P:W9}{w:x4}
structure jf(g:Nat)(w w':x4):Prop where
 os:w'.os=w.os
 tape:jv w w'
 output:w'.output=w.output
 size:w'.heap.size=w.heap.size
 aU:∀r,r≠g->w'.heap[r]?=w.heap[r]?
theorem jf.refl(g:Nat)(w:x4):jf g w w:=⟨rfl,.kb,rfl,rfl,λ_ _=>rfl⟩
theorem jf.trans{g:Nat}{a b:x4}(h:jf g a b)(k:jf g b c):jf g a c:=
 ⟨k.os.trans h.os,k.tape.trans h.tape,k.output.trans h.output,k.size.trans h.size,λr e=>(k.aU r e).trans (h.aU r e)⟩
theorem jf.aa{g:Nat}{w:x4}(h:jf g w w'):ae (λr=>r=g) w w':=⟨Nat.le_of_eq h.size.symm,λr o a _ e=>by rw[h.aU r e];exact a⟩
theorem jf.cu{g:Nat}{w:x4}(h:jf g w w')(f:ad w g e cs):cJ w w':=
 ⟨h.os,h.tape,h.output,Nat.le_of_eq h.size.symm,λr o a I=>by
  by_cases j:r=g
  .subst j;unfold ad at f;rw[f]at a;cases a;simp[fx]at I
  .rw[h.aU r j];exact a⟩
theorem zC{g:Nat}(h:ad w g e cs)(o:Nat)(v:x3):ad (w.setCell ⟨g,o,ν⟩ v) g e (cs.set o v)/\jf g w (w.setCell ⟨g,o,ν⟩ v):=by
 unfold ad at h;refine⟨?_,rfl,.kb,rfl,by simp[x4.setCell],λr a=>?_⟩
 .simp[ad,x4.setCell,Array.getElem?_modify,h]
 .simp[x4.setCell,Array.getElem?_modify,S6 a]
def over(cs:List x3):Nat->List x3->List x3
 |_,[]=>cs
 |o,v::r=>over (cs.set o v) (o+1) r
theorem lU:∀(vs cs:List x3)(o:Nat),(over cs o vs).length=cs.length
 |[],_,_=>rfl
 |v::r,cs,o=>by simp[over,lU r]
theorem nx:∀(vs cs:List x3)(o:Nat),o+vs.length<=cs.length->∀j,(over cs o vs)[j]?=if o<=j/\j<o+vs.length then vs[j-o]? else cs[j]?
 |[],cs,o,_,j=>by simp[over];intro h1 a;omega
 |v::r,cs,o,h,j=>by
  simp only[Z5]at h;rw[over,nx r (cs.set o v) (o+1) Θ j];simp only[Z5];by_cases h1:o+1<=j/\j<o+1+r.length
  .rw[if_pos h1,if_pos Ω];rw[show j-o=(j-(o+1))+1 by omega,List.getElem?_cons_succ]
  .rw[if_neg h1];by_cases a:j=o
   .subst a;rw[if_pos Ω,c9 Ω];simp
   .rw[if_neg Ω,Y5 (S6 a)]
theorem mv{o:Nat}(h:o+vs.length<=cs.length):over cs o vs=cs.take o++vs++cs.drop (o+vs.length):=by
 apply Y7;intro j;rw[nx vs cs o h];by_cases h1:j<o
 .rw[if_neg Ω,Y1 Θ,Y1 Θ,Y0 h1]
 .by_cases a:j<o+vs.length
  .rw[if_pos Ω,Y1 Θ,Y3 Θ];congr 1;simp;omega
  .rw[if_neg Ω,Y3 Θ,S2];congr 1;simp;omega
theorem ny{g:Nat}{e:r9}:∀(vs:List x3)(cs:List x3)(o:Nat)(w:x4),ad w g e cs->ad (w.setCells g o vs) g e (over cs o vs)/\jf g w (w.setCells g o vs)
 |[],cs,o,w,h=>⟨h,jf.refl _ _⟩
 |v::r,cs,o,w,h=>by
  obtain⟨h1,a⟩:=zC h o v;obtain⟨f,j⟩:=ny r (cs.set o v) (o+1) _ h1;exact⟨f,a.trans j⟩
theorem r4(w:x4)(c:List x3)(e:r9):ad (w.alloc (.cells c.toArray e)) w.heap.size e c/\Ext w (w.alloc (.cells c.toArray e))/\cJ w (w.alloc (.cells c.toArray e)):=
 ⟨heap_alloc_new w _,pH w _,pI w _⟩
theorem bw{k a:Nat}{K:x3->x4->Prop}(hi:aP P t k a z)(h:∀g w',g=w.heap.size->Ext w w'->ad w' g t z.cells.toList->K (Γ g) w'):aC P (Instr.alloc t true (.tuple #[])) w K:=by
 obtain⟨i,hi,_,_,e⟩:=hi;obtain⟨h1,f,j⟩:=r4 w z.cells.toList t;refine .of ?_ j (h _ _ rfl f h1);simp[Instr.alloc,zeroValue,typeInfo,hi,e,newVar,newRow]
theorem bk{K:x3->x4->Prop}(h:∀g w',g=w.heap.size->Ext w w'->ad w' g t v.cells.toList->K (Γ g) w'):aC P (Instr.box t v) w K:=by
 obtain⟨h1,a,e⟩:=r4 w v.cells.toList t;refine .of ?_ e (h _ _ rfl a h1);simp[Instr.box,newVar,newRow]
def dT(z:Array x3)(n:Nat):List x3:=((Array.range n).map (z[·% z.size]!)).toList
theorem oO(z:Array x3)(n:Nat):(dT z n).length=n:=by simp[dT]
theorem jF{k q:Nat}{parts:Array (Nat×x3)}{cs:Array x3}{K:x3->x4->Prop}(p:P.underlying t=σ (.slice e))(hi:aP P e k q z)(A:n*k<=2 ^ 24)(a:Instr.fill (λj=>σ (j*k,k)) ((Array.range (n*k)).map ((if n*k=0 then#[]else z.cells)[·% (if n*k=0 then#[]else z.cells).size]!)) parts.toList=σ cs)(h:∀g w',g=w.heap.size->Ext w w'->ad w' g e cs.toList->K (.slice (σ ⟨g,0,ν⟩) n n) w'):aC P (Y8 t n parts) w K:=by
 obtain⟨i,hi,rfl,_,r⟩:=hi;obtain⟨h1,s,x⟩:=r4 w cs.toList e;refine .of ?_ x (h _ _ rfl s h1);have y:¬(16777216<n*i.size):=Ω
 by_cases f:n*i.size=0
 .simp only[f,if_true]at a;simp[Y8,run_underlying p,sizeOf,typeInfo,hi,f,newRow];simp at a;simp[a]
 .simp only[f,if_false]at a;simp[Y8,run_underlying p,sizeOf,typeInfo,hi,y,f,newRow,zeroValue,r,a]
theorem bq{g o:Nat}{K:Unit->x4->Prop}(hi:aP P t 1 j z)(h1:v.cells= #[v])(p:v.oneCell'=true)(a:ad w g e cs)(q:o<cs.length)(h:∀w',ae (λr=>r=g) w w'->w'.heap.size=w.heap.size->ad w' g e (cs.set o v)->K () w'):aC P (o8 t (.pointer (σ ⟨g,o,ν⟩)) v) w K:=by
 obtain⟨i,hi,I,_⟩:=hi;obtain⟨s,f⟩:=zC a o v;refine .of (w':=w.setCell ⟨g,o,ν⟩ v) ?_ (f.cu a) (h _ f.aa f.size s);have x:=a.cell (x7 q);have y:(⟨g,o,ν⟩:Addr).add 0=⟨g,o,ν⟩:=rfl;simp[o8,Instr.sureAddr,storeVar,sizeOf,typeInfo,hi,I,h1,storeCells,y,run_store P w _ v _ p,x,a.frozen]
theorem zD{k p g o:Nat}{K:Unit->x4->Prop}(hi:aP P t k p z)(q:vs.length=k)(s:∀v∈vs,v.oneCell'=true)(a:ad w g e cs)(A:o+vs.length<=cs.length)(h:∀w',ae (λr=>r=g) w w'->w'.heap.size=w.heap.size->ad w' g e (over cs o vs)->K () w'):aC P (o8 t (.pointer (σ ⟨g,o,ν⟩)) (.agg vs.toArray)) w K:=by
 obtain⟨x,f⟩:=ny vs cs o w a;refine .of (w':=w.setCells g o vs) ?_ (f.cu a) (h _ f.aa f.size x);exact run_storeAt_mid (P:=P) w g o t vs.toArray (λj y=>⟨by rw[a.cell (x7 (show o+j<cs.length by simp at y;omega))];rfl,a.frozen _ _⟩) (by rw[hi.size];simp[q]) (by simpa using s)
def bW(w:x4)(g:Nat)(e:r9)(k:Nat)(v:x3)(n:Nat)(xs:List x3):Prop:=
 xs.length=n*k/\((v= .slice ν 0 0/\n=0)\/∃cap cs,v= .slice (σ ⟨g,0,ν⟩) n cap/\ad w g e cs/\n<=cap/\cap<=maxLen/\cs.length=cap*k/\cs.take (n*k)=xs)
theorem bW.nil(w:x4)(g:Nat)(e:r9)(k:Nat):bW w g e k (.slice ν 0 0) 0 []:=⟨Ξ,.inl ⟨rfl,rfl⟩⟩
theorem bW.full{g:Nat}{k:Nat}(h:ad w g e cs)(a:cs.length=n*k)(f:n<=maxLen):bW w g e k (.slice (σ ⟨g,0,ν⟩) n n) n cs:=
 ⟨a,.inr ⟨n,cs,rfl,h,o5 _,f,a,by rw[<-a,o6]⟩⟩
theorem bW.aa{g:Nat}{k:Nat}(h:bW w g e k v n xs)(f:ae S w w')(j:g<w.heap.size->¬S g):bW w' g e k v n xs:=
 ⟨h.1,h.2.imp id λ⟨cap,cs,h1,a,p⟩=>⟨cap,cs,h1,a.aa f (j a.lt),p⟩⟩
theorem bW.ext{g:Nat}{k:Nat}(h:bW w g e k v n xs)(a:Ext w w'):bW w' g e k v n xs:=h.aa (a.aa λ_=>False) (λ_ h=>h)
theorem bW.sl{g:Nat}{k:Nat}(h:bW w g e k v n xs):cc w k v n xs:=by
 obtain⟨h1,⟨rfl,rfl⟩|⟨cap,cs,rfl,f,p,q,s,r⟩⟩:=h
 .have:xs=[]:=b9 (by simpa using h1);subst this;exact cc.nil w k
 .refine⟨h1,g,0,_,cap,rfl,p,q,λ_=>rfl,λj v a=>?_⟩;rw[X3];have x:=(x5.1 a).1;rw[<-r,Y0 Ω]at a;exact f.cell a
theorem cc.src{k:Nat}{x:x3}{m:Nat}{a:List x3}{f h:r9}(I:cc w k x m a)(hk:P.underlying f=σ (.slice h))(h1:∀u∈a,u.oneCell'=true)(p:0<m):Src P k f x m a w:=by
 obtain⟨q,b,o,base,cap,rfl,_,_,e,r⟩:=I;have e:=e p;subst e;exact Src.ofSlice w hk ⟨b,o,ν⟩ m cap a q (λj u hu=>by rw[T4];exact r j u hu) h1
theorem cc.I8{k:Nat}{x:x3}{f:List x3}{h:r9}(I:cc w k x 0 f)(hk:P.underlying e=σ (.slice h)):Src P k e x 0 [] w:=by
 obtain⟨j,b,o,base,cap,rfl,_,_,p,q⟩:=I;cases base with
 |none=>exact Src.ofNil w hk cap
 |some a=>exact Src.ofSlice w hk a 0 cap [] Ξ Ξ Ξ
theorem zE{p s M W:r9}{k g m:Nat}{x:x3}{a:List x3}{K:x3->x4->Prop}(B:P.underlying t=σ (.slice e))(C:P.underlying p=σ (.slice W))(hi:aP P e k N z)(X:z.cells.size=k)(O:bW w g M k v n xs)(I:cc w k x m a)(h1:∀u∈a,u.oneCell'=true)(Y:(n+m)*N<=140737488355328)(Q:n+m<=maxLen)(h:∀E F w' G,(F=g/\G=M/\(v=E\/g<w.heap.size/\v≠ .slice ν 0 0)\/F=w.heap.size/\G=e)->bW w' F G k E (n+m) (xs++a)->ae (λr=>r=g/\v≠ .slice ν 0 0) w w'->K E w'):
  aC P (Z3 #[t,p] s #[v,x]) w K:=by
 obtain⟨i,hi,rfl,rfl,Z⟩:=hi;have ab:=O.sl;obtain⟨f,H⟩:=O;have q:=I.1;have grow:∀(base:Option Addr)(cap:Nat),v= .slice base n cap->cap<n+m->0<m->(Z4.firstCells i.size n (.slice base n cap)).run P w.drew= .ok xs.toArray w.drew->aC P (Z3 #[t,p] s #[v,x]) w K:=by
  rintro base cap rfl R hm ac;have y:=run_append_grow_src (P:=P) w t p s e i z B hi Z base n cap xs ac x m a (I.src C h1 hm) R (by simp only[maxLen]at Q;omega) (growslice_fits R Y);have ad:n+m<=grownCap w (n+m) cap e:=grownCap_ge w _ _ _;have J:grownCap w (n+m) cap e<=maxLen:=grownCap_le_maxLen w (n+m) cap e Q;have af:Ext w (w.drew.alloc (.cells ((xs++a).toArray++Z4.zeroCells z.cells (grownCap w (n+m) cap e-(n+m))) e)):=(rm w _).trans (pH _ _);refine .of y ((pG w _ (Nat.le_succ _)).trans (pI _ _)) (h _ w.heap.size _ _ (.inr ⟨rfl,rfl⟩) ⟨by simp[f,q,U7],.inr ⟨_,((xs++a).toArray++Z4.zeroCells z.cells (grownCap w (n+m) cap e-(n+m))).toList,rfl,?_,ad,J,?_,?_⟩⟩ (af.aa _))
  .show _=_;rw[Array.toArray_toList];exact heap_alloc_new w.drew _
  .simp[f,q,size_zeroCells,X,<-U7];congr 1;omega
  .rw[Array.toList_append,List.toList_toArray,U7,<-f,<-q,<-o7];exact List.take_left
 rcases Q2 m with rfl|hm
 .have ag:a=[]:=b9 (by simpa using q);subst ag;have ah:=I.I8 C;have S:∀base cap,v= .slice base n cap->n<=cap->aC P (Z3 #[t,p] s #[v,x]) w K:=by
   rintro base cap rfl J;refine .of (run_append_nothing (P:=P) w t p s e i B hi base n cap J x ah) (cJ.refl _) (h _ g _ _ (.inl ⟨rfl,rfl,.inl rfl⟩) ?_ (ae.refl _ _));rw[Nat.add_zero,U9];exact⟨f,H⟩
  obtain⟨rfl,rfl⟩|⟨cap,cs,rfl,_,T,_⟩:=H
  .exact S _ _ rfl (o5 _)
  .exact S _ _ rfl T
 .obtain⟨rfl,rfl⟩|⟨cap,cs,rfl,A,T,ai,U,aj⟩:=H
  .have ak:xs=[]:=b9 (by simpa using f);subst ak;exact grow ν 0 rfl Ω hm (run_firstCells_none w.drew i.size 0 0 0)
  .by_cases L:n+m<=cap
   .have al:n*i.size+a.length<=cs.length:=by rw[q,U,<-U7];exact W0 _ L
    have y:=run_append_room_src (P:=P) w t p s e i B hi g 0 n cap x m a (I.src C h1 hm) L
     (λj aq=>by rw[A.cell (x7 (show 0+n*i.size+j<cs.length by omega))];rfl) (λj _=>A.frozen _ _)
    obtain⟨am,V⟩:=ny a cs (n*i.size) w A;rw[X3]at y;refine .of y (V.cu A) (h _ g _ _ (.inl ⟨rfl,rfl,.inr ⟨A.lt,Ξ⟩⟩) ⟨by simp[f,q,U7],.inr ⟨cap,_,rfl,am,L,ai,by rw[lU,U],?_⟩⟩ (V.aa.mono λr _ h=>⟨h,Ξ⟩));rw[mv al,aj,U7,<-f,<-q,<-o7];exact List.take_left
   .refine grow _ cap rfl Ω hm (run_firstCells_some w.drew i.size n _ n cap xs f λj u hu=>?_);rw[T4];obtain⟨_,b,o,base,au,he,_,_,an,y⟩:=ab;cases he;have ao:0<n:=by
     rcases Q2 n with rfl|ap
     .simp at f;subst f;simp at hu
     .exact ap
    have:=an ao;cases this;simpa using y j u hu
theorem nz{p y A:r9}{k q g m:Nat}{x:x3}{j:List x3}{K:x3->x4->Prop}(B:P.underlying t=σ (.slice e))(C:P.underlying p=σ (.slice A))(hi:aP P e k q z)(E:z.cells.size=k)(F:bW w g e k v n xs)(I:cc w k x m j)(h1:∀u∈j,u.oneCell'=true)(G:(n+m)*q<=140737488355328)(H:n+m<=maxLen)(h:∀f a w',(a=g\/w.heap.size<=a)->bW w' a e k f (n+m) (xs++j)->ae (λr=>r=g) w w'->K f w'):
  aC P (Z3 #[t,p] y #[v,x]) w K:=
 zE B C hi E F I h1 G H λf a w' L s hm J=>by
  refine h f a w' (s.imp And.left λh=>Nat.le_of_eq h.1.symm) ?_ (J.mono λr _ h=>h.1);obtain⟨_,rfl,_⟩|⟨_,rfl⟩:=s<;>exact hm
theorem zF{f q s:r9}{J g o ht y:Nat}{x:x3}{base:Option Addr}{C:r9}{K:x3->x4->Prop}(E:P.underlying f=σ (.slice e))(hi:aP P e 1 J z)(a:ad w g C cs)(L:0<ht->base=σ ⟨g,o,ν⟩)(V:o+ht<=cs.length)(I:cc w 1 x n xs)(h1:∀u∈xs,u.oneCell'=true)(h:∀w',ae (λr=>r=g) w w'->w'.heap.size=w.heap.size->ad w' g C (over cs o (xs.take ht))->K (Δ (min n ht:Nat)) w'):
  aC P (Z4.copy_ #[f,q] s #[.slice base ht y,x]) w K:=by
 obtain⟨A,b,o',M,cap,rfl,_,_,N,O⟩:=I;simp only[U2]at A;have F:(P.info? e).map (·.size)=σ 1:=hi.size;by_cases p:Nat.min n ht=0
 .have he:xs.take ht=[]:=b9 (by rw[n9,A];rw[Nat.min_comm];exact p);rw[he]at h;refine .of (run_copy_none (P:=P) w f q s e base M ht y n cap E F p) (cJ.refl _) ?_;have G:min n ht=0:=p;rw[G]at h;exact h w (ae.refl _ _) rfl a
 .have G:min n ht≠0:=p;have Q:=N Ω;have R:=L Ω;subst Q;subst R;have H:(xs.take ht).length=min n ht:=by rw[n9,A,Nat.min_comm]
  obtain⟨S,B⟩:=ny (xs.take ht) cs o w a;have T:=run_copy_cells (P:=P) w f q s e g o ht y ⟨b,o',ν⟩ n cap (xs.take ht) E F H
   (λj u hu=>by
    rw[T4];have U:=(x5.1 hu).1;rw[Y0 Ω]at hu;exact O j u hu)
   (λj U=>by rw[a.cell (x7 (show o+j<cs.length by omega))];rfl) (λj _=>a.frozen _ _) (λu hu=>h1 u (T9 hu))
  refine .of T (B.cu a) ?_;rw[H];exact h _ B.aa B.size S
theorem ai.mono{f:R6}{K e:x3->x4->Prop}(h:ai P f args w K)(j:∀v w',cJ w w'->K v w'->e v w'):ai P f args w e:=by
 cases h with
 |code h1 a=>exact .code h1 (a.mono λ_ w' ⟨v,h1,p,a⟩=>⟨v,h1,p,j v w' p a⟩)
 |ext v w' h1 a q=>exact .ext v w' h1 a (j v w' a q)
theorem gI.mono{f:R6}{K e:x3->x4->Prop}(h:gI P f args w K)(j:∀v w',K v w'->e v w'):gI P f args w e:=by
 cases h with
 |code h1 a=>exact .code h1 (a.mono λ_ w' ⟨v,h1,a⟩=>⟨v,h1,j v w' a⟩)
 |ext v w' h1 p=>exact .ext v w' h1 (j v w' p)
end
end Go.Vc
namespace Go.Proofs.YtikkpokkcdocoaaGreatDoor
open Go Go.Vc Go.RowKit Go.Proofs Go.Proofs.Tryz
set_option maxRecDepth 100000
theorem ao.u:x8.underlying ao=σ (.int .i64):=Ψ
theorem ao.i:aP x8 ao 1 8 (Δ 0):=aP.of Ψ
theorem ag.u:x8.underlying ag=σ (.int .i64):=Ψ
theorem ag.i:aP x8 ag 1 8 (Δ 0):=aP.of Ψ
theorem eb.i:aP x8 eb 1 1 (.bool false):=aP.of Ψ
theorem cH.u:x8.underlying cH=σ (.int .u8):=Ψ
theorem cH.i:aP x8 cH 1 1 (.int .u8 0):=aP.of Ψ
theorem c5.u:x8.underlying c5=σ .string:=Ψ
theorem c5.i:aP x8 c5 1 16 (.string ⟨#[]⟩):=aP.of Ψ
theorem cL.u:x8.underlying cL=σ (.slice cH):=Ψ
theorem nq.u:x8.underlying nq=σ (.slice c6):=Ψ
theorem eh.u:x8.underlying eh=σ (.pointer cG):=Ψ
theorem an.u:x8.underlying an=σ (.slice ag):=Ψ
theorem an.i:aP x8 an 1 24 (.slice ν 0 0):=aP.of Ψ
theorem b2.u:x8.underlying b2=σ (.slice an):=Ψ
theorem b2.i:aP x8 b2 1 24 (.slice ν 0 0):=aP.of Ψ
theorem hM.u:x8.underlying hM=σ (.slice eb):=Ψ
theorem hM.i:aP x8 hM 1 24 (.slice ν 0 0):=aP.of Ψ
theorem cP.u:x8.underlying cP=σ (.slice au):=Ψ
theorem cP.i:aP x8 cP 1 24 (.slice ν 0 0):=aP.of Ψ
theorem dm.u:x8.underlying dm=σ (.slice cU):=Ψ
theorem dm.i:aP x8 dm 1 24 (.slice ν 0 0):=aP.of Ψ
theorem nr.u:x8.underlying nr=σ (.slice p0):=Ψ
theorem nr.i:aP x8 nr 1 24 (.slice ν 0 0):=aP.of Ψ
theorem aA.p:bM x8 aA [(0,1),(1,1),(2,1),(3,1),(4,1),(5,1),(6,1),(7,1)]:=bM.of Ψ
theorem aA.i:aP x8 aA 8 160 (.agg #[(Δ 0),(.slice ν 0 0),(Δ 0),(.slice ν 0 0),(.slice ν 0 0),(.slice ν 0 0),(.slice ν 0 0),(.slice ν 0 0)]):=aP.of Ψ
theorem jA.i:aP x8 jA 1 8 (Δ 0):=aP.of Ψ
theorem ns.u:x8.underlying ns=σ (.slice eY):=Ψ
theorem au.u:x8.underlying au=σ (.slice ao):=Ψ
theorem au.i:aP x8 au 1 24 (.slice ν 0 0):=aP.of Ψ
theorem fA.u:x8.underlying fA=σ (.int .u64):=Ψ
theorem fA.i:aP x8 fA 1 8 (.int .u64 0):=aP.of Ψ
theorem b4.p:bM x8 b4 [(0,1),(1,1)]:=bM.of Ψ
theorem b4.i:aP x8 b4 2 16 (.agg #[(.int .u64 0),(Δ 0)]):=aP.of Ψ
theorem c6.p:bM x8 c6 [(0,1),(1,1),(2,1),(3,1),(4,1)]:=bM.of Ψ
theorem c6.i:aP x8 c6 5 40 (.agg #[(.int .u8 0),(Δ 0),(Δ 0),(Δ 0),(Δ 0)]):=aP.of Ψ
theorem aX.p:bM x8 aX [(0,1),(1,1),(2,1)]:=bM.of Ψ
theorem aX.i:aP x8 aX 3 72 (.agg #[(.slice ν 0 0),(.slice ν 0 0),(.slice ν 0 0)]):=aP.of Ψ
theorem cU.p:bM x8 cU [(0,3),(3,1)]:=bM.of Ψ
theorem cU.i:aP x8 cU 4 80 (.agg #[(.slice ν 0 0),(.slice ν 0 0),(.slice ν 0 0),(.bool false)]):=aP.of Ψ
theorem mr.u:x8.underlying mr=σ (.pointer fC):=Ψ
theorem pY.u:x8.underlying pY=σ (.pointer fB):=Ψ
theorem fS.u:x8.underlying fS=σ (.slice fT):=Ψ
theorem fS.i:aP x8 fS 1 24 (.slice ν 0 0):=aP.of Ψ
theorem cG.p:bM x8 cG [(0,1),(1,1),(2,1),(3,1),(4,1)]:=bM.of Ψ
theorem eY.p:bM x8 eY [(0,1),(1,1),(2,1)]:=bM.of Ψ
theorem eY.i:aP x8 eY 3 56 (.agg #[(Δ 0),(.slice ν 0 0),(.slice ν 0 0)]):=aP.of Ψ
theorem oK.i:aP x8 oK 1 8 .nilFunc:=aP.of Ψ
theorem bE.p:bM x8 bE [(0,1)]:=bM.of Ψ
theorem bE.i:aP x8 bE 1 24 (.agg #[(.slice ν 0 0)]):=aP.of Ψ
theorem fT.p:bM x8 fT [(0,1),(1,1),(2,1)]:=bM.of Ψ
theorem fT.i:aP x8 fT 3 56 (.agg #[(.slice ν 0 0),(.slice ν 0 0),(Δ 0)]):=aP.of Ψ
theorem uV.u:x8.underlying uV=σ (.pointer cC):=Ψ
theorem uW.u:x8.underlying uW=σ (.pointer dJ):=Ψ
theorem cV.u:x8.underlying cV=σ (.slice aX):=Ψ
theorem cV.i:aP x8 cV 1 24 (.slice ν 0 0):=aP.of Ψ
theorem dI.p:bM x8 dI [(0,1),(1,1),(2,1),(3,1),(4,1)]:=bM.of Ψ
theorem dI.i:aP x8 dI 5 88 (.agg #[(Δ 0),(.slice ν 0 0),(Δ 0),(.slice ν 0 0),(.slice ν 0 0)]):=aP.of Ψ
theorem eK.p:bM x8 eK [(0,1),(1,1)]:=bM.of Ψ
theorem eK.i:aP x8 eK 2 16 (.agg #[(Δ 0),(.int .u64 0)]):=aP.of Ψ
theorem ic.u:x8.underlying ic=σ (.slice eK):=Ψ
theorem ic.i:aP x8 ic 1 24 (.slice ν 0 0):=aP.of Ψ
theorem nt.u:x8.underlying nt=σ (.slice kQ):=Ψ
theorem nt.i:aP x8 nt 1 24 (.slice ν 0 0):=aP.of Ψ
theorem rX.u:x8.underlying rX=σ (.slice gl):=Ψ
theorem fB.p:bM x8 fB [(0,1),(1,1),(2,1),(3,1)]:=bM.of Ψ
theorem gl.p:bM x8 gl [(0,1),(1,1),(2,1)]:=bM.of Ψ
theorem gl.i:aP x8 gl 3 24 (.agg #[(Δ 0),(Δ 0),(.int .u64 0)]):=aP.of Ψ
theorem kQ.i:aP x8 kQ 3 24 (.agg #[(Δ 0),(Δ 0),(.int .u64 0)]):=aP.of Ψ
theorem rY.u:x8.underlying rY=σ (.pointer hN):=Ψ
theorem e5.p:bM x8 e5 [(0,1),(1,1),(2,1),(3,1)]:=bM.of Ψ
theorem hr.u:x8.underlying hr=σ (.slice jB):=Ψ
theorem hr.i:aP x8 hr 1 24 (.slice ν 0 0):=aP.of Ψ
theorem ci.p:bM x8 ci [(0,1),(1,4),(5,1),(6,1)]:=bM.of Ψ
theorem jd.u:x8.underlying jd=σ (.slice b6):=Ψ
theorem iD.u:x8.underlying iD=σ (.slice ej):=Ψ
theorem iD.i:aP x8 iD 1 24 (.slice ν 0 0):=aP.of Ψ
theorem b6.p:bM x8 b6 [(0,1),(1,1),(2,1),(3,1)]:=bM.of Ψ
theorem b6.i:aP x8 b6 4 80 (.agg #[(.slice ν 0 0),(.slice ν 0 0),(Δ 0),(.slice ν 0 0)]):=aP.of Ψ
theorem dN.u:x8.underlying dN=σ (.slice cD):=Ψ
theorem dN.i:aP x8 dN 1 24 (.slice ν 0 0):=aP.of Ψ
theorem cC.p:bM x8 cC [(0,1),(1,1),(2,1),(3,1)]:=bM.of Ψ
theorem eZ.u:x8.underlying eZ=σ (.pointer fD):=Ψ
theorem eZ.i:aP x8 eZ 1 8 (.pointer ν):=aP.of Ψ
theorem cD.p:bM x8 cD [(0,1),(1,1)]:=bM.of Ψ
theorem cD.i:aP x8 cD 2 32 (.agg #[(.slice ν 0 0),(.pointer ν)]):=aP.of Ψ
theorem fm.u:x8.underlying fm=σ (.slice cr):=Ψ
theorem fm.i:aP x8 fm 1 24 (.slice ν 0 0):=aP.of Ψ
theorem dC.u:x8.underlying dC=σ (.slice a6):=Ψ
theorem dC.i:aP x8 dC 1 24 (.slice ν 0 0):=aP.of Ψ
theorem bC.p:bM x8 bC [(0,1),(1,1),(2,1),(3,1),(4,1),(5,1),(6,1),(7,1),(8,1)]:=bM.of Ψ
theorem dJ.p:bM x8 dJ [(0,1),(1,1),(2,1),(3,1)]:=bM.of Ψ
theorem cr.p:bM x8 cr [(0,1),(1,1)]:=bM.of Ψ
theorem cr.i:aP x8 cr 2 24 (.agg #[(.string ⟨#[]⟩),(Δ 0)]):=aP.of Ψ
theorem ei.u:x8.underlying ei=σ (.slice ch):=Ψ
theorem ei.i:aP x8 ei 1 24 (.slice ν 0 0):=aP.of Ψ
theorem a6.p:bM x8 a6 [(0,1),(1,1),(2,1),(3,1)]:=bM.of Ψ
theorem a6.i:aP x8 a6 4 80 (.agg #[(.slice ν 0 0),(.slice ν 0 0),(Δ 0),(.slice ν 0 0)]):=aP.of Ψ
theorem kR.u:x8.underlying kR=σ (.slice hs):=Ψ
theorem kR.i:aP x8 kR 1 24 (.slice ν 0 0):=aP.of Ψ
theorem fC.p:bM x8 fC [(0,1),(1,1),(2,1),(3,1)]:=bM.of Ψ
theorem e0.u:x8.underlying e0=σ (.pointer cX):=Ψ
theorem e0.i:aP x8 e0 1 8 (.pointer ν):=aP.of Ψ
theorem hs.p:bM x8 hs [(0,1),(1,1)]:=bM.of Ψ
theorem hs.i:aP x8 hs 2 32 (.agg #[(.slice ν 0 0),(.pointer ν)]):=aP.of Ψ
theorem oL.u:x8.underlying oL=σ (.int .u64):=Ψ
theorem pZ.p:bM x8 pZ [(0,1),(1,1)]:=bM.of Ψ
theorem hN.p:bM x8 hN [(0,1),(1,1),(2,1)]:=bM.of Ψ
theorem jB.p:bM x8 jB [(0,1),(1,1)]:=bM.of Ψ
theorem jB.i:aP x8 jB 2 48 (.agg #[(.slice ν 0 0),(.slice ν 0 0)]):=aP.of Ψ
theorem ej.p:bM x8 ej [(0,1),(1,1)]:=bM.of Ψ
theorem ej.i:aP x8 ej 2 32 (.agg #[(.slice ν 0 0),(Δ 0)]):=aP.of Ψ
theorem ch.p:bM x8 ch [(0,1),(1,1)]:=bM.of Ψ
theorem ch.i:aP x8 ch 2 32 (.agg #[(.slice ν 0 0),(Δ 0)]):=aP.of Ψ
theorem gm.u:x8.underlying gm=σ (.slice cW):=Ψ
theorem cW.p:bM x8 cW [(0,1),(1,1)]:=bM.of Ψ
theorem cW.i:aP x8 cW 2 32 (.agg #[(.slice ν 0 0),(.pointer ν)]):=aP.of Ψ
theorem iE.u:x8.underlying iE=σ (.map cE ao):=Ψ
theorem fD.p:bM x8 fD [(0,1),(1,1),(2,1),(3,1)]:=bM.of Ψ
theorem oM.u:x8.underlying oM=σ (.slice gn):=Ψ
theorem gn.p:bM x8 gn [(0,1),(1,1)]:=bM.of Ψ
theorem gn.i:aP x8 gn 2 32 (.agg #[(.slice ν 0 0),(Δ 0)]):=aP.of Ψ
theorem cX.p:bM x8 cX [(0,1),(1,1),(2,1)]:=bM.of Ψ
theorem rZ.u:x8.underlying rZ=σ (.array 64 cH):=Ψ
theorem gW.u:x8.underlying gW=σ (.map c5 ag):=Ψ
theorem fU.u:x8.underlying fU=σ (.int .i8):=Ψ
theorem fU.i:aP x8 fU 1 1 (.int .i8 0):=aP.of Ψ
theorem cE.u:x8.underlying cE=σ (.array 6 fU):=Ψ
theorem cE.i:aP x8 cE 6 6 (.agg #[(.int .i8 0),(.int .i8 0),(.int .i8 0),(.int .i8 0),(.int .i8 0),(.int .i8 0)]):=aP.of Ψ
theorem kS.u:x8.underlying kS=σ (.slice fU):=Ψ
theorem je.u:x8.underlying je=σ (.slice cE):=Ψ
theorem je.i:aP x8 je 1 24 (.slice ν 0 0):=aP.of Ψ
theorem oN.u:x8.underlying oN=σ (.int .u32):=Ψ
theorem lQ.u:x8.underlying lQ=σ (.map ao ag):=Ψ
theorem mu.u:x8.underlying mu=σ (.array 24 cH):=Ψ
theorem mu.i:aP x8 mu 24 24 (.agg #[(.int .u8 0),(.int .u8 0),(.int .u8 0),(.int .u8 0),(.int .u8 0),(.int .u8 0),(.int .u8 0),(.int .u8 0),(.int .u8 0),(.int .u8 0),(.int .u8 0),(.int .u8 0),(.int .u8 0),(.int .u8 0),(.int .u8 0),(.int .u8 0),(.int .u8 0),(.int .u8 0),(.int .u8 0),(.int .u8 0),(.int .u8 0),(.int .u8 0),(.int .u8 0),(.int .u8 0)]):=aP.of Ψ
theorem r0.u:x8.underlying r0=σ (.array 20 fA):=Ψ
theorem p0.i:aP x8 p0 3 56 (.agg #[(Δ 0),(.slice ν 0 0),(.slice ν 0 0)]):=aP.of Ψ
end Go.Proofs.YtikkpokkcdocoaaGreatDoor
namespace Go.Vc
open Go Go.RowKit
def b0:x3->Int
 | .int _ i=>i
 |_=>0
theorem wrap_i64{x:Int}(h1: -9223372036854775808<=x)(a:x<9223372036854775808):X7.wrap x=x:=by
 simp only[o9.wrap,o9.bits,o9.signed];simp;omega
theorem wrap_u8{x:Int}(h1:0<=x)(a:x<256):o9.u8.wrap x=x:=by
 simp only[o9.wrap,o9.bits,o9.signed];simp;omega
theorem I9{x:Int}(h1: -128<=x)(a:x<128):o9.i8.wrap x=x:=by
 simp only[o9.wrap,o9.bits,o9.signed];simp;omega
theorem wrap_u64{x:Int}(h1:0<=x)(a:x<18446744073709551616):U8.wrap x=x:=by
 simp only[o9.wrap,o9.bits,o9.signed];simp;omega
abbrev ints(k:o9)(l:Λ):List x3:=l.map (V5 k)
theorem p6(k:o9)(l:Λ):∀u∈ints k l,u.oneCell'=true:=by
 intro u hu;obtain⟨x,_,rfl⟩:=j0.1 hu;rfl
theorem kW{i:Nat}{x:Int}(h:l[i]?=σ x):(ints k l)[i]?=σ (.int k x):=by simp[ints,h]
theorem u0{α:Type}{a b:List α}{i:Nat}{x y:α}(h:a.take i=b.take i)(e:a[i]?=σ x)(f:b[i]?=σ y)(j:x=y):a.take (i+1)=b.take (i+1):=by
 rw[r8,r8,h,e,f,j]
theorem dl{aw:x4->Prop}{B:(x4->Prop)->Prop}(G:x4->Prop)(h1:∀w,G w->aw w)(e:∀a:x4->Prop,(∀w,G w->a w)->B a):cv aw B:=e aw h1
theorem aW{aw:x3->x4->Prop}{B:(x3->x4->Prop)->Prop}(G:x3->x4->Prop)(h1:∀v w,G v w->aw v w)(e:∀a:x3->x4->Prop,(∀v w,G v w->a v w)->B a):cv aw B:=e aw h1
theorem ib{aw:x3->x3->x4->Prop}{B:(x3->x3->x4->Prop)->Prop}(G:x3->x3->x4->Prop)(h1:∀u v w,G u v w->aw u v w)(e:∀a:x3->x3->x4->Prop,(∀u v w,G u v w->a u v w)->B a):cv aw B:=e aw h1
theorem ai.calls{P:W9}{f:R6}{K:x3->x4->Prop}(h:ai P f args w K)(a:Enters P f):Calls P f args.toArray w λe w'=>∃v,e= .returned v/\cJ w w'/\K v w':=by
 cases h with
 |code _ h=>exact h
 |ext v w' h1=>rw[a]at h1;cases h1
theorem zG(f:Ext w w')(a:cJ w w'):Below w.heap.size w w':=
 ⟨a.os,a.tape.1,a.output,f.size,λk hk=>by
  have e:w.heap[k]?=σ w.heap[k]:=Array.getElem?_eq_getElem hk;rw[e];cases I:fx w.heap[k]with
  |true=>exact f.aU k _ e I
  |false=>exact a.aU k _ e I⟩
theorem u1{x:Addr}(h:w.cell? x=σ v):x=⟨x.block,x.off,ν⟩:=by
 obtain⟨b,o,s⟩:=x;cases s with
 |none=>rfl
 |some s=>
  unfold x4.cell? at h;split at h<;>simp at h
theorem zH{a:Option Addr}{len cap:Nat}{e:Λ}(h:(a=ν/\len=0/\cap=0/\e=[])\/
   ∃x,a=σ x/\len<=cap/\cap<=maxLen/\e.length=cap/\(∀i,i<e.length->w.cell? (x.add i)=σ (.int k (e.getD i 0)))/\∀n∈e,(Lit.int k n).wf=true):
  cc w 1 (.slice a len cap) len (ints k (e.take len))/\∀n∈e.take len,k.min<=n/\n<=k.max:=by
 rcases h with⟨rfl,rfl,rfl,rfl⟩|⟨x,rfl,h1,r,s,f,y⟩
 .exact⟨cc.nil _ _,Ξ⟩
 .refine⟨⟨by simp[s,h1],x.block,x.off,σ x,cap,rfl,h1,r,λC=>?_,λj v p=>?_⟩,λn z=>?_⟩
  .have:=f 0 Ω;exact congrArg σ (u1 this)
  .have A:=(x5.1 p).1;rw[u7,n9]at A;have B:x=⟨x.block,x.off,ν⟩:=u1 (v:=.int k (e.getD 0 0)) (f 0 Ω);have q:=f j Ω;rw[B,T4]at q;rw[q,<-p,ints,v8,Y0 Ω,u4,x7 Ω];rfl
  .have:=y n (T9 z);simpa[Lit.wf]using this
def aH(k:o9)(w:x4)(v:x3)(l:Λ):Prop:=cc w 1 v l.length (ints k l)
def aq(k:o9)(e:r9)(w:x4)(g:Nat)(v:x3)(l:Λ):Prop:=bW w g e 1 v l.length (ints k l)
theorem aH.ext(h:aH k w v l)(a:Ext w w'):aH k w' v l:=cc.ext h a
theorem aq.ext{g:Nat}(h:aq k e w g v l)(a:Ext w w'):aq k e w' g v l:=bW.ext h a
theorem aq.aa{g:Nat}(h:aq k e w g v l)(a:ae S w w')(f:g<w.heap.size->¬S g):aq k e w' g v l:=bW.aa h a f
theorem aq.ls{g:Nat}(h:aq k e w g v l):aH k w v l:=bW.sl h
theorem aH.of(h:cc w 1 v n (ints k l)):aH k w v l:=by
 have:l.length=n:=by simpa using h.1
 unfold aH;rw[this];exact h
theorem aq.of{g:Nat}(h:bW w g e 1 v n (ints k l)):aq k e w g v l:=by
 have:l.length=n:=by simpa using h.1
 unfold aq;rw[this];exact h
theorem aH.le(h:aH k w v l):l.length<=9223372036854775807:=by
 have:=cc.le h;simpa[maxLen]using this
theorem aH.cells(h:aH k w v l):v.cells= #[v]/\v.oneCell'=true:=by
 obtain⟨_,_,_,_,_,rfl,_⟩:=h;exact⟨rfl,rfl⟩
theorem aq.nil(k:o9)(e:r9)(w:x4)(g:Nat):aq k e w g (.slice ν 0 0) []:=bW.nil w g e 1
section
variable{P:W9}{w:x4}
theorem aV{a:r9}(f:P.underlying t=σ (.slice e))(h:aH k w v l):
  V P (W7 #[t] a #[v]) w K=K (Δ l.length):=by
 obtain⟨_,_,_,_,_,rfl,_⟩:=h;exact hQ f
theorem bc{f:o9}{b:Nat}{i:Nat}{x:Int}(j:P.underlying t=σ (.slice e))(hi:aP P e 1 b z)(h1:jC P e=true)(h:aH k w v l)(a:l[i]?=σ x):V P (j5 t v (.int f (i:Int))) w (λp=>V P (u5 e p) w K)=K (.int k x):=by
 have q:=(x5.1 a).1;obtain⟨_,_,_,_,_,rfl,_,_,r,s⟩:=h;rw[eL j hi q r,U2,aF h1 (s i _ (kW a))]
theorem fF{a:o9}{b:Nat}{i:Nat}{x:Int}(f:y=(i:Int))(j:P.underlying t=σ (.slice e))(hi:aP P e 1 b z)(h1:jC P e=true)(h:aH k w v l)(q:l[i]?=σ x):V P (j5 t v (.int a y)) w (λp=>V P (u5 e p) w K)=K (.int k x):=by
 subst f;exact bc j hi h1 h q
theorem jg{p:r9}{b g:Nat}{x:x3}{m:Λ}{K:x3->x4->Prop}(j:P.underlying t=σ (.slice e))(hi:aP P e 1 b z)(q:z.cells.size=1)(h:aq k e w g v l)(s:aH k w x m)(y:(l.length+m.length)*b<=140737488355328)(A:l.length+m.length<=9223372036854775807)(B:∀f a w',(a=g\/w.heap.size<=a)->aq k e w' a f (l++m)->ae (λr=>r=g) w w'->K f w'):aC P (Z3 #[t,t] p #[v,x]) w K:=
 nz j j hi q h s (p6 _ _) y (by simpa[maxLen]using A) λf a w' h1 C E=>B f a w' h1 (aq.of (by rw[ints,Z2];exact C)) E
theorem eM{b:Nat}{x:Int}{K:x3->x4->Prop}(j:P.underlying t=σ (.slice e))(hi:aP P e 1 b z)(s:z.cells.size=1)(h:∀v g w',g=w.heap.size->Ext w w'->aq k e w' g v [x]->K v w'):aC P (Y8 t 1 #[(0,.int k x)]) w K:=
 jF j hi Ω (cs:=#[.int k x]) (by
   have I:∀(a:Array x3),a.size=1->a.setIfInBounds 0 (.int k x)= #[.int k x]:=λa f=>by
    apply Array.ext
    .simp[f]
    .intro i h1 y;have:i=0:=by simp[f]at h1;exact h1
     subst this;simp
   simp only[Instr.fill,x3.cells,List.zipIdx];simp;exact I _ Ξ) λg w' p q r=>h _ g w' p q (aq.of (n:=1) (bW.full r rfl (by simp[maxLen])))
theorem ai.free{f:R6}{K:x3->x4->Prop}(h:ai P f args w K):gI P f args w λv w'=>cJ w w'/\K v w':=by
 cases h with
 |code h1 a=>exact .code h1 (a.mono λ_ w' ⟨v,h1,e,a⟩=>⟨v,h1,e,a⟩)
 |ext v w' h1 a j=>exact .ext v w' h1 ⟨a,j⟩
theorem bX{a:Addr}:V P (bP (.pointer (σ a))) w K=K (.pointer (σ a)):=V.of λ_ _=>by
 simp[bP,rp,execOp]
theorem aG{u:r9}{pl:List (Nat×Nat)}{b off z:Nat}{K:x3->x3->Prop}(h:bM P t pl)(i:Nat)(j:ad w b e cs)(a:cs[(pl[i]?.getD (0,0)).1]?=σ v)(f:pl[i]?=σ (off,z+1):=by rfl)(p:jC P u=true:=by kernel_rfl):
  V P (u6 t (Γ b) i) w (λx=>V P (u5 u x) w (K x))=K (.pointer (σ ⟨b,0+off,ν⟩)) v:=by
 rw[f]at a;rw[aS h f,aF p (j.cell (by rw[X3];exact a))]
theorem aQ{u:r9}{pl:List (Nat×Nat)}{b off z:Nat}{K:x3->x3->x3->Prop}(a:bM P t pl)(i:Nat)(f:ad w b e cs)(h:cs[(pl[i]?.getD (0,0)).1]?=σ v)(j:pl[i]?=σ (off,z+1):=by rfl)(p:jC P u=true:=by kernel_rfl):
  V P (bP (Γ b)) w (λy=>V P (u6 t y i) w (λx=>V P (u5 u x) w (K y x)))=K (Γ b) (.pointer (σ ⟨b,0+off,ν⟩)) v:=by
 rw[bX,aG a i f h j p]
theorem zI{a f:o9}{k:Nat}{K:x3->x4->Prop}(q:P.underlying t=σ (.slice e))(hi:aP P e k j z)(A:n*j<=281474976710656)(B:n<=9223372036854775807)(h:∀g w',g=w.heap.size->Ext w w'->ad w' g e (dT z.cells (n*k))->K (.slice (σ ⟨g,0,ν⟩) n n) w'):aC P (Instr.makeSlice t (.int a (n:Int)) (.int f (n:Int))) w K:=by
 obtain⟨i,hi,rfl,rfl,r⟩:=hi;have s:(i.bytes:Int)*(n:Int)<=281474976710656:=by
  rw[Int.mul_comm];have h:((n*i.bytes:Nat):Int)<=281474976710656:=Ω
  rwa [Int.natCast_mul]at h
 have p:=run_make (P:=P) w t e i z q hi r a f n n Ω (Q1 _) s Ω;have hm:madeCells z.cells ((n:Int).toNat*i.size)=(dT z.cells (n*i.size)).toArray:=by rw[dT,Array.toArray_toList];rfl
 rw[hm]at p;obtain⟨h1,x,y⟩:=r4 w (dT z.cells (n*i.size)) e;exact .of p y (h _ _ rfl x h1)
theorem Ja(v:x3)(n:Nat):dT #[v] n=o4 n v:=by
 apply List.ext_getElem
 .simp[dT]
 .intro i h1 a;simp[dT,Nat.mod_one]
theorem jG{f j:o9}{a:Nat}{K:x3->x4->Prop}(p:P.underlying t=σ (.slice e))(hi:aP P e 1 a (.int k 0))(q:n*a<=281474976710656)(r:n<=9223372036854775807)(h:∀g w',g=w.heap.size->Ext w w'->ad w' g e (ints k (o4 n 0))->K (.slice (σ ⟨g,0,ν⟩) n n) w'):aC P (Instr.makeSlice t (.int f (n:Int)) (.int j (n:Int))) w K:=
 zI p hi q r λg w' s x y=>h g w' s x (by
  have e:dT (V5 k 0).cells (n*1)=ints k (o4 n 0):=by rw[U2];show dT #[_] n=_;rw[Ja];simp[ints]
  rw[<-e];exact y)
theorem e6{pl:List (Nat×Nat)}{b o k a:Nat}(hu:bM P t pl)(hi:aP P t k a z)(e:cs.length=k)(h:w.rangeAt b o cs):V P (do loadVar t (<-asAddr (.pointer (σ ⟨b,o,ν⟩)))) w K=K (.agg cs.toArray):=V.of λw' f=>by
 obtain⟨j,hu,_⟩:=hu;have:=run_loadVar_mid (P:=P) w' b o t cs (.struct j) (nu f h) hu rfl (by rw[hi.size,e]);simp only[asAddr,W6,V3,Result.andThen_ok,this]
theorem Jb(h:vs.length=cs.length):over cs 0 vs=vs:=by
 rw[mv Ω];simp[h]
theorem bT{k g:Nat}{K:Unit->x4->Prop}(hi:aP P t k f z)(j:vs.length=k)(x:cs.length=k)(p:∀v∈vs,v.oneCell'=true)(q:ad w g e cs)(h:∀w',ae (λr=>r=g) w w'->w'.heap.size=w.heap.size->ad w' g e vs->K () w'):aC P (o8 t (Γ g) (.agg vs.toArray)) w K:=
 zD hi j p q Ω λw' h1 s a=>h w' h1 s (by rw[Jb Ω]at a;exact a)
end
section
variable{P:W9}{w w' U:x4}{t:r9}{cx cy:Bool}{k:o9}{a b:Int}{A B:Prop}{x y z:x3}{K:x3->Prop}
theorem bz:V P (Y2 (.tuple #[x,y]) 0) w K=K x:=iH rfl
theorem bA:V P (Y2 (.tuple #[x,y]) 1) w K=K y:=iH rfl
theorem gq:V P (Y2 (.tuple #[x,y,z]) 0) w K=K x:=iH rfl
theorem gu:V P (Y2 (.tuple #[x,y,z]) 1) w K=K y:=iH rfl
theorem gv:V P (Y2 (.tuple #[x,y,z]) 2) w K=K z:=iH rfl
theorem bD(h:a<b)(e:A):V P (aJ .lss t cx cy (.int k a) (.int k b)) w λv=>Split v A B:=by
 rw[aR,aj];exact⟨λ_=>e,λf=>absurd h f⟩
theorem b7(h:¬a<b)(e:B):V P (aJ .lss t cx cy (.int k a) (.int k b)) w λv=>Split v A B:=by
 rw[aR,aj];exact⟨λf=>absurd f h,λ_=>e⟩
theorem Ext.put{g:Nat}(a:Ext w w')(e:ae (λr=>r=g) w' U)(h:w.heap.size<=g):Ext w U:=a.then e λr f he=>by
 have he:r=g:=he;omega
theorem aD{α:Type}{l:List α}{i:Nat}(h:i<l.length):∃x,l[i]?=σ x:=⟨_,x7 h⟩
end
abbrev af:=Nat->Prop
def ki(S:af)(w:x4)(k:Nat)(v:x3)(n:Nat)(cs:List x3):Prop:=
 cs.length=n*k/\∃b o base cap,v= .slice base n cap/\n<=cap/\cap<=maxLen/\(0<n->base=σ ⟨b,o,ν⟩)/\(0<cs.length->S b)/\w.rangeAt b o cs
theorem ki.sl{S:af}{k:Nat}(h:ki S w k v n cs):cc w k v n cs:=by
 obtain⟨h1,b,o,base,cap,a,e,f,j,_,p⟩:=h;exact⟨h1,b,o,base,cap,a,e,f,j,p⟩
theorem zJ{b o:Nat}(h:w.rangeAt b o cs)(a:0<cs.length):b<w.heap.size:=by
 have:=h 0 cs[0] (x7 a);obtain⟨c,e,f,j,_⟩:=uX this;exact(j6.1 j).1
theorem ki.aa{S T:af}{k:Nat}(h:ki S w k v n cs)(p:ae T w w')(q:∀r,r<w.heap.size->S r->¬T r):ki S w' k v n cs:=by
 obtain⟨h1,b,o,base,cap,s,x,y,z,e,f⟩:=h;refine⟨h1,b,o,base,cap,s,x,y,z,e,?_⟩;rcases Q2 cs.length with a|a
 .intro j v A;have:=(x5.1 A).1;omega
 .exact hP p (q b (zJ f a) (e a)) f
theorem ki.mono{S T:af}{k:Nat}(h:ki S w k v n cs)(f:∀r,r<w.heap.size->S r->T r):ki T w k v n cs:=by
 obtain⟨h1,b,o,base,cap,j,p,q,s,x,a⟩:=h;exact⟨h1,b,o,base,cap,j,p,q,s,λe=>f b (zJ a e) (x e),a⟩
class ak(α:Type) where
 n:Nat
 rep:Bool->af->af->x4->List x3->α->Prop
 len:∀{m S R w cs a},rep m S R w cs a->cs.length=n
 one:∀{m S R w cs a},rep m S R w cs a->∀u∈cs,u.oneCell'=true
 aa:∀{m S R T w w' cs a},rep m S R w cs a->ae T w w'->(∀r,r<w.heap.size->S r\/R r->¬T r)->rep m S R w' cs a
 mono:∀{m S S' R R' w cs a},rep m S R w cs a->(∀r,r<w.heap.size->S r->S' r)->(∀r,r<w.heap.size->R r->R' r)->rep m S' R' w cs a
 hK:∀{m S R w cs a},rep m S R w cs a->rep false (λ_=>False) (λr=>S r\/R r) w cs a
section
variable{α β:Type}[ak α][ak β]{m:Bool}{S R T:af}{w w':x4}
abbrev bl(S R:af)(w:x4)(cs:List x3)(a:α):Prop:=ak.rep true S R w cs a
abbrev Seen(R:af)(w:x4)(cs:List x3)(a:α):Prop:=ak.rep false (λ_=>False) R w cs a
abbrev eN:af:=λ_=>True
theorem bi{a:α}(h:ak.rep m S R w cs a)(e:Ext w w'):ak.rep m S R w' cs a:=ak.aa h (e.aa λ_=>False) λ_ _ _ h=>h
theorem lV{a:α}(h:ak.rep m S R w cs a):ak.rep m (λr=>S r/\r<w.heap.size) R w cs a:=ak.mono h (λ_ h1 e=>⟨e,h1⟩) λ_ _ h=>h
theorem hS{a:α}(h:ak.rep m S R w cs a):Seen eN w cs a:=ak.mono (ak.hK h) (λ_ _ h=>h.elim) λ_ _ _=>trivial
theorem nA{a:α}{Q:af}(h:ak.rep m S R w cs a)(e:∀r,r<w.heap.size->S r\/R r->Q r):Seen Q w cs a:=ak.mono (ak.hK h) (λ_ _ h=>h.elim) e
instance:ak Int where
 n:=1
 rep _ _ _ _ cs a:=cs=[Δ a]
 len h:=by subst h;rfl
 one h:=by subst h;intro u hu;simp at hu;subst hu;rfl
 aa h _ _:=h
 mono h _ _:=h
 hK h:=h
instance:ak Bool where
 n:=1
 rep _ _ _ _ cs a:=cs=[.bool a]
 len h:=by subst h;rfl
 one h:=by subst h;intro u hu;simp at hu;subst hu;rfl
 aa h _ _:=h
 mono h _ _:=h
 hK h:=h
instance:ak ByteArray where
 n:=1
 rep _ _ _ _ cs a:=cs=[.string a]
 len h:=by subst h;rfl
 one h:=by subst h;intro u hu;simp at hu;subst hu;rfl
 aa h _ _:=h
 mono h _ _:=h
 hK h:=h
def jh(_:o9):Type:=Int
instance (k:o9):ak (jh k) where
 n:=1
 rep _ _ _ _ cs a:=cs=[.int k a]
 len h:=by subst h;rfl
 one h:=by subst h;intro u hu;simp at hu;subst hu;rfl
 aa h _ _:=h
 mono h _ _:=h
 hK h:=h
def Rd(α:Type):Type:=α
instance RI:ak (Rd α) where
 n:=ak.n α
 rep _ _ R w cs a:=ak.rep (α:=α) false (λ_=>False) R w cs a
 len h:=ak.len (α:=α) h
 one h:=ak.one (α:=α) h
 aa h e f:=ak.aa (α:=α) h e λr j h=>f r j (.inr (h.elim False.elim id))
 mono h _ p:=ak.mono (α:=α) h (λ_ _ h=>h) p
 hK h:=ak.mono (α:=α) h (λ_ _ h=>h) λ_ _ h=>.inr h
instance RJ:ak (α×β) where
 n:=ak.n α+ak.n β
 rep m S R w cs a:=∃c d A B,cs=c++d/\(∀r,A r->S r)/\(∀r,B r->S r)/\(m=true->∀r,A r->¬B r)/\ak.rep m A R w c a.1/\ak.rep m B R w d a.2
 len:=by
  rintro m S R w cs a ⟨c,d,A,B,rfl,_,_,_,h1,e⟩;simp[ak.len h1,ak.len e]
 one:=by
  rintro m S R w cs a ⟨c,d,A,B,rfl,_,_,_,h1,e⟩ u hu;rcases l9.1 hu with hu|hu
  .exact ak.one h1 u hu
  .exact ak.one e u hu
 aa:=by
  rintro m S R T w w' cs a ⟨c,d,A,B,rfl,j,p,s,h1,e⟩ x q;exact⟨c,d,A,B,rfl,j,p,s,ak.aa h1 x λr f h=>q r f (h.imp (j r) id),ak.aa e x λr f h=>q r f (h.imp (p r) id)⟩
 mono:=by
  rintro m S S' R R' w cs a ⟨c,d,A,B,rfl,j,p,s,h1,e⟩ q y;exact⟨c,d,λr=>A r/\r<w.heap.size,λr=>B r/\r<w.heap.size,rfl,λr h=>q r h.2 (j r h.1),λr h=>q r h.2 (p r h.1),λhm r h k=>s hm r h.1 k.1,
   ak.mono h1 (λr f h=>⟨h,f⟩) y,ak.mono e (λr f h=>⟨h,f⟩) y⟩
 hK:=by
  rintro m S R w cs a ⟨c,d,A,B,rfl,j,p,s,h1,e⟩;exact⟨c,d,λ_=>False,λ_=>False,rfl,λ_ h=>h.elim,λ_ h=>h.elim,(λh=>by cases h),ak.mono (ak.hK h1) (λ_ _ h=>h) λr _ h=>h.imp (j r) id,
   ak.mono (ak.hK e) (λ_ _ h=>h) λr _ h=>h.imp (p r) id⟩
def mw(m:Bool)(R:af)(F:Nat->af)(w:x4)(vs:List (List x3))(l:List α):Prop:=
 vs.length=l.length/\∀(i:Nat)(c:List x3)(a:α),vs[i]?=σ c->l[i]?=σ a->ak.rep m (F i) R w c a
structure zK(m:Bool)(S:af)(g:Nat)(F:Nat->af):Prop where
 sub:∀i r,F i r->S r
 top:m=true->∀i,¬F i g
 gL:m=true->∀i j r,i≠j->F i r->¬F j r
theorem mw.len{F:Nat->af}{vs:List (List x3)}{l:List α}(h:mw m R F w vs l):∀c∈vs,c.length=ak.n α:=by
 intro c a;obtain⟨i,hi,rfl⟩:=List.mem_iff_getElem.1 a;exact ak.len (h.2 i _ _ (x7 hi) (x7 (h.1▸hi)))
theorem mw.one{F:Nat->af}{vs:List (List x3)}{l:List α}(h:mw m R F w vs l):∀u∈vs.flatten,u.oneCell'=true:=by
 intro u hu;obtain⟨c,a,hu⟩:=List.mem_flatten.1 hu;obtain⟨i,hi,rfl⟩:=List.mem_iff_getElem.1 a;exact ak.one (h.2 i _ _ (x7 hi) (x7 (h.1▸hi))) u hu
theorem p7{k:Nat}:∀{vs:List (List x3)},(∀c∈vs,c.length=k)->vs.flatten.length=vs.length*k
 |[],_=>Ξ
 |c::r,h=>by
  have:=p7 (vs:=r) λx a=>h x (.tail _ a);simp only[List.flatten_cons,o7,this,h c (.head _),Z5,U7];omega
theorem nB{k:Nat}:∀{vs:List (List x3)},(∀c∈vs,c.length=k)->∀{i j:Nat}{c:List x3},vs[i]?=σ c->j<k->vs.flatten[i*k+j]?=c[j]?
 |gX::r,h,0,j,c,a,e=>by
  simp only[List.getElem?_cons_zero,X4]at a;subst a;rw[List.flatten_cons,Y1 (by rw[h _ (.head _)];omega)];simp
 |gX::r,h,i+1,j,c,a,e=>by
  simp only[List.getElem?_cons_succ]at a;have f:=h gX (.head _);rw[List.flatten_cons,Y3 (by rw[f,U7];omega),f,U7,show i*k+1*k+j-k=i*k+j by omega];exact nB (λx p=>h x (.tail _ p)) a e
 |[],_,i,_,c,a,_=>by simp at a
instance instList:ak (List α) where
 n:=1
 rep m S R w cs l:=∃v,cs=[v]/\∃(vs:List (List x3))(g:Nat)(F:Nat->af),zK m S g F/\mw m R F w vs l/\ki (λr=>S r\/R r) w (ak.n α) v l.length vs.flatten/\
  (m=true->(v= .slice ν 0 0\/S g)/\∃e,bW w g e (ak.n α) v l.length vs.flatten)
 len:=by rintro m S R w cs a ⟨v,rfl,_⟩;rfl
 one:=by
  rintro m S R w cs a ⟨v,rfl,vs,g,F,_,_,⟨_,_,_,_,_,rfl,_⟩,_⟩ u hu;simp at hu;subst hu;rfl
 aa:=by
  rintro m S R T w w' cs a ⟨v,rfl,vs,g,F,p,he,I,hm⟩ A s;refine⟨v,rfl,vs,g,F,p,⟨he.1,λi c a y z=>ak.aa (he.2 i c a y z) A λr q h=>s r q (h.imp (p.sub i r) id)⟩,I.aa A s,λh=>?_⟩;obtain⟨h1,e,f⟩:=hm h;refine⟨h1,e,?_⟩;rcases h1 with rfl|h1
  .obtain⟨C,⟨_,x⟩|⟨_,_,x,_⟩⟩:=f
   .exact⟨C,.inl ⟨rfl,x⟩⟩
   .cases x
  .exact f.aa A λq=>s g q (.inl h1)
 mono:=by
  rintro m S S' R R' w cs a ⟨v,rfl,vs,g,F,p,he,I,hm⟩ s B;refine⟨v,rfl,vs,g,λi r=>F i r/\r<w.heap.size,⟨λi r h=>s r h.2 (p.sub i r h.1),λh i f=>p.top h i f.1,λh i j r E h1 f=>p.gL h i j r E h1.1 f.1⟩,
   ⟨he.1,λi c a y z=>ak.mono (he.2 i c a y z) (λr q h=>⟨h,q⟩) B⟩,I.mono λr q h=>h.imp (s r q) (B r q),λh=>?_⟩
  obtain⟨h1,e,f⟩:=hm h;refine⟨?_,e,f⟩;obtain⟨_,⟨x,_⟩|⟨_,_,x,G,_⟩⟩:=f
  .exact .inl x
  .rcases h1 with h1|h1
   .exact .inl h1
   .exact .inr (s g G.lt h1)
 hK:=by
  rintro m S R w cs a ⟨v,rfl,vs,g,F,p,he,I,hm⟩;exact⟨v,rfl,vs,g,λ_ _=>False,⟨λ_ _ h=>h,(λh=>by cases h),λh=>by cases h⟩,
   ⟨he.1,λi c a y z=>ak.mono (ak.hK (he.2 i c a y z)) (λ_ _ h=>h) λr _ h=>h.imp (p.sub i r) id⟩,I.mono λr _ h=>.inr h,λh=>by cases h⟩
end
section
variable{P:W9}{w:x4}{α β:Type}[ak α][ak β]{m:Bool}{S R:af}
theorem ie{l:List α}(h:ak.rep m S R w [v] l):∃(vs:List (List x3))(g:Nat)(F:Nat->af),zK m S g F/\mw m R F w vs l/\ki (λr=>S r\/R r) w (ak.n α) v l.length vs.flatten/\
  (m=true->(v= .slice ν 0 0\/S g)/\∃e,bW w g e (ak.n α) v l.length vs.flatten):=by
 obtain⟨_,a,h⟩:=h;cases a;exact h
theorem hT{a:α}(h:ak.rep m S R w [v] a):v.oneCell'=true:=ak.one h v (.head _)
theorem kj{l:List α}(h:ak.rep m S R w [v] l):v.cells= #[v]:=by
 obtain⟨_,_,_,_,_,⟨_,_,_,_,_,rfl,_⟩,_⟩:=ie h;rfl
theorem lW{l:List α}(h:ak.rep m S R w [v] l):l.length<=9223372036854775807:=by
 obtain⟨_,_,_,_,_,h,_⟩:=ie h;have:=h.sl.le;simpa[maxLen]using this
theorem fV:ak.rep m S R w [.slice ν 0 0] ([]:List α):=
 ⟨_,rfl,[],0,λ_ _=>False,⟨λ_ _ h=>h.elim,λ_ _ h=>h,λ_ _ _ _ _ h=>h.elim⟩,⟨rfl,λi c a e=>by simp at e⟩,
  ⟨Ξ,0,0,ν,0,rfl,o5 _,X5 _,λh=>absurd h (Nat.lt_irrefl _),λh=>by simp at h,λj v h=>by simp at h⟩,
  λ_=>⟨.inl rfl,0,bW.nil w 0 0 _⟩⟩
theorem zL{F:Nat->af}{vs:List (List x3)}(h:mw m R F w vs l):vs.flatten=ints .i64 l:=by
 have:vs=l.map λx=>[V5 .i64 x]:=by
  apply List.ext_getElem
  .simp[h.1]
  .intro i h1 a;have e:i<l.length:=by simpa using a
   have:=h.2 i _ _ (x7 h1) (x7 e);rw[List.getElem_map];exact this
 subst this;clear h;induction l with
 |nil=>rfl
 |cons x l f=>simp only[T1,List.flatten_cons,f];rfl
theorem dD(h:ak.rep m S R w [v] l):aH .i64 w v l:=by
 obtain⟨vs,g,F,_,he,I,_⟩:=ie h;have:=I.sl;rw[zL he]at this;exact this
theorem fG{a:r9}{l:List α}(f:P.underlying t=σ (.slice e))(h:ak.rep m S R w [v] l):
  V P (W7 #[t] a #[v]) w K=K (Δ l.length):=by
 obtain⟨_,_,_,_,_,⟨_,_,_,_,_,rfl,_⟩,_⟩:=ie h;exact hQ f
theorem jH{x:o9}{i b:Nat}{l:List α}{a:α}(A:y=(i:Int))(B:P.underlying t=σ (.slice e))(hi:aP P e (ak.n α) b z)(h:ak.rep m S R w [v] l)(f:l[i]?=σ a)(C:∀b o cs,w.rangeAt b o cs->ak.rep m S R w cs a->K (.pointer (σ ⟨b,o,ν⟩))):V P (j5 t v (.int x y)) w K:=by
 subst A;obtain⟨vs,g,F,E,he,⟨_,b,o,base,cap,rfl,_,_,G,_,H⟩,_⟩:=ie h;have p:=(x5.1 f).1;rw[eL B hi p G];obtain⟨c,q⟩:∃c,vs[i]?=σ c:=⟨_,x7 (by rw[he.1];exact p)⟩;have s:=he.2 i c a q f;have I:=ak.len s;refine C _ _ c (λj u hu=>?_) (ak.mono s (λr _ h=>E.sub i r h) λ_ _ h=>h);have J:=(x5.1 hu).1;rw[R3];refine H (i*ak.n α+j) u ?_;rw[nB he.len q Ω];exact hu
theorem gw{q:o9}{i b:Nat}{l:List α}{a:α}(r:ak.n α=1)(s:y=(i:Int))(x:P.underlying t=σ (.slice e))(hi:aP P e (ak.n α) b z)(h1:jC P e=true)(h:ak.rep m S R w [v] l)(A:l[i]?=σ a)(B:∀u,ak.rep m S R w [u] a->K u):
  V P (j5 t v (.int q y)) w λp=>V P (u5 e p) w K:=by
 refine jH s x hi h A λb o cs C f=>?_;have j:=ak.len f;rw[r]at j;obtain⟨u,rfl⟩:=V0.1 j;rw[aF h1 (by have:=C 0 u rfl;simpa using this)];exact B u f
theorem lX{pl:List (Nat×Nat)}{j:o9}{i b:Nat}{l:List α}{a:α}(hu:bM P e pl)(q:y=(i:Int))(r:P.underlying t=σ (.slice e))(hi:aP P e (ak.n α) b z)(h:ak.rep m S R w [v] l)(s:l[i]?=σ a)(x:∀cs,ak.rep m S R w cs a->K (.agg cs.toArray)):
  V P (j5 t v (.int j y)) w λp=>V P (u5 e p) w K:=by
 refine jH q r hi h s λb o cs A f=>?_;rw[bF hu hi (ak.len f) A];exact x cs f
theorem nC{g:Nat}{k:Nat}(h:bW w g e k v n xs)(f:v= .slice ν 0 0\/S g):ki S w k v n xs:=by
 obtain⟨h1,⟨rfl,rfl⟩|⟨cap,cs,rfl,p,q,r,x,s⟩⟩:=h
 .have:xs=[]:=b9 (by simpa using h1);subst this;exact⟨Ξ,0,0,ν,0,rfl,o5 _,X5 _,λh=>absurd h (Nat.lt_irrefl _),λh=>by simp at h,λj v h=>by simp at h⟩
 .refine⟨h1,g,0,_,cap,rfl,q,r,λ_=>rfl,λ_=>f.resolve_left Ξ,λj v a=>?_⟩;rw[X3];have y:=(x5.1 a).1;rw[<-s,Y0 Ω]at a;exact p.cell a
open Classical in
theorem zM{U X Y:r9}{b:Nat}{x:x3}{us:List (List x3)}{l l':List α}{G:Nat->af}{K:x3->x4->Prop}(Z:P.underlying t=σ (.slice e))(ab:P.underlying U=σ (.slice X))(hi:aP P e (ak.n α) b z)(ac:z.cells.size=ak.n α)(h:bl S R w [v] l)(ad:cc w (ak.n α) x l'.length us.flatten)(L:mw true R G w us l')(ag:∀i j r,i≠j->G i r->¬G j r)(E:∀r,r<w.heap.size->S r->(∀i,¬G i r)/\¬R r)(ah:(l.length+l'.length)*b<=140737488355328)(ai:l.length+l'.length<=9223372036854775807)(aj:∀p w',bl (λr=>S r\/(∃i,G i r)\/w.heap.size<=r) R w' [p] (l++l')->ae S w w'->K p w'):aC P (Z3 #[t,U] Y #[v,x]) w K:=by
 obtain⟨vs,g,F,A,he,I,hm⟩:=ie h;obtain⟨M,ap,V⟩:=hm rfl;refine zE Z ab hi ac V ad L.one ah (by simpa[maxLen]using ai) ?_;intro p H w' al am N O;have Q:∀r,r=g/\v≠ .slice ν 0 0->S r:=λr ⟨h1,f⟩=>h1▸M.resolve_left f;have an:=V;have T:(p= .slice ν 0 0)\/(H=g/\S g/\g<w.heap.size)\/H=w.heap.size:=by
  rcases am with⟨h1,_,f|f⟩|⟨h1,_⟩
  .rcases M with s|s
   .exact .inl (f▸s)
   .obtain⟨_,⟨y,_⟩|⟨_,_,_,y,_⟩⟩:=an
    .exact .inl (f▸y)
    .exact .inr (.inl ⟨h1,s,y.lt⟩)
  .exact .inr (.inl ⟨h1,M.resolve_left f.2,f.1⟩)
  .exact .inr (.inr h1)
 refine aj p w' ⟨p,rfl,vs++us,if p= .slice ν 0 0 then w.heap.size else H,λi r=>if i<l.length then F i r/\r<w.heap.size else G (i-l.length) r/\r<w.heap.size,⟨λi r h=>?_,λ_ i h=>?_,λ_ i j r ao h1 f=>?_⟩,⟨by simp[he.1,L.1],λi c a hi J=>?_⟩,?_,λ_=>⟨?_,al,?_⟩⟩ (O.mono λr _ h=>Q r h)
 .split at h
  .exact .inl (A.sub i r h.1)
  .exact .inr (.inl ⟨_,h.1⟩)
 .have B:(if p= .slice ν 0 0 then w.heap.size else H)<w.heap.size:=by split at h<;>exact h.2
  split at B
  .omega
  .rename_i q;rw[if_neg q]at h;rcases T with h1|⟨rfl,f,s⟩|h1
   .exact q h1
   .split at h
    .exact A.top rfl i h.1
    .exact (E _ s f).1 _ h.1
   .omega
 .split at h1<;>split at f
  .exact A.gL rfl i j r ao h1.1 f.1
  .exact (E r h1.2 (A.sub i r h1.1)).1 _ f.1
  .exact (E r h1.2 (A.sub j r f.1)).1 _ h1.1
  .exact ag (i-l.length) (j-l.length) r Ω h1.1 f.1
 .have W:∀r,r<w.heap.size->R r->¬(r=g/\v≠ .slice ν 0 0):=λr C h1 f=>(E r C (Q r f)).2 h1;by_cases B:i<l.length
  .rw[Y1 (by rw[he.1];exact B)]at hi;rw[Y1 B]at J;simp only[if_pos B];refine ak.aa (lV (he.2 i c a hi J)) O λr C h1 f=>?_;rcases h1 with h1|h1
   .exact A.top rfl i (f.1▸h1.1)
   .exact W r C h1 f
  .rw[Y3 (by rw[he.1];omega),he.1]at hi;rw[Y3 Ω]at J;simp only[if_neg B];refine ak.aa (lV (L.2 _ c a hi J)) O λr C h1 f=>?_;rcases h1 with h1|h1
   .exact (E r C (Q r f)).1 _ h1.1
   .exact W r C h1 f
 .rw[o7,List.flatten_append];refine nC N ?_;rcases T with h1|⟨rfl,f,_⟩|rfl
  .exact .inl h1
  .exact .inr (.inl (.inl f))
  .exact .inr (.inl (.inr (.inr (o5 _))))
 .rcases T with h1|⟨rfl,f,_⟩|rfl
  .exact .inl h1
  .by_cases q:p= .slice ν 0 0
   .exact .inl q
   .rw[if_neg q];exact .inr (.inl f)
  .split
   .exact .inr (.inr (.inr (o5 _)))
   .exact .inr (.inr (.inr (o5 _)))
 .rw[o7,List.flatten_append];by_cases q:p= .slice ν 0 0
  .subst q;obtain⟨s,⟨_,y⟩|⟨_,_,y,_⟩⟩:=N
   .exact⟨s,.inl ⟨rfl,y⟩⟩
   .cases y
  .rw[if_neg q];exact N
theorem my{F:r9}{b:Nat}{x:x3}{l:List α}{a:α}{A:af}{K:x3->x4->Prop}(B:P.underlying t=σ (.slice e))(hi:aP P e (ak.n α) b z)(H:z.cells.size=ak.n α)(h:bl S R w [v] l)(J:cc w (ak.n α) x 1 cs)(L:bl A R w cs a)(C:∀r,r<w.heap.size->S r->¬(A r\/R r))(f:(l.length+1)*b<=140737488355328)(M:l.length+1<=9223372036854775807)(N:∀p w',bl (λr=>S r\/A r\/w.heap.size<=r) R w' [p] (l++[a])->ae S w w'->K p w'):aC P (Z3 #[t,t] F #[v,x]) w K:=by
 refine zM (l':=[a]) (us:=[cs]) (G:=λi r=>i=0/\A r) B B hi H h (by simpa using J) ⟨rfl,λi c b q f=>?_⟩ (λi j r O h1 s=>O (h1.1.trans s.1.symm)) (λr E I=>⟨λi h=>C r E I (.inl h.2),λh=>C r E I (.inr h)⟩) (by simpa using f) (by simpa using M)
  λp w' h1 s=>N p w' (ak.mono h1 (λr _ h=>h.imp id (Or.imp (λ⟨_,h⟩=>h.2) id)) λ_ _ h=>h) s
 have y:=(x5.1 q).1;have y:i=0:=by simpa using y
 subst y;simp at q f;subst q f;exact ak.mono L (λr _ h=>⟨rfl,h⟩) λ_ _ h=>h
end
theorem zN:∀(c:List x3)(i:Nat)(z:Array x3),(i+c.length<=z.size)->((c.zipIdx i).foldl (λcs (x:x3×Nat)=>cs.setIfInBounds x.2 x.1) z).toList=z.toList.take i++c++z.toList.drop (i+c.length)
 |[],i,z,h=>Ξ
 |x::r,i,z,h=>by
  simp only[Z5]at h;rw[List.zipIdx_cons,T7,zN r (i+1) _ Θ];simp only[Array.toList_setIfInBounds,Z5];rw[List.drop_set_of_lt Ω,List.take_set,r8,x7 Θ];simp only[l7];rw[T8 _ _ Θ];have e:i-(z.toList.take i).length=0:=Θ
  rw[e,show i+1+r.length=i+(r.length+1) by omega];simp
theorem zO{k:Nat}{z:Array x3}(a:z.size=k)(e:v.cells.size=k):Instr.fill (λj=>σ (j*k,k)) z [(0,v)]=σ v.cells:=by
 have h:=zN v.cells.toList 0 z Θ;simp only[Instr.fill,Nat.zero_mul,X3];rw[if_neg Θ];congr 1;apply Array.toList_inj.1;rw[<-Array.foldl_toList,Array.toList_zipIdx,h];simp;omega
section
variable{P:W9}{w:x4}{α β:Type}[ak α][ak β]{m:Bool}{S R:af}
theorem ig{b:Nat}{x:x3}{a:α}{A:af}{K:x3->x4->Prop}(C:P.underlying t=σ (.slice e))(hi:aP P e (ak.n α) b z)(L:ak.n α<=100000)(q:x.cells=cs.toArray)(s:bl A R w cs a)(E:∀v w',Ext w w'->bl (λr=>A r\/w.heap.size<=r) R w' [v] [a]->cc w' (ak.n α) v 1 cs->K v w'):aC P (Y8 t 1 #[(0,x)]) w K:=by
 have F:=ak.len s;refine jF C hi Ω (cs:=x.cells) (zO Ξ (by rw[q];simpa using F)) λg w' M y f=>?_;have f:ad w' g e cs:=by rw[q]at f;simpa using f
 have hm:bW w' g e (ak.n α) (.slice (σ ⟨g,0,ν⟩) 1 1) 1 cs:=bW.full f Ω (by simp[maxLen]);refine E _ w' y ⟨_,rfl,[cs],g,λi r=>i=0/\A r/\r<w.heap.size,⟨λi r h=>.inl h.2.1,λ_ i h=>Ω,λ_ i j r G h1 H=>G (h1.1.trans H.1.symm)⟩,⟨rfl,λi c a' p B=>?_⟩,?_,λ_=>⟨.inr (.inr Ω),e,by simpa using hm⟩⟩ hm.sl
 .have I:i=0:=by simpa using(x5.1 p).1
  subst I;simp at p B;subst p B;exact bi (ak.mono s (λr J h=>⟨rfl,h,J⟩) λ_ _ h=>h) y
 .have:=nC (S:=λr=>(A r\/w.heap.size<=r)\/R r) hm (.inr (.inl (.inr Ω)));simpa using this
end
theorem b1.range{B:x3->x4->(x3->x4->Prop)->Prop}(n:Nat)(a:Nat->x4->Prop)(q:n<=9223372036854775807)(f:a 0 w)(j:∀(i:Nat)(w:x4)(k:x3->x4->Prop),i<n->a i w->(∀w',a (i+1) w'->k (Δ (X7.wrap ((i:Int)+1))) w')->B (Δ (i:Int)) w k)(p:∀(w:x4)(k:x3->x4->Prop),a n w->B (Δ (n:Int)) w k):b1 (Δ 0) w B:=by
 refine⟨λt w=>∃i:Nat,t=Δ (i:Int)/\i<=n/\a i w,λt _=>n-(b0 t).toNat,⟨0,rfl,X5 _,f⟩,?_⟩;rintro _ w ⟨i,rfl,hi,h⟩;by_cases e:i<n
 .refine j i w _ e h λw' h'=>⟨⟨i+1,?_,e,h'⟩,?_⟩
  .rw[wrap_i64 Ω Ω];rfl
  .rw[wrap_i64 Ω Ω];simp only[b0];omega
 .have:i=n:=Ω
  subst this;exact p w _ h
theorem b3.range{a:x3}{B:x3->x3->x4->(x3->x3->x4->Prop)->Prop}(n:Nat)(e:Nat->x3->x4->Prop)(r:n<=9223372036854775807)(j:e 0 a w)(p:∀(i:Nat)(a:x3)(w:x4)(k:x3->x3->x4->Prop),i<n->e i a w->(∀a' w',e (i+1) a' w'->k a' (Δ (X7.wrap ((i:Int)+1))) w')->B a (Δ (i:Int)) w k)(q:∀(a:x3)(w:x4)(k:x3->x3->x4->Prop),e n a w->B a (Δ (n:Int)) w k):b3 a (Δ 0) w B:=by
 refine⟨λa t w=>∃i:Nat,t=Δ (i:Int)/\i<=n/\e i a w,λa t _=>n-(b0 t).toNat,⟨0,rfl,X5 _,j⟩,?_⟩;rintro a _ w ⟨i,rfl,hi,h⟩;by_cases f:i<n
 .refine p i a w _ f h λa' w' h'=>⟨⟨i+1,?_,f,h'⟩,?_⟩
  .rw[wrap_i64 Ω Ω];rfl
  .rw[wrap_i64 Ω Ω];simp only[b0];omega
 .have:i=n:=Ω
  subst this;exact q a w _ h
theorem mm.range{a b:x3}{B:x3->x3->x3->x4->(x3->x3->x3->x4->Prop)->Prop}(n:Nat)(e:Nat->x3->x3->x4->Prop)(s:n<=9223372036854775807)(p:e 0 a b w)(q:∀(i:Nat)(a b:x3)(w:x4)(k:x3->x3->x3->x4->Prop),i<n->e i a b w->(∀a' f w',e (i+1) a' f w'->k a' f (Δ (X7.wrap ((i:Int)+1))) w')->B a b (Δ (i:Int)) w k)(r:∀(a b:x3)(w:x4)(k:x3->x3->x3->x4->Prop),e n a b w->B a b (Δ (n:Int)) w k):mm a b (Δ 0) w B:=by
 refine⟨λa b t w=>∃i:Nat,t=Δ (i:Int)/\i<=n/\e i a b w,λa b t _=>n-(b0 t).toNat,⟨0,rfl,X5 _,p⟩,?_⟩;rintro a b _ w ⟨i,rfl,hi,h⟩;by_cases j:i<n
 .refine q i a b w _ j h λa' f w' h'=>⟨⟨i+1,?_,j,h'⟩,?_⟩
  .rw[wrap_i64 Ω Ω];rfl
  .rw[wrap_i64 Ω Ω];simp only[b0];omega
 .have:i=n:=Ω
  subst this;exact r a b w _ h
theorem pN.range{a b c:x3}{B:x3->x3->x3->x3->x4->(x3->x3->x3->x3->x4->Prop)->Prop}(n:Nat)(e:Nat->x3->x3->x3->x4->Prop)(x:n<=9223372036854775807)(q:e 0 a b c w)(r:∀(i:Nat)(a b c:x3)(w:x4)(k:x3->x3->x3->x3->x4->Prop),i<n->e i a b c w->(∀a' f j w',e (i+1) a' f j w'->k a' f j (Δ (X7.wrap ((i:Int)+1))) w')->B a b c (Δ (i:Int)) w k)(s:∀(a b c:x3)(w:x4)(k:x3->x3->x3->x3->x4->Prop),e n a b c w->B a b c (Δ (n:Int)) w k):pN a b c (Δ 0) w B:=by
 refine⟨λa b c t w=>∃i:Nat,t=Δ (i:Int)/\i<=n/\e i a b c w,λa b c t _=>n-(b0 t).toNat,⟨0,rfl,X5 _,q⟩,?_⟩;rintro a b c _ w ⟨i,rfl,hi,h⟩;by_cases p:i<n
 .refine r i a b c w _ p h λa' f j w' h'=>⟨⟨i+1,?_,p,h'⟩,?_⟩
  .rw[wrap_i64 Ω Ω];rfl
  .rw[wrap_i64 Ω Ω];simp only[b0];omega
 .have:i=n:=Ω
  subst this;exact s a b c w _ h
theorem pO.range{a b c d:x3}{B:x3->x3->x3->x3->x3->x4->(x3->x3->x3->x3->x3->x4->Prop)->Prop}(n:Nat)(e:Nat->x3->x3->x3->x3->x4->Prop)(y:n<=9223372036854775807)(r:e 0 a b c d w)(s:∀(i:Nat)(a b c d:x3)(w:x4)(k:x3->x3->x3->x3->x3->x4->Prop),i<n->e i a b c d w->(∀a' f j p w',e (i+1) a' f j p w'->k a' f j p (Δ (X7.wrap ((i:Int)+1))) w')->B a b c d (Δ (i:Int)) w k)(x:∀(a b c d:x3)(w:x4)(k:x3->x3->x3->x3->x3->x4->Prop),e n a b c d w->B a b c d (Δ (n:Int)) w k):pO a b c d (Δ 0) w B:=by
 refine⟨λa b c d t w=>∃i:Nat,t=Δ (i:Int)/\i<=n/\e i a b c d w,λa b c d t _=>n-(b0 t).toNat,⟨0,rfl,X5 _,r⟩,?_⟩;rintro a b c d _ w ⟨i,rfl,hi,h⟩;by_cases q:i<n
 .refine s i a b c d w _ q h λa' f j p w' h'=>⟨⟨i+1,?_,q,h'⟩,?_⟩
  .rw[wrap_i64 Ω Ω];rfl
  .rw[wrap_i64 Ω Ω];simp only[b0];omega
 .have:i=n:=Ω
  subst this;exact x a b c d w _ h
section
variable{P:W9}{w:x4}{m:Bool}{S R:af}
theorem Jc(l:Λ):(l.map λx=>[V5 k x]).flatten=ints k l:=by
 induction l with
 |nil=>rfl
 |cons x l a=>simp only[T1,List.flatten_cons,a];rfl
theorem kX{g:Nat}(h:aq .i64 e w g v l):bl (λr=>r=g) R w [v] l:=by
 have j:(l.map λx=>[V5 .i64 x]).flatten=ints .i64 l:=Jc l;refine⟨v,rfl,l.map λx=>[Δ x],g,λ_ _=>False,⟨λ_ _ h=>h.elim,λ_ _ h=>h,λ_ _ _ _ _ h=>h.elim⟩,⟨Ξ,λi c a f p=>?_⟩,?_,λ_=>⟨.inr rfl,e,?_⟩⟩
 .rw[v8,p]at f;simp at f;exact f.symm
 .rw[j];exact nC h (.inr (.inl rfl))
 .rw[j];exact h
def jh.val(x:jh k):Int:=x
theorem zP(h:bl S R w [v] l):∃g e,aq .i64 e w g v l/\(v= .slice ν 0 0\/S g):=by
 obtain⟨vs,g,F,_,he,I,hm⟩:=ie h;obtain⟨h1,e,a⟩:=hm rfl;rw[zL he]at a;exact⟨g,e,a,h1⟩
end
end Go.Vc
namespace Go.Proofs.YtikkpokkcdocoaaGreatDoor
open Go Go.Vc Go.RowKit Go.Proofs Go.Proofs.Tryz
set_option maxRecDepth 100000
def right(k:Int):Prop:=1<=k/\k<=2147483648
def cz(a k:Int):Prop:=right k/\0<=a/\a<=k
instance (k:Int):Decidable (right k):=by unfold right;infer_instance
instance (a k:Int):Decidable (cz a k):=by unfold cz;infer_instance
theorem zQ{k:Int}:ai x8 Ii [Δ k] w λv w'=>v= .bool (decide (right k))/\Ext w w':=by
 refine ay func209 ?_;simp only[cv,cQ,kT,aj];refine⟨λh=>⟨?_,Ext.refl _⟩,λh=>⟨?_,Ext.refl _⟩⟩
 .congr 1;simp[right,h]
 .rw[decide_eq_false];intro a;exact h a.1
theorem jI{k:Int}:ai x8 HG [Δ a,Δ k] w λv w'=>v= .bool (decide (cz a k))/\Ext w w':=by
 refine ay func156 ?_;simp only[cv];refine zQ.mono ?_;rintro _ J _ ⟨rfl,e⟩;simp only[cQ,kT,aj];refine⟨λh=>⟨λf=>⟨?_,e⟩,λf=>⟨?_,e⟩⟩,λh=>⟨?_,e⟩⟩
 .congr 1;simp[cz,h,f]
 .rw[decide_eq_false];intro j;exact f j.2.1
 .rw[decide_eq_false];intro j;exact h j.1
theorem Jd{k:Int}:ai x8 Ie [Δ k] w λv w'=>v= .bool (decide (right k))/\Ext w w':=by
 refine ay func203 ?_;simp only[cv,bS,kT,aj];refine⟨λh=>⟨?_,Ext.refl _⟩,λh=>⟨?_,Ext.refl _⟩⟩
 .congr 1;have h':1<=k:=Ω
  simp[right,h']
 .rw[decide_eq_false];intro a;have:=a.1;omega
theorem zR{k:Int}:ai x8 Hs [Δ a,Δ k] w λv w'=>v= .bool (decide (cz a k))/\Ext w w':=by
 refine ay func140 ?_;simp only[cv];refine Jd.mono ?_;rintro _ J _ ⟨rfl,e⟩;simp only[cQ,kT,aj];refine⟨λh=>⟨λf=>⟨?_,e⟩,λf=>⟨?_,e⟩⟩,λh=>⟨?_,e⟩⟩
 .congr 1;simp[cz,h,f]
 .rw[decide_eq_false];intro j;exact f j.2.1
 .rw[decide_eq_false];intro j;exact h j.1
def aN:Λ->Int
 |[]=>1
 |x::r=>x*aN r
theorem zS:∀(a b:Λ),aN (a++b)=aN a*aN b
 |[],b=>by simp[aN]
 |x::a,b=>by simp[aN,zS a b,Int.mul_assoc]
theorem oP{i:Nat}{x:Int}(h:l[i]?=σ x):aN (l.take (i+1))=aN (l.take i)*x:=by
 rw[r8,h,zS];simp[aN]
def cd(l:Λ):Prop:=l.length<=6/\∀x∈l,1<=x/\x<=32
theorem cd.take(h:cd l)(i:Nat):cd (l.take i):=⟨by rw[n9];have:=h.1;omega,λx a=>h.2 x (T9 a)⟩
theorem cd.drop(h:cd l)(i:Nat):cd (l.drop i):=⟨by rw[List.length_drop];have:=h.1;omega,λx a=>h.2 x (List.mem_of_mem_drop a)⟩
theorem kY:∀(l:Λ),(∀x∈l,1<=x/\x<=32)->1<=aN l/\aN l<=32 ^ l.length
 |[],_=>by simp[aN]
 |x::r,h=>by
  obtain⟨h1,a⟩:=kY r λy e=>h y (.tail _ e);obtain⟨f,j⟩:=h x (.head _);simp only[aN,Z5];constructor
  .have:=Int.mul_le_mul f h1 Ω Ω;simpa using this
  .have:=Int.mul_le_mul j a Ω Ω;rw[Int.pow_succ];rw[Int.mul_comm (32 ^ r.length) 32];exact this
theorem prod_bound(h:cd l):1<=aN l/\aN l<=1073741824:=by
 obtain⟨h1,a⟩:=kY l h.2;refine⟨h1,Int.le_trans a ?_⟩;have:(32:Int) ^ l.length<=32 ^ 6:=by
  have e:=h.1
  match l.length,e with
  |0,_=>decide
  |1,_=>decide
  |2,_=>decide
  |3,_=>decide
  |4,_=>decide
  |5,_=>decide
  |6,_=>decide
 simpa using this
def ck:Λ->Λ->Int->Option Int
 |[],[],n=>σ n
 |k::s,v::t,n=>if 0<=v/\v<k then ck s t (n*k+v)else ν
 |_,_,_=>ν
theorem u2:∀(s t:Λ)(n:Int),s.length≠t.length->ck s t n=ν
 |[],[],_,h=>absurd rfl h
 |[],_::_,_,_=>rfl
 |_::_,[],_,_=>rfl
 |k::s,v::t,n,h=>by
  unfold ck;split
  .exact u2 s t _ (by simpa using h)
  .rfl
def cR:Λ->Int->Λ
 |[],_=>[]
 |k::s,n=>(n / aN s) % k::cR s n
theorem ji:∀(s:Λ)(n:Int),(cR s n).length=s.length
 |[],_=>rfl
 |_::s,n=>by simp[cR,ji s n]
theorem zT:∀{s:Λ}{n:Int}{i:Nat}{k:Int},s[i]?=σ k->(cR s n)[i]?=σ ((n / aN (s.drop (i+1))) % k)
 |a::s,n,0,k,h=>by simp at h;subst h;simp[cR]
 |a::s,n,i+1,k,h=>by
  simp only[List.getElem?_cons_succ]at h;simp only[cR,List.getElem?_cons_succ,List.drop_succ_cons];exact zT h
theorem kZ:∀{s t:Λ}{m n:Int},(∀x∈s,1<=x/\x<=32)->ck s t m=σ n->m*aN s<=n/\n<(m+1)*aN s
 |[],[],m,n,_,h=>by simp[ck]at h;subst h;simp[aN];omega
 |k::s,v::t,m,n,I,h=>by
  unfold ck at h;split at h
  .rename_i p;have e:=kZ (λx a=>I x (.tail _ a)) h;have q:=(kY s λx a=>I x (.tail _ a)).1;simp only[aN];have f:m*(k*aN s)=m*k*aN s:=(Int.mul_assoc _ _ _).symm;have j:(m+1)*(k*aN s)=(m*k+k)*aN s:=by rw[<-Int.mul_assoc,Int.add_mul,Int.one_mul]
   rw[f,j];constructor
   .refine Int.le_trans ?_ e.1;exact Int.mul_le_mul_of_nonneg_right Ω Ω
   .refine Int.lt_of_lt_of_le e.2 ?_;exact Int.mul_le_mul_of_nonneg_right Ω Ω
  .cases h
 |[],_::_,_,_,_,h=>by cases h
 |_::_,[],_,_,_,h=>by cases h
def bj:Λ->List (Λ)
 |[]=>[[]]
 |k::s=>(W3 k.toNat).flatMap λ(v:Nat)=>(bj s).map λt=>(v:Int)::t
theorem jj:∀{s:Λ},(∀x∈s,1<=x/\x<=32)->(bj s).length=(aN s).toNat
 |[],_=>rfl
 |k::s,h=>by
  have e:=jj (s:=s) λx a=>h x (.tail _ a);have hk:=h k (.head _);have f:=(kY s λx a=>h x (.tail _ a)).1;simp only[bj,aN,List.length_flatMap,u7,e];rw[List.map_const',List.length_range,List.sum_replicate_nat,Int.toNat_mul Ω Ω]
theorem r5:∀{s x:Λ},x∈bj s->x.length=s.length
 |[],x,h=>by simp[bj]at h;subst h;rfl
 |k::s,x,h=>by
  simp only[bj,List.mem_flatMap,j0]at h;obtain⟨v,_,t,a,rfl⟩:=h;simp[r5 a]
theorem zU{s x:Λ}(h:(bj s)[j]?=σ x):x.length=s.length:=r5 (x6 h)
theorem oQ(h:aH .i64 w sv l)(I:cd l):
  ai x8 G5 [.agg #[sv]] w λv w'=>v=Δ (aN l)/\Ext w w':=by
 refine ay func95 ?_;refine bk λg w0 r f j=>?_;rw[aG bE.p 0 j rfl,aV an.u (h.ext f)];refine⟨λn t J=>Ext w J/\∃i:Nat,t=Δ i/\i<=l.length/\n=Δ (aN (l.take i)),λ_ t _=>l.length-(b0 t).toNat,⟨f,0,rfl,X5 _,rfl⟩,?_⟩;rintro _ _ J ⟨a,i,rfl,hi,rfl⟩;have s:=I.1;simp only[aR,aj];refine⟨λy=>?_,λz=>⟨?_,a⟩⟩
 .obtain⟨x,e⟩:=aD (l:=l) (i:=i) Ω;rw[bc an.u ag.i Ψ (h.ext a) e];have q:=prod_bound (I.take (i+1));rw[oP e]at q;simp only[gp,aM];rw[wrap_i64 Ω Ω,wrap_i64 Ω Ω,<-oP e];refine⟨⟨a,i+1,rfl,Ω,rfl⟩,?_⟩;simp only[b0];omega
 .have:i=l.length:=Ω
  rw[this,o6]
theorem Je{i:Nat}(h:aH .i64 w sv l)(I:cd l)(hi:i<l.length):
  ai x8 HF [.agg #[sv],Δ i] w λv w'=>v=Δ (aN (l.drop (i+1)))/\Ext w w':=by
 have B:=I.1;refine ay func154 ?_;refine bk λg w0 C f j=>?_;have a:=h.ext f;simp only[cv,aR,aj];refine⟨λE=>Ω,λ_=>?_⟩;rw[aG bE.p 0 j rfl,aV an.u a];simp only[cQ,aj];refine⟨λG=>Ω,λ_=>?_⟩;rw[aG bE.p 0 j rfl];simp only[aM];have r:X7.wrap ((i:Int)+1)=((i+1:Nat):Int):=by rw[wrap_i64 Ω Ω];omega
 rw[r];have s:=a;obtain⟨_,b,o,base,cap,rfl,H,J,K,L⟩:=id a;rw[hR an.u ag.i (l:=i+1) (h:=l.length) (m:=cap) p4 jE fE Ω Ω Ω];have e:=cc.part (l:=i+1) (h:=l.length) (m:=cap) s Ω Ω Ω Ω;generalize y:(x3.slice (if cap=i+1 then base else V9 (λx=>x.add ((i+1)*1)) base) (l.length-(i+1)) (cap-(i+1)))=q at e ⊢;have z:((ints .i64 l).drop ((i+1)*1)).take ((l.length-(i+1))*1)=ints .i64 (l.drop (i+1)):=by
  rw[j9 Ξ,U2,ints,<-List.map_drop]
 rw[z]at e;rw[dn (cs:=#[q]) (by subst y;kernel_rfl)];refine(oQ (aH.of e) (I.drop (i+1))).mono ?_;rintro _ U _ ⟨rfl,A⟩;exact⟨rfl,f.trans A⟩
def k0(s t:Λ):x3:=match ck s t 0 with
 |some n=>.tuple #[Δ n,Δ 0]
 |none=>.tuple #[Δ 0,Δ 3]
theorem zV{s t:Λ}(h:aH .i64 w sv s)(q:aH .i64 w aO t)(I:cd s):
  ai x8 HD [.agg #[sv],aO] w λv w'=>v=k0 s t/\Ext w w':=by
 have K:=I.1;refine ay func151 ?_;refine bk λg w0 L e r=>?_;rw[aV an.u (q.ext e),aG bE.p 0 r rfl,aV an.u (h.ext e)];simp only[bK,aj];refine⟨λM=>⟨?_,e⟩,λz=>?_⟩
 .unfold k0;rw[u2 _ _ _ Ω]
 .have z:s.length=t.length:=Ω
  rw[aV an.u (q.ext e)];refine⟨λ_ _ n c J=>Ext w0 J/\∃(i:Nat)(m:Int),c=Δ i/\i<=t.length/\n=Δ m/\0<=m/\m<aN (s.take i)/\ck s t 0=ck (s.drop i) (t.drop i) m,λ_ _ _ c _=>t.length-(b0 c).toNat,
   ⟨Ext.refl _,0,0,rfl,X5 _,rfl,Q1 _,by simp[aN],rfl⟩,?_⟩
  rintro _ _ _ _ J ⟨j,i,m,rfl,hi,rfl,A,N,f⟩;have a:=e.trans j;simp only[aR,aj];refine⟨λO=>?_,λP=>⟨?_,a⟩⟩
  .obtain⟨v,B,C⟩:∃v,t[i]?=σ v/\t.drop i=v::t.drop (i+1):=⟨t[i],x7 Ω,X8 Ω⟩;obtain⟨k,hk,E⟩:∃k,s[i]?=σ k/\s.drop i=k::s.drop (i+1):=⟨s[i],x7 Ω,X8 Ω⟩;rw[C,E]at f;have G:=prod_bound (I.take (i+1));have Q:=prod_bound (I.take i);have R:=I.2 k (x6 hk);rw[oP hk]at G;have y:¬(0<=v/\v<k)->k0 s t= .tuple #[Δ 0,Δ 3]:=λH=>by unfold k0;rw[f];simp[ck,H]
   rw[bc an.u ag.i Ψ (q.ext a) B];simp only[cv,aR,aj,bQ];refine⟨λS=>⟨(y Ω).symm,a⟩,λU=>?_⟩;rw[aG bE.p 0 (r.ext j) rfl,bc an.u ag.i Ψ (h.ext a) hk];simp only[cQ,aj];refine⟨λV=>⟨(y Ω).symm,a⟩,λW=>?_⟩;rw[aG bE.p 0 (r.ext j) rfl,bc an.u ag.i Ψ (h.ext a) hk];have X:0<=m*k/\m*k+k<=aN (s.take i)*k:=by
    constructor
    .exact Int.mul_nonneg A Ω
    .have:=Int.mul_le_mul_of_nonneg_right (show m+1<=aN (s.take i) by omega) (show 0<=k by omega);rw[Int.add_mul,Int.one_mul]at this;exact this
   simp only[gp,aM];rw[wrap_i64 (x:=m*k) Ω Ω,wrap_i64 (x:=m*k+v) Ω Ω,wrap_i64 (x:=(i:Int)+1) Ω Ω];refine⟨⟨j,i+1,m*k+v,rfl,Ω,rfl,Ω,by rw[oP hk];omega,?_⟩,?_⟩
   .rw[f];simp[ck,show 0<=v/\v<k from⟨Ω,Ω⟩]
   .simp only[b0];omega
  .have:i=t.length:=Ω
   rw[this,List.drop_of_length_le Ω,List.drop_of_length_le Ω]at f;unfold k0;rw[f];rfl
theorem Jf{e:Nat}{a b:Λ}(h1:cc w 1 s1 e (ints .i64 a))(A:cc w 1 z j (ints .i64 b)):
  ai x8 zi [s1,z] w λv w'=>v= .bool (decide (a=b))/\Ext w w':=by
 have P:a.length=e:=by simpa using h1.1
 have Q:b.length=j:=by simpa using A.1
 have B:=h1.le;obtain⟨_,R,S,V,W,rfl,X,Y,G,H⟩:=h1;obtain⟨_,Z,aa,ab,ac,rfl,ad,ae,I,K⟩:=A;refine ay func179 ?_;simp only[hQ an.u,bK,aj];refine⟨λC=>⟨?_,Ext.refl _⟩,λE=>?_⟩
 .rw[decide_eq_false];rintro rfl;omega
 .have E:e=j:=Ω
  refine⟨λt4 p J=>Ext w J/\∃i:Nat,p=Δ i/\i<=e/\a.take i=b.take i,λ_ p _=>e-(b0 p).toNat,⟨Ext.refl _,0,rfl,X5 _,rfl⟩,?_⟩;rintro t4 _ J ⟨f,i,rfl,hi,q⟩;simp only[aR,aj,eg];refine⟨λr U L _ _=>?_,λaf=>⟨?_,f⟩⟩
  .have r:i<e:=Ω
   have f:=f.trans L;obtain⟨x,s⟩:=aD (l:=a) (i:=i) Ω;obtain⟨y,h⟩:=aD (l:=b) (i:=i) Ω;have M:=iG f (H i _ (kW s));have N:=iG f (K i _ (kW h));rw[eL an.u ag.i r G,U2,aF Ψ M,eL an.u ag.i (E▸r) I,U2,aF Ψ N];simp only[bK,aj,aM];refine⟨λC=>⟨?_,f⟩,λah=>⟨⟨f,i+1,?_,Ω,u0 q s h Ω⟩,?_⟩⟩
   .rw[decide_eq_false];rintro rfl;rw[s]at h;cases h;exact C rfl
   .rw[wrap_i64 Ω (by simp only[maxLen]at B;omega)];rfl
   .rw[wrap_i64 Ω (by simp only[maxLen]at B;omega)];simp only[b0];omega
  .have O:i=e:=Ω
   subst O;rw[decide_eq_true];rw[j9 Ω,j9 Ω]at q;exact q
theorem Jg{s:x3}{a:Λ}(h1:cc w 1 s n (ints .i64 a))(B:n<=1000000):
  ai x8 y4 [s] w λv w'=>Ext w w'/\∃g,w.heap.size<=g/\bW w' g ag 1 v n (ints .i64 a):=by
 have j:=h1;obtain⟨p,C,E,G,H,rfl,I,K,q,L⟩:=h1;refine ay func87 ?_;simp only[r1 an.u,cj];refine⟨λf=>⟨Ext.refl _,w.heap.size,o5 _,?_⟩,λ_=>?_⟩
 .have:n=0:=by
   rcases Q2 n with h|h
   .exact h
   .rw[q h]at f;cases f
  subst this;have:ints .i64 a=[]:=b9 (by simpa using p);rw[this];exact bW.nil _ _ _ _
 .refine jF an.u ag.i Ω (cs:=#[]) Ψ ?_;intro g J M e x;refine nz (g:=g) an.u an.u ag.i rfl (bW.full x rfl Ω) (j.ext e) (p6 _ _) Ω (by simp only[maxLen];omega) ?_;intro N y U O z A;refine⟨e.then A (by rintro r P rfl;omega),y,?_,?_⟩
  .have:=e.size;omega
  .simpa using z
theorem Jh{e:Nat}{a b:Λ}(h1:cc w 1 s1 e (ints .i64 a))(A:cc w 1 z j (ints .i64 b)):
  ai x8 yU [s1,z] w λv w'=>v= .bool (decide (a=b))/\Ext w w':=by
 have P:a.length=e:=by simpa using h1.1
 have Q:b.length=j:=by simpa using A.1
 have B:=h1.le;obtain⟨_,R,S,V,W,rfl,X,Y,G,H⟩:=h1;obtain⟨_,Z,aa,ab,ac,rfl,ad,ae,I,K⟩:=A;refine ay func22 ?_;simp only[hQ au.u,bK,aj];refine⟨λC=>⟨?_,Ext.refl _⟩,λE=>?_⟩
 .rw[decide_eq_false];rintro rfl;omega
 .have E:e=j:=Ω
  refine⟨λt4 p J=>Ext w J/\∃i:Nat,p=Δ i/\i<=e/\a.take i=b.take i,λ_ p _=>e-(b0 p).toNat,⟨Ext.refl _,0,rfl,X5 _,rfl⟩,?_⟩;rintro t4 _ J ⟨f,i,rfl,hi,q⟩;simp only[aR,aj,eg];refine⟨λr U L _ _=>?_,λaf=>⟨?_,f⟩⟩
  .have r:i<e:=Ω
   have f:=f.trans L;obtain⟨x,s⟩:=aD (l:=a) (i:=i) Ω;obtain⟨y,h⟩:=aD (l:=b) (i:=i) Ω;have M:=iG f (H i _ (kW s));have N:=iG f (K i _ (kW h));rw[eL au.u ao.i r G,U2,aF Ψ M,eL au.u ao.i (E▸r) I,U2,aF Ψ N];simp only[bK,aj,aM];refine⟨λC=>⟨?_,f⟩,λag=>⟨⟨f,i+1,?_,Ω,u0 q s h Ω⟩,?_⟩⟩
   .rw[decide_eq_false];rintro rfl;rw[s]at h;cases h;exact C rfl
   .rw[wrap_i64 Ω (by simp only[maxLen]at B;omega)];rfl
   .rw[wrap_i64 Ω (by simp only[maxLen]at B;omega)];simp only[b0];omega
  .have O:i=e:=Ω
   subst O;rw[decide_eq_true];rw[j9 Ω,j9 Ω]at q;exact q
theorem Ji{s:x3}{a:Λ}(h1:cc w 1 s n (ints .i64 a))(B:n<=1000000):
  ai x8 zk [s] w λv w'=>Ext w w'/\∃g,w.heap.size<=g/\bW w' g ao 1 v n (ints .i64 a):=by
 have j:=h1;obtain⟨p,C,E,G,H,rfl,I,K,q,L⟩:=h1;refine ay func194 ?_;simp only[r1 au.u,cj];refine⟨λf=>⟨Ext.refl _,w.heap.size,o5 _,?_⟩,λ_=>?_⟩
 .have:n=0:=by
   rcases Q2 n with h|h
   .exact h
   .rw[q h]at f;cases f
  subst this;have:ints .i64 a=[]:=b9 (by simpa using p);rw[this];exact bW.nil _ _ _ _
 .refine jF au.u ao.i Ω (cs:=#[]) Ψ ?_;intro g J M e x;refine nz (g:=g) au.u au.u ao.i rfl (bW.full x rfl Ω) (j.ext e) (p6 _ _) Ω (by simp only[maxLen];omega) ?_;intro N y U O z A;refine⟨e.then A (by rintro r P rfl;omega),y,?_,?_⟩
  .have:=e.size;omega
  .simpa using z
theorem Jj{e:x3}{a b:Λ}(h1:aH .i64 w s1 a)(f:aH .i64 w e b):
  ai x8 zi [s1,e] w λv w'=>v= .bool (decide (a=b))/\Ext w w':=Jf h1 f
theorem jJ{s:x3}{a:Λ}(h1:aH .i64 w s a)(e:a.length<=1000000):
  ai x8 y4 [s] w λv w'=>Ext w w'/\∃g,w.heap.size<=g/\aq .i64 ag w' g v a:=Jg h1 e
theorem Jk{e:x3}{a b:Λ}(h1:aH .i64 w s1 a)(f:aH .i64 w e b):
  ai x8 yU [s1,e] w λv w'=>v= .bool (decide (a=b))/\Ext w w':=Jh h1 f
theorem u3{s:x3}{a:Λ}(h1:aH .i64 w s a)(e:a.length<=1000000):
  ai x8 zk [s] w λv w'=>Ext w w'/\∃g,w.heap.size<=g/\aq .i64 ao w' g v a:=Ji h1 e
theorem Jl{n:Int}(h:aH .i64 w sv l)(I:cd l)(x:0<=n)(X:n<aN l):
  ai x8 G6 [.agg #[sv],Δ n] w λv w'=>Ext w w'/\∃aO g,v= .tuple #[aO,Δ 0]/\w.heap.size<=g/\aq .i64 ag w' g aO (cR l n):=by
 have Y:=I.1;have Z:=prod_bound I;refine ay func96 ?_;refine bk λg w0 aa y a=>?_;have ab:=h.cells;simp only[cv,aR,aj];refine⟨λac=>Ω,λ_=>?_⟩;rw[bF bE.p bE.i rfl a.range];refine(oQ (h.ext y) I).mono ?_;rintro _ J _ ⟨rfl,f⟩;simp only[cQ,aj];refine⟨λae=>Ω,λ_=>?_⟩;have j:=y.trans f;rw[aG bE.p 0 (a.ext f) rfl,aV an.u (h.ext j)];refine jG an.u ag.i Ω Ω ?_;intro E U af z L;simp only[hQ an.u];have M:=j.trans z;have s0:=y.size;have s1:=f.size;have ah:=a.lt;refine⟨λt q=>Ext w q/\Ext w0 q/\∃i:Nat,t=Δ i/\i<=l.length/\ad q E ag (ints .i64 ((cR l n).take i++o4 (l.length-i) 0)),λt _=>l.length-(b0 t).toNat,
  ⟨M,f.trans z,0,rfl,X5 _,by simpa using L⟩,?_⟩
 rintro _ q ⟨A,B,i,rfl,hi,G⟩;simp only[aR,aj];refine⟨λC=>?_,λak=>?_⟩
 .have C:i<l.length:=Ω
  rw[bF bE.p bE.i rfl (a.ext B).range];refine(Je (h.ext A) I C).mono ?_;rintro _ al _ ⟨rfl,N⟩;simp only[eg];intro am O _ _;have s:=N.trans O;have H:=A.trans s;obtain⟨k,hk⟩:∃k,l[i]?=σ k:=⟨l[i],x7 Ω⟩;have ao:=I.2 k (x6 hk);have ap:=prod_bound (I.drop (i+1));have P:0<=n / aN (l.drop (i+1)):=Int.ediv_nonneg x Ω;have au:n / aN (l.drop (i+1))<=n:=Int.ediv_le_self _ x;rw[p2 Ω,Int.tdiv_eq_ediv_of_nonneg x,wrap_i64 Ω Ω,
   aG bE.p 0 ((a.ext B).ext s) rfl,bc an.u ag.i Ψ (h.ext H) hk,
   p3 Ω,Int.tmod_eq_emod_of_nonneg P,eL an.u ag.i C (λ_=>rfl),U2]
  refine bq ag.i rfl rfl (G.ext s) (by simp[ji];omega) ?_;intro av K aw Q;simp only[aM];rw[wrap_i64 Ω Ω];have ax:=z.size;have az:=j.size;refine⟨⟨H.then K (by rintro r R rfl;omega),(B.trans s).then K (by rintro r R rfl;omega),i+1,rfl,Ω,?_⟩,?_⟩
  .have S:=zT (n:=n) hk;have e:(ints .i64 ((cR l n).take i++o4 (l.length-i) 0)).set (0+i) (Δ (n / aN (l.drop (i+1)) % k))=ints .i64 ((cR l n).take (i+1)++o4 (l.length-(i+1)) 0):=by
    have V:((cR l n).take i).length=i:=by rw[n9,ji];omega
    rw[X3,ints,<-U5];congr 1;rw[List.set_append,if_neg Ω,V,U4,show l.length-i=(l.length-(i+1))+1 by omega,List.replicate_succ,List.set_cons_zero,r8,S];simp
   rw[<-e];exact Q
  .simp only[b0];omega
 .have W:i=l.length:=Ω
  subst W;refine⟨A,_,E,rfl,by have:=j.size;omega,aq.of (n:=l.length) (bW.full ?_ (by simp[ints,ji]) (by simp[maxLen];omega))⟩;have e:(cR l n).take l.length++o4 (l.length-l.length) 0=cR l n:=by rw[U4,j9 (by rw[ji];omega)];simp
  rw[<-e];exact G
def ih(x:Int):Prop:=1<=x/\x<=32
instance (x:Int):Decidable (ih x):=by unfold ih;infer_instance
theorem Jm{x:Int}:ai x8 rW [Δ x] w λv w'=>v= .bool (decide (¬ih x))/\Ext w w':=by
 refine ay func272 ?_;simp only[cv,aR,bS,aj];refine⟨λh=>⟨?_,Ext.refl _⟩,λh=>⟨?_,Ext.refl _⟩⟩
 .rw[decide_eq_true];intro a;have:=a.1;omega
 .congr 1;have:(32<x)=(¬ih x):=propext ⟨λe a=>by have:=a.2;omega,λe=>by
   by_cases f:32<x
   .exact f
   .exact absurd ⟨Ω,Ω⟩ e⟩
  simp only[this]
theorem Jn(h:aH .i64 w sv l):
  ai x8 uO [sv,.func (.func rW) #[] #[]] w λv w'=>Ext w w'/\∃n:Int,v=Δ n/\((0<=n)=¬∀x∈l,ih x):=by
 have z:=h.le;refine ay func138 ?_;rw[aV an.u h];refine⟨λ_ t J=>Ext w J/\∃i:Nat,t=Δ i/\i<=l.length/\∀x∈l.take i,ih x,λ_ t _=>l.length-(b0 t).toNat,⟨Ext.refl _,0,rfl,X5 _,Ξ⟩,?_⟩;rintro _ _ J ⟨e,i,rfl,hi,f⟩;simp only[aR,aj];refine⟨λA=>?_,λB=>⟨e,-1,rfl,?_⟩⟩
 .obtain⟨x,j⟩:=aD (l:=l) (i:=i) Ω;rw[bc an.u ag.i Ψ (h.ext e) j];show ai x8 rW [Δ x] J _;refine Jm.mono ?_;rintro _ U _ ⟨rfl,p⟩;simp only[aj,aM];refine⟨λq=>⟨e.trans p,i,rfl,?_⟩,λr=>?_⟩
  .exact propext ⟨λ_ s=>q (s x (x6 j)),λ_=>Ω⟩
  .rw[wrap_i64 Ω Ω];refine⟨⟨e.trans p,i+1,rfl,Ω,λy a=>?_⟩,?_⟩
   .rw[r8,j]at a;rcases l9.1 a with a|a
    .exact f y a
    .simp at a;subst a;exact X2.1 r
   .simp only[b0];omega
 .have:i=l.length:=Ω
  rw[this,o6]at f;exact propext ⟨λh=>Ω,λh=>absurd f h⟩
theorem Jo(h:aH .i64 w sv l):
  ai x8 uR [sv,.func (.func rW) #[] #[]] w λv w'=>v= .bool (decide (¬∀x∈l,ih x))/\Ext w w':=by
 refine ay func214 ?_;refine(Jn h).mono ?_;rintro _ J _ ⟨a,n,rfl,e⟩;simp only[cQ];exact⟨by congr 1;simp only[e],a⟩
def Jp(w:x4)(l:Λ)(v:x3)(w':x4):Prop:=
 Ext w w'/\
   (¬cd l->v= .tuple #[.agg #[.slice ν 0 0],Δ 1])/\
   (cd l->4096<aN l->v= .tuple #[.agg #[.slice ν 0 0],Δ 5])/\
   (cd l->aN l<=4096->∃g aO,v= .tuple #[.agg #[aO],Δ 0]/\w.heap.size<=g/\aq .i64 ag w' g aO l)
theorem Jq(h:aH .i64 w sv l):ai x8 Ix [sv] w (Jp w l):=by
 refine ay func239 ?_;refine bw bE.i λY J av a q=>?_;have ax:=q.lt;refine aW (λv U=>Ext w U/\Ext J U/\∃c:Bool,v= .bool c/\((c=true)=¬cd l)) ?_ ?_
 .rintro _ U ⟨s,x,c,rfl,H⟩;simp only[cj];refine⟨λZ=>?_,λab=>?_⟩
  .have K:¬cd l:=by rw[<-H];exact Z
   rw[dn (cs:=#[.slice ν 0 0]) Ψ];refine bT (vs:=[.slice ν 0 0]) bE.i rfl rfl (by simp;rfl) (q.ext x) ?_;intro az ac aA af;rw[e6 bE.p bE.i rfl af.range];exact⟨s.then ac (by rintro r y rfl;omega),λ_=>rfl,λh=>absurd h K,λh=>absurd h K⟩
  .have e:cd l:=by
    have L:¬(c=true):=by simp[ab]
    rw[H]at L;exact Classical.not_not.1 L
   have aB:=e.1;refine(jJ (h.ext s) Ω).mono ?_;rintro aO M _ ⟨z,N,aC,hm⟩;have O:=hm.ls.cells;rw[dn (cs:=#[aO]) (by obtain⟨_,_,_,_,_,rfl,_⟩:=hm.ls;kernel_rfl)];refine bw bE.i λgs aD aE A ah=>?_;refine bT (vs:=[aO]) bE.i rfl rfl (by intro u hu;simp at hu;subst hu;exact O.2) ah ?_;intro B P aF Q;rw[bF bE.p bE.i rfl Q.range];have aG:=z.size;have aI:=A.size;have aJ:=x.size;have aK:ae (λr=>r=gs) M B:=(A.aa _).trans P;have C:Ext M B:=A.then P (by rintro r y rfl;omega);have ak:=(s.trans z).trans C;have R:aq .i64 ag B N aO l:=hm.ext C;refine(oQ R.ls e).mono ?_;rintro _ al _ ⟨rfl,f⟩;have S:=ak.trans f;have V:ad al Y bE [.slice ν 0 0]:=q.ext (((x.trans z).trans C).trans f);simp only[bS,aj];refine⟨λam=>?_,λao=>?_⟩
   .rw[dn (cs:=#[.slice ν 0 0]) Ψ];refine bT (vs:=[.slice ν 0 0]) bE.i rfl rfl (by simp;rfl) V ?_;intro ap j au E;rw[e6 bE.p bE.i rfl E.range];exact⟨S.then j (by rintro r y rfl;omega),λh=>absurd e h,λ_ _=>rfl,λ_ h=>Ω⟩
   .rw[bF bE.p bE.i rfl (Q.ext f).range];refine bT (vs:=[aO]) bE.i rfl rfl (by intro u hu;simp at hu;subst hu;exact O.2) V ?_;intro ap j au E;rw[e6 bE.p bE.i rfl E.range];have aL:=a.size;exact⟨S.then j (by rintro r y rfl;omega),λh=>absurd e h,λ_ h=>Ω,λ_ _=>⟨N,aO,rfl,Ω,(R.ext f).aa j Ω⟩⟩
 .intro aw W;rw[aV an.u (h.ext a)];simp only[bS,aj];refine⟨λam=>W _ _ ⟨a,Ext.refl _,true,rfl,?_⟩,λao=>?_⟩
  .exact propext ⟨λ_ I=>by have:=I.1;omega,λ_=>rfl⟩
  .refine (Jo (h.ext a)).mono ?_;rintro _ U _ ⟨rfl,X⟩;refine W _ _ ⟨a.trans X,X,_,rfl,?_⟩;rw[decide_eq_true_eq];exact propext ⟨λG I=>G I.2,λG I=>G ⟨Ω,I⟩⟩
theorem va{P:W9}(f:0<=a)(h1:a<4294967296):
  V P (aJ .and t cx cy (.int .u64 a) (.int .u64 4294967295)) w K=K (.int .u64 a):=V.of λw' _=>by
 obtain⟨n,rfl⟩:=U6 f;have q:n<4294967296:=Ω
 have e:(T0 64 (n:Int) &&& T0 64 4294967295).toNat=n:=by
  rw[BitVec.toNat_and,BitVec.toNat_ofInt,BitVec.toNat_ofInt];have h:((n:Int) % ((2 ^ 64:Nat):Int)).toNat=n:=Ω
  have j:((4294967295:Int) % ((2 ^ 64:Nat):Int)).toNat=2 ^ 32-1:=Φ
  rw[h,j,Nat.and_two_pow_sub_one_eq_mod];omega
 have p:(T0 U8.bits (n:Int) &&& T0 U8.bits 4294967295).toNat=n:=e;simp only[aJ,eqGuard,binOp,Op.intBits,p];rw[wrap_u64 Ω Ω];rfl
theorem p8{P:W9}(f:0<=a)(h1:a<4294967296):
  V P (aJ .shr t cx cy (.int .u64 a) (.int .u64 32)) w K=K (.int .u64 0):=V.of λw' _=>by
 have e:a.fdiv (2 ^ min 32 U8.bits)=0:=by
  have:(2:Int) ^ min 32 U8.bits=4294967296:=rfl;rw[this,Int.fdiv_eq_ediv_of_nonneg _ Ω];omega
 simp[aJ,eqGuard,binOp,Op.shift,e]
theorem Jr{x:Int}(f:0<=x/\x<65536)(e:0<=y/\y<65536):
  ai x8 IQ [.int .u64 x,.int .u64 y] w λv w'=>v= .tuple #[.int .u64 0,.int .u64 (x*y)]/\Ext w w':=by
 have j:0<=x*y/\x*y<4294967296:=⟨Int.mul_nonneg f.1 e.1,by
  have:x*y<=65535*65535:=Int.mul_le_mul Ω Ω e.1 Ω;omega⟩
 refine ay func273 ?_;refine ai.mono (K:=λv w'=>v= .tuple #[.int .u64 0,.int .u64 (x*y)]/\Ext w w') ?_ ?_
 .refine ay func288 ?_;rw[va Ω Ω,p8 Ω Ω,va Ω Ω,p8 Ω Ω];simp only[gp,Int.zero_mul,Int.mul_zero];rw[wrap_u64 (x:=x*y) Ω Ω,show U8.wrap 0=0 from rfl,p8 (a:=x*y) Ω Ω];simp only[aM,Int.add_zero];rw[show U8.wrap 0=0 from rfl,va Ω Ω,p8 Ω Ω];simp only[gp,aM,Int.zero_mul,Int.mul_zero,Int.add_zero,show U8.wrap 0=0 from rfl];rw[p8 Ω Ω];simp only[gp,aM,Int.add_zero,show U8.wrap 0=0 from rfl];exact⟨trivial,Ext.refl _⟩
 .rintro _ J _ ⟨rfl,h⟩;rw[bz,bA];exact⟨rfl,h⟩
theorem zW{dO:x3}{c:Int}(h:aH .i64 w dO [c])(Y:n<65536):
  ai x8 Iy [dO,Δ n] w λv w'=>Ext w w'/\∃g,w.heap.size<=g/\aq .i64 ao w' g v (o4 n c):=by
 refine ay func240 ?_;refine dl (λJ=>w=J) ?_ ?_
 .rintro _ rfl;rw[aV au.u h,fo ag.u oL.u,fo ag.u oL.u,wrap_u64 Ξ Ξ,wrap_u64 Ω Ω];refine(Jr (x:=([c].length:Int)) Ξ Ω).mono ?_;rintro _ U _ ⟨rfl,z⟩;rw[bz,bA];have G:(([c].length:Int)*n)=(n:Int):=Ξ
  rw[G];refine dl (λa=>U=a) ?_ ?_
  .rintro _ rfl;rw[fo oL.u ag.u,wrap_i64 Ω Ω];refine jG au.u ao.i Ω Ω ?_;intro g Z aa H I;have A:=z.trans H;have ab:=z.size;refine zF au.u ao.i I (o:=0) (λ_=>rfl) Ξ (h.ext A) (p6 _ _) ?_;intro ac K ae B;have L:=A.then K (by rintro r M rfl;omega);have st:over (ints .i64 (o4 n 0)) 0 ((ints .i64 [c]).take n)=ints .i64 (o4 (min 1 n) c++o4 (n-min 1 n) 0):=by
    rcases Q2 n with rfl|e
    .simp[over]
    .rw[j9 Θ,mv Θ];have:min 1 n=1:=Ω
     simp[this,ints]
   rw[st]at B;refine⟨λt f=>Ext w f/\∃i:Nat,t=Δ i/\i<=n/\(0<n->0<i)/\ad f g ao (ints .i64 (o4 i c++o4 (n-i) 0)),λt _=>n-(b0 t).toNat,
    ⟨L,min 1 n,Ξ,Ω,Ω,B⟩,?_⟩
   rintro _ f ⟨p,i,rfl,hi,af,q⟩;simp only[hQ au.u,aR,aj,eg];refine⟨λN O s _ _=>?_,λah=>?_⟩
   .have N:i<n:=Ω
    have C:=q.ext s;rw[hR au.u ao.i (l:=i) (h:=n) (m:=n) p4 jE fE Ω Ω Ω,
     hR au.u ao.i (l:=0) (h:=i) (m:=n) jD p5 fE Ω Ω Ω]
    have P:cc O 1 (.slice (σ ⟨g,0,ν⟩) n n) n (ints .i64 (o4 i c++o4 (n-i) 0)):=(bW.full C (by simp<;>omega) (by simp[maxLen]<;>omega)).sl;have e:=P.part (l:=0) (h:=i) (m:=n) Ω Ω Ω Ω;have Q:((ints .i64 (o4 i c++o4 (n-i) 0)).drop (0*1)).take ((i-0)*1)=ints .i64 (o4 i c):=by
     simp[ints]
    rw[Q]at e;refine zF au.u ao.i C (o:=i) (λ_=>?_) (by simp<;>omega) e (p6 _ _) ?_
    .rw[if_neg Ω];simp[T4]
    .intro ak R al E;have am:=p.size;have an:=s.size;have S:over (ints .i64 (o4 i c++o4 (n-i) 0)) i ((ints .i64 (o4 i c)).take (n-i))=ints .i64 (o4 (i+min i (n-i)) c++o4 (n-(i+min i (n-i))) 0):=by
      apply Y7;intro j;rw[nx _ _ _ (by simp[ints]<;>omega)];simp only[ints,Z2,List.map_replicate,List.getElem?_append,List.getElem?_take,List.getElem?_replicate,n9,List.length_replicate]
      repeat' split
      all_goals first|rfl|omega
     rw[S]at E;have V:min (i-0) (n-i)=min i (n-i):=Ω
     simp only[aM,V];have W:X7.wrap ((i:Int)+((min i (n-i):Nat):Int))=((i+min i (n-i):Nat):Int):=by rw[wrap_i64 Ω Ω];omega
     rw[W];refine⟨⟨(p.trans s).then R (by rintro r M rfl;omega),_,rfl,Ω,Ω,E⟩,?_⟩;simp only[b0,u9];omega
   .have:i=n:=Ω
    subst this;rw[U4,List.replicate_zero,U9]at q;exact⟨p,g,Ω,aq.of (n:=i) (bW.full q Ξ (by simp[maxLen];omega))⟩
  .intro aw y;refine aW (λv a=>v= .bool false/\U=a) ?_ ?_
   .rintro _ _ ⟨rfl,rfl⟩;rw[aY];exact y _ rfl
   .intro ap X;simp only[bS,aj];refine⟨λh=>Ω,λ_=>X _ _ ⟨?_,rfl⟩⟩;rw[decide_eq_false];omega
 .intro aw y;simp only[aR,aj];exact⟨λh=>Ω,λ_=>y _ rfl⟩
def leads(v:x3)(r:Nat):Prop:=∃a n c,v= .slice (σ a) n c/\a.block=r
theorem bR{g:Nat}(h:aq k e w g v l){r:Nat}(f:leads v r):r=g/\g<w.heap.size:=by
 obtain⟨a,n,c,rfl,rfl⟩:=f;obtain⟨_,⟨h,_⟩|⟨cap,cs,h,j,_⟩⟩:=h
 .cases h
 .cases h;exact⟨rfl,j.lt⟩
theorem br{g:Nat}(h:aq k e w g v l)(a:ae S w w')(f:∀r,leads v r->¬S r):aq k e w' g v l:=by
 refine⟨h.1,h.2.imp id λ⟨cap,cs,h1,j,p⟩=>⟨cap,cs,h1,j.aa a (f g ⟨_,_,_,h1,rfl⟩),p⟩⟩
def df(w:x4)(g a:Nat)(sv:x3)(ah:Λ)(k:Int)(cs:Λ):Prop:=
 (∃aZ gs,ad w g cX [sv,Δ k,aZ]/\aq .i64 ag w gs sv ah/\aq .i64 ao w a aZ cs)/\(g≠a/\¬leads sv a/\aN ah<=4096)/\cd ah/\cs.length=(aN ah).toNat
theorem df.ext{g e:Nat}{k:Int}{cs:Λ}(h:df w g e sv ah k cs)(a:Ext w w'):df w' g e sv ah k cs:=by
 obtain⟨⟨aZ,gs,h1,f,j⟩,p⟩:=h;exact⟨⟨aZ,gs,h1.ext a,f.ext a,j.ext a⟩,p⟩
def zX(w:x4)(l:Λ)(k a:Int)(v:x3)(w':x4):Prop:=
 Ext w w'/\
  (¬cd l->v= .tuple #[.pointer ν,Δ 1])/\
  (cd l->4096<aN l->v= .tuple #[.pointer ν,Δ 5])/\
  (cd l->aN l<=4096->¬cz a k->v= .tuple #[.pointer ν,Δ 3])/\
  (cd l->aN l<=4096->cz a k->∃g e sv,v= .tuple #[Γ g,Δ 0]/\w.heap.size<=g/\w.heap.size<=e/\(∀r,leads sv r->w.heap.size<=r)/\
   df w' g e sv l k (o4 (aN l).toNat a))
theorem vb{k A:Int}(h:aH .i64 w sv l):ai x8 H3 [sv,Δ k,Δ A] w (zX w l k A):=by
 refine ay func191 ?_;refine(Jq h).mono ?_;rintro v J _ ⟨L,Z,aa,ab⟩;obtain⟨aO,e,rfl,ac,he⟩:∃(aO:x3)(e:Int),v= .tuple #[.agg #[aO],Δ e]/\aO.oneCell'=true/\
   ((e=1/\¬cd l)\/(e=5/\cd l/\4096<aN l)\/(e=0/\cd l/\aN l<=4096/\∃g,w.heap.size<=g/\aq .i64 ag J g aO l)):=by
  by_cases I:cd l
  .by_cases z:aN l<=4096
   .obtain⟨g,aO,rfl,h1,M⟩:=ab I z;exact⟨aO,0,rfl,M.ls.cells.2,.inr (.inr ⟨rfl,I,z,g,h1,M⟩)⟩
   .exact⟨_,_,aa I Ω,rfl,.inr (.inl ⟨rfl,I,Ω⟩)⟩
  .exact⟨_,_,Z I,rfl,.inl ⟨rfl,I⟩⟩
 rw[bz,bA];refine bw bE.i λaM U aP ad ae=>?_;refine bT (vs:=[aO]) bE.i rfl rfl (by intro u hu;simp at hu;subst hu;exact ac) ae ?_;intro af ah aQ ak;have N:Ext J af:=ad.then ah (by rintro r j rfl;omega);have O:=L.trans N;simp only[bK,aj];refine⟨λam=>⟨O,?_⟩,λaR=>?_⟩
 .rcases he with⟨rfl,B⟩|⟨rfl,I,z⟩|⟨rfl,_⟩
  .exact⟨λ_=>rfl,λh=>absurd h B,λh=>absurd h B,λh=>absurd h B⟩
  .exact⟨λh=>absurd I h,λ_ _=>rfl,λ_ h=>Ω,λ_ h=>Ω⟩
  .exact absurd rfl am
 .obtain⟨rfl,I,z,gs,aS,hm⟩:e=0/\cd l/\aN l<=4096/\∃g,w.heap.size<=g/\aq .i64 ag J g aO l:=by
   rcases he with⟨rfl,B⟩|⟨rfl,I,z⟩|h
   .omega
   .omega
   .exact h
  have aT:=prod_bound I;refine jI.mono ?_;rintro _ aU _ ⟨rfl,E⟩;have P:=O.trans E;simp only[bJ,cj];refine⟨λan=>⟨P,λh=>absurd I h,λ_ h=>Ω,λ_ _ _=>rfl,λ_ _ h=>by simp[h]at an⟩,λap=>?_⟩;have av:cz A k:=by simpa using ap
  simp only[cv,eg];intro Q G _ _;have aw:=P.trans G;have C:=(N.trans E).trans G;have R:=(ak.ext E).ext G;rw[bF bE.p bE.i rfl R.range,bF bE.p bE.i rfl R.range];have s1:=L.size;have aV:=C.size;have S:((aN l).toNat:Int)=aN l:=Ω
  have W:∀{x:x4}{s:x3}{y:Nat},Ext Q x->Q.heap.size<=y->aq .i64 ao x y s (o4 (aN l).toNat A)->
    V x8 (Instr.build cX #[(0,.agg #[aO]),(1,Δ k),(2,s)]) x λax=>aC x8 (Instr.box cX ax) x λaz X=>zX w l k A (.tuple #[az,Δ 0]) X:=by
   intro x s y q Y j;rw[dn (cs:=#[aO,Δ k,s]) (by
    obtain⟨_,_,_,_,_,rfl,_⟩:=j.ls;obtain⟨_,_,_,_,_,rfl,_⟩:=hm.ls;kernel_rfl)]
   refine bk λg X aW H aA=>?_;have aX:=q.size;have aB:leads s y:=by
    obtain⟨aY,⟨_,aD⟩|⟨cap,cs,rfl,_⟩⟩:=j
    .simp at aD;omega
    .exact⟨_,_,_,rfl,rfl⟩
   have aZ:=(bR j aB).2;refine⟨(aw.trans q).trans H,λh=>absurd I h,λ_ h=>Ω,λ_ _ h=>absurd av h,λ_ _ _=>⟨g,y,aO,rfl,Ω,Ω,λr aE=>?_,⟨s,gs,aA,((hm.ext C).ext q).ext H,j.ext H⟩,⟨Ω,λaF=>?_,z⟩,I,Ξ⟩⟩
   .have:=(bR hm aE).1;omega
   .have:=bR hm aF;omega
  constructor
  .refine eM au.u ao.i rfl λdO al aG aI a K=>⟨.inl a,?_⟩;refine(oQ ((hm.ext C).ext a).ls I).mono ?_;rintro _ aJ _ ⟨rfl,f⟩;refine⟨.inl (a.trans f),?_⟩;rw[<-S];refine(zW (K.ext f).ls Ω).mono ?_;rintro s x _ ⟨q,y,Y,j⟩;have aK:=a.size;have aL:=f.size;exact⟨.inl ((a.trans f).trans q),W ((a.trans f).trans q) Ω j⟩
  .refine (oQ (hm.ext C).ls I).mono ?_;rintro _ aG _ ⟨rfl,a⟩;refine⟨.inl a,?_⟩;refine eM au.u ao.i rfl λdO al aJ aI f K=>⟨.inl (a.trans f),?_⟩;rw[<-S];refine(zW K.ls Ω).mono ?_;rintro s x _ ⟨q,y,Y,j⟩;have aK:=a.size;have aL:=f.size;exact⟨.inl ((a.trans f).trans q),W ((a.trans f).trans q) Ω j⟩
theorem nD{g:Nat}{a:List x3}{o:Nat}(h:ad w g e cs)(f:∀j v,a[j]?=σ v->cs[o+j]?=σ v):w.rangeAt g o a:=λj v p=>h.cell (f j v p)
theorem zY{g:Nat}{t:Λ}{k:Int}{cs:Λ}(h:df w g f sv ah k cs)(q:aH .i64 w aO t):
  ai x8 IC [Γ g,aO] w λv w'=>v=k0 ah t/\Ext w w':=by
 obtain⟨⟨aZ,gs,r,hm,s⟩,_,I,_⟩:=h;refine ay func245 ?_;rw[da e0.u];simp only[Z6,aY];rw[bX,aS cX.p rfl,bF (cs:=[sv]) bE.p bE.i rfl (nD r (by
  intro j v a
  match j,a with
  |0,a=>exact a))]
 refine(zV hm.ls q I).mono ?_;rintro _ J _ ⟨rfl,e⟩;unfold k0;cases ck ah t 0 with
 |none=>rw[bz,bA];exact⟨rfl,e⟩
 |some n=>rw[bz,bA];exact⟨rfl,e⟩
def oR(ah t cs:Λ):x3:=match ck ah t 0 with
 |some n=>.tuple #[Δ (cs.getD n.toNat 0),Δ 0]
 |none=>.tuple #[Δ 0,Δ 3]
theorem zZ{t cs:Λ}{n:Int}(I:cd ah)(a:cs.length=(aN ah).toNat)(h:ck ah t 0=σ n):n=(n.toNat:Int)/\n.toNat<cs.length:=by
 have:=kZ I.2 h;simp only[Int.zero_mul,Int.zero_add,Int.one_mul]at this;omega
theorem vc{g:Nat}{t:Λ}{k:Int}{cs:Λ}(h:df w g f sv ah k cs)(j:aH .i64 w aO t):
  ai x8 Iu [Γ g,aO] w λv w'=>v=oR ah t cs/\Ext w w':=by
 refine ay func230 ?_;refine(zY h j).mono ?_;rintro _ J _ ⟨rfl,a⟩;obtain⟨⟨aZ,gs,q,hm,r⟩,_,I,s⟩:=h.ext a;unfold k0 oR;cases hi:ck ah t 0 with
 |none=>
  rw[bz,bA];simp only[bK,aj];exact⟨λ_=>⟨trivial,a⟩,λh=>by simp at h⟩
 |some n=>
  obtain⟨x,e⟩:=zZ I s hi;rw[bz,bA];simp only[bK,aj];refine⟨λh=>absurd rfl h,λ_=>?_⟩;rw[aQ cX.p 2 q rfl,
   fF x au.u ao.i Ψ r.ls (x7 e)]
  refine⟨?_,a⟩;rw[u4,x7 e];rfl
def r6(ah t:Λ)(k c:Int)(cs:Λ):Λ:=match ck ah t 0 with
 |some n=>if cz c k then cs.set n.toNat c else cs
 |none=>cs
def z1(ah t:Λ)(k c:Int):Int:=match ck ah t 0 with
 |some _=>if cz c k then 0 else 3
 |none=>3
theorem Js{g:Nat}{t:Λ}{k c:Int}{cs:Λ}(h:df w g f sv ah k cs)(C:aH .i64 w aO t):
  ai x8 H5 [Γ g,aO,Δ c] w λv w'=>v=Δ (z1 ah t k c)/\ae (λr=>r=f) w w'/\df w' g f sv ah k (r6 ah t k c cs):=by
 refine ay func193 ?_;refine(zY h C).mono ?_;rintro _ J _ ⟨rfl,a⟩;have h1:=h.ext a;obtain⟨⟨aZ,gs,e,hm,j⟩,_,I,q⟩:=h1;unfold k0 z1 r6;cases hi:ck ah t 0 with
 |none=>
  rw[bz,bA];simp only[bK,aj];exact⟨λ_=>⟨trivial,a.aa _,h.ext a⟩,λh=>by simp at h⟩
 |some n=>
  obtain⟨P,Q⟩:=zZ I q hi;rw[bz,bA];simp only[bK,aj];refine⟨λh=>absurd rfl h,λ_=>?_⟩;rw[aQ cX.p 1 e rfl];refine jI.mono ?_;rintro _ U _ ⟨rfl,s⟩;have y:=(h.ext a).ext s;by_cases z:cz c k
  .simp only[z,decide_true,bJ,Y9,aY,if_true];obtain⟨⟨aZ,gs,e,hm,j⟩,⟨E,A⟩,I,q⟩:=y;have R:=j;obtain⟨S,⟨rfl,V⟩|⟨cap,full,rfl,G,H,K,L,B⟩⟩:=j
   .omega
   .rw[aQ cX.p 2 e rfl,
     zB (i:=n) au.u ao.i Ω Ω (λ_=>rfl)]
    refine bq ao.i rfl rfl G Ω ?_;intro W x X M;refine⟨trivial,((a.trans s).aa _).trans x,⟨_,gs,e.aa x Ω,br hm x (λr N O=>A.1 (O▸N)),?_⟩,⟨E,A⟩,I,by simp[q]⟩;refine⟨Ξ,.inr ⟨cap,full.set (0+n.toNat*1) (Δ c),?_,M,by simpa using H,K,by simpa using L,?_⟩⟩
    .simp
    .simp only[Z9,X3,U2]at B ⊢;rw[List.take_set,B,ints,ints,U5]
  .simp only[z,decide_false,bJ,X9,bQ,if_false];exact⟨trivial,(a.trans s).aa _,y⟩
def cA(b:Int):Bool:=decide (b=32\/b=9\/b=10\/b=13)
def bO(b:Int):Bool:=decide (33<=b/\b<=126)
def nE:Nat->Λ->List (Λ)×Bool
 |0,_=>([],true)
 |n+1,p=>
  match p.dropWhile cA with
  |[]=>([],true)
  |b::q=>
   if bO b then
    match(b::q).dropWhile bO with
    |[]=>([(b::q).takeWhile bO],true)
    |c::r=>if cA c then(((b::q).takeWhile bO)::(nE n (c::r)).1,(nE n (c::r)).2)else([],false)
   else([],false)
def lex(p:Λ):List (Λ)×Bool:=nE (p.length+1) p
theorem oS(f:Int->Bool):∀(l:Λ),(l.dropWhile f).length<=l.length
 |[]=>o5 _
 |x::l=>by
  rw[List.dropWhile_cons];split
  .exact X0 (oS f l) (Nat.le_succ _)
  .exact o5 _
theorem r7{f:Int->Bool}{x:Int}(h:f x=true):((x::l).dropWhile f).length<=l.length:=by
 rw[List.dropWhile_cons,if_pos h];exact oS f l
theorem z6:∀{n m:Nat}{p:Λ},p.length<n->p.length<m->nE n p=nE m p
 |n+1,m+1,p,j,hm=>by
  unfold nE;have h1:=oS cA p;cases f:p.dropWhile cA with
  |nil=>rfl
  |cons b q=>
   rw[f]at h1;simp only;by_cases a:bO b=true
   .rw[if_pos a,if_pos a];have e:=r7 (l:=q) a;cases h:(b::q).dropWhile bO with
    |nil=>rfl
    |cons c r=>
     rw[h]at e;simp only[Z5]at h1 e;simp only;rw[z6 (n:=n) (m:=m) (p:=c::r) (by rw[Z5];omega) (by rw[Z5];omega)]
   .rw[if_neg a,if_neg a]
theorem kk(p:Λ):lex p=match p.dropWhile cA with
  |[]=>([],true)
  |b::q=>
   if bO b then
    match(b::q).dropWhile bO with
    |[]=>([(b::q).takeWhile bO],true)
    |c::r=>if cA c then(((b::q).takeWhile bO)::(lex (c::r)).1,(lex (c::r)).2)else([],false)
   else([],false):=by
 unfold lex
 conv=>lhs;unfold nE
 have h1:=oS cA p;cases f:p.dropWhile cA with
 |nil=>rfl
 |cons b q=>
  rw[f]at h1;simp only;by_cases a:bO b=true
  .rw[if_pos a,if_pos a];have e:=r7 (l:=q) a;cases h:(b::q).dropWhile bO with
   |nil=>rfl
   |cons c r=>
    rw[h]at e;simp only[Z5]at h1 e;simp only;rw[z6 (n:=p.length) (m:=(c::r).length+1) (p:=c::r) (by rw[Z5];omega) Ω]
  .rw[if_neg a,if_neg a]
theorem p9:∀(n:Nat)(p:Λ),p.length<=n->(lex p).1.length<=p.length
 |n,p,s=>by
  rw[kk];have h1:=oS cA p;cases h:p.dropWhile cA with
  |nil=>simp
  |cons b q=>
   rw[h]at h1;simp only;by_cases a:bO b=true
   .rw[if_pos a];have e:=r7 (l:=q) a;cases j:(b::q).dropWhile bO with
    |nil=>simp only[Z5,List.length_nil]at h1 ⊢;omega
    |cons c r=>
     rw[j]at e;simp only[Z5]at h1 e;simp only;by_cases f:cA c=true
     .rw[if_pos f]
      match n with
      |0=>omega
      |n+1=>
       have:=p9 n (c::r) (by rw[Z5];omega);simp only[Z5]at this ⊢;omega
     .rw[if_neg f];simp
   .rw[if_neg a];simp
theorem sa:∀(n:Nat)(p:Λ),p.length<=n->∀w∈(lex p).1,w≠[]/\(∀b∈w,bO b=true)/\w.length<=p.length
 |n,p,B,w,hw=>by
  rw[kk]at hw;have h1:=oS cA p;cases e:p.dropWhile cA with
  |nil=>rw[e]at hw;simp at hw
  |cons b q=>
   rw[e]at h1 hw;simp only at hw;have z:(b::q).length<=p.length:=h1;by_cases a:bO b=true
   .rw[if_pos a]at hw;have f:=r7 (l:=q) a;have j:(b::q).takeWhile bO≠[]/\(∀x∈(b::q).takeWhile bO,bO x=true)/\((b::q).takeWhile bO).length<=p.length:=
     ⟨by rw[List.takeWhile_cons,if_pos a];simp,λx A=>List.all_takeWhile (l:=b::q) (p:=bO) |> List.all_eq_true.1 |> λh=>h x A,X0 (List.takeWhile_sublist _).length_le z⟩
    cases s:(b::q).dropWhile bO with
    |nil=>
     rw[s]at hw;simp only[j4]at hw;subst hw;exact j
    |cons c r=>
     rw[s]at f hw;simp only[Z5]at h1 f;simp only at hw;by_cases y:cA c=true
     .rw[if_pos y]at hw;rcases V1.1 hw with rfl|hw
      .exact j
      .match n with
       |0=>omega
       |n+1=>
        have:=sa n (c::r) (by rw[Z5];omega) w hw;exact⟨this.1,this.2.1,X0 this.2.2 (by rw[Z5];omega)⟩
     .rw[if_neg y]at hw;simp at hw
   .rw[if_neg a]at hw;simp at hw
def av:Int:=4611686018427387904
def gx(b:Int):Bool:=decide (48<=b/\b<=57)
def e7(n b:Int):Int:=min av (10*n+(b-48))
def kl:Λ->Option Int
 |[]=>ν
 |l=>if l.all gx then σ (l.foldl e7 0)else ν
def gA:Λ->Option Int
 |45::l=>(kl l).map λn=>-n
 |l=>kl l
theorem Jt{n b:Int}(e:0<=n)(a:gx b=true):0<=e7 n b/\e7 n b<=av:=by
 have a:=of_decide_eq_true a;unfold e7 av;omega
theorem sb:∀{l:Λ}{n:Int},l.all gx=true->0<=n/\n<=av->0<=l.foldl e7 n/\l.foldl e7 n<=av
 |[],n,_,a=>a
 |b::l,n,h,a=>by
  rw[List.all_cons,U1]at h;exact sb (l:=l) h.2 (Jt a.1 h.1)
structure aE where
 toks:List (Λ)
 told:Int
 big:Bool
 shared:List (Λ×List (Λ×Int))
deriving DecidableEq
def dU(s:aE):Option (Λ×aE):=match s.toks with
 |[]=>ν
 |w::l=>σ (w,{s with toks:=l})
def bd(lo hi:Int)(s:aE):Option (Int×aE):=match dU s with
 |none=>ν
 |some (w,s)=>match gA w with
  |none=>ν
  |some n=>if lo<=n/\n<=hi then σ (n,s)else ν
def ba(b:Bool)(s:aE):aE:={s with big:=s.big||b}
def cM{α:Type}(f:List α->aE->Option (α×aE)):Nat->List α->aE->Option (List α×aE)
 |0,acc,s=>σ (acc,s)
 |n+1,acc,s=>match f acc s with
  |none=>ν
  |some (a,s)=>cM f n (acc++[a]) s
def e8(n:Int)(a:Nat)(s:aE):Option (Λ×aE):=cM (λacc s=>match bd 0 (n-1) s with
 |none=>ν
 |some (v,s)=>if v∈acc then ν else σ (v,s)) a [] s
def iI:Λ->Λ->aE->Option (Λ×aE)
 |[],acc,s=>σ (acc,s)
 |k::l,acc,s=>match bd 0 (k-1) s with
  |none=>ν
  |some (v,s)=>iI l (acc++[v]) s
def dV(sizes:Λ)(acc:List (Λ×Int))(s:aE):Option ((Λ×Int)×aE):=match iI sizes [] s with
 |none=>ν
 |some (t,s)=>match bd 0 av s with
  |none=>ν
  |some (c,s)=>if t∈acc.map (·.1)then ν else σ ((t,c),s)
def dW(sizes:Λ)(s:aE):Option (List (Λ×Int)×aE):=match bd (-av) av s with
 |none=>ν
 |some (n,s)=>
  if n<0 then match s.shared[(-n-1).toNat]? with
   |none=>ν
   |some (z,l)=>if z=sizes then σ (l,s)else ν
  else cM (dV sizes) n.toNat [] (ba (decide (16384<min (s.told+n) av)) {s with told:=min (s.told+n) av})
def dt(sizes:Λ):Bool:=decide (4096<aN (sizes.map λk=>min k 4097))
structure cw where
 scope:Λ
 sizes:Λ
 other:Int
 lines:List (Λ×Int)
deriving DecidableEq
def db(all:Λ)(s:aE):Option (cw×aE):=match bd (-av) av s with
 |none=>ν
 |some (a,s)=>match e8 all.length a.natAbs s with
  |none=>ν
  |some (scope,s)=>
   let sizes:=scope.map λv=>all.getD v.toNat 0
   match bd 0 av (ba (decide (6<a.natAbs)||dt sizes) s)with
   |none=>ν
   |some (other,s)=>match dW sizes s with
    |none=>ν
    |some (lines,s)=>σ (⟨scope,sizes,other,lines⟩,if a<0 then{s with shared:=s.shared++[(sizes,lines)]}else s)
def fW(most:Int)(_:Λ)(s:aE):Option (Int×aE):=match bd 1 most s with
 |none=>ν
 |some (z,s)=>σ (z,ba (decide (32<z)) s)
structure ca where
 name:Λ
 k:Int
 sizes:Λ
 funs:List cw
deriving DecidableEq
def hU(s:aE):Option (ca×aE):=match dU s with
 |none=>ν
 |some (name,s)=>match bd 1 av (ba (decide (64<name.length)) s)with
  |none=>ν
  |some (n,s)=>match bd 1 av (ba (decide (64<n)) s)with
   |none=>ν
   |some (most,s)=>match bd 0 av s with
    |none=>ν
    |some (a,s)=>match bd 1 av (ba (decide (256<a)) s)with
     |none=>ν
     |some (k,s)=>match cM (fW most) n.toNat [] (ba (decide (2147483648<k)) s)with
      |none=>ν
      |some (sizes,s)=>match cM (λ_ s=>db sizes s) a.toNat [] s with
       |none=>ν
       |some (funs,s)=>σ (⟨name,k,sizes,funs⟩,s)
def gB(p:Λ):Option ca:=if 65536<p.length then ν else match hU ⟨(lex p).1,0,false,[]⟩with
 |none=>ν
 |some (f,s)=>if s.toks=[]/\(lex p).2=true/\s.big=false then σ f else ν
def mz(n:Int)(a:Bool)(v:Int):Prop:=0<=n/\n<=4611686018427387909/\(a=true->v=av)/\(a=false->v=min av n)
theorem Ju{n b v:Int}{a:Bool}(h:mz n a v)(q:48<=b/\b<=57):
  mz (if a=true\/461168601842738790<n then n else 10*n+(b-48)) (a||decide (461168601842738790<n)) (e7 v b):=by
 obtain⟨h1,f,j,p⟩:=h;unfold e7 mz av at*;cases a with
 |true=>
  have:=j rfl;rw[if_pos (.inl rfl)];exact⟨h1,f,λ_=>Ω,λh=>by cases h⟩
 |false=>
  have:=p rfl;by_cases e:461168601842738790<n
  .rw[if_pos (.inr e),decide_eq_true e];exact⟨h1,f,λ_=>Ω,λh=>by cases h⟩
  .rw[if_neg (by simp[e]),decide_eq_false e];exact⟨Ω,Ω,(λh=>by cases h),λ_=>Ω⟩
theorem Jv:mz 0 false 0:=by unfold mz av;exact⟨Ω,Ω,(λh=>by cases h),λ_=>Ω⟩
theorem Jw{n v:Int}{a:Bool}(h:mz n a v):v=if a=true\/4611686018427387904<n then 4611686018427387904 else n:=by
 obtain⟨h1,p,f,j⟩:=h;unfold av at*;cases a with
 |true=>rw[if_pos (.inl rfl)];exact f rfl
 |false=>
  have:=j rfl;by_cases e:4611686018427387904<n
  .rw[if_pos (.inr e)];omega
  .rw[if_neg (by simp[e])];omega
structure Cell where
 v:Int
 st:Nat
structure k1 where
 i:Nat
 c:Cell
structure sd where
 olds:Nat
 cells:Nat
 st:Nat
structure az where
 cells:List Cell
 olds:List k1
 marks:List sd
 ii:Nat
def az.bY(t:az):Λ:=t.cells.map (·.v)
def az.set(t:az)(i:Nat)(x:Int):az:=match t.cells[i]? with
 |none=>t
 |some c=>match t.marks.getLast? with
  |none=>{t with cells:=t.cells.set i ⟨x,c.st⟩}
  |some m=>if c.st<m.st/\i<m.cells then{t with olds:=t.olds++[⟨i,c⟩],cells:=t.cells.set i ⟨x,m.st⟩}else{t with cells:=t.cells.set i ⟨x,c.st⟩}
def az.grow(t:az)(n:Nat):az:={t with cells:=t.cells++o4 n ⟨0,0⟩}
def back(os:List k1)(cs:List Cell):List Cell:=os.foldr (λo cs=>cs.set o.i o.c) cs
theorem qa:∀(os:List k1)(cs:List Cell),(back os cs).length=cs.length
 |[],_=>rfl
 |o::os,cs=>by
  have:=qa os cs;show((back os cs).set o.i o.c).length=_;rw[Z9,this]
theorem back_append(a b:List k1)(cs:List Cell):back (a++b) cs=back a (back b cs):=by unfold back;rw[List.foldr_append]
theorem vd:∀{os:List k1}{cs:List Cell}{n:Nat},(back os cs).take n=back (os.filter λo=>decide (o.i<n)) (cs.take n)
 |[],cs,n=>rfl
 |o::os,cs,n=>by
  show((back os cs).set o.i o.c).take n=_;by_cases h:o.i<n
  .rw[List.filter_cons_of_pos (by simpa using h),List.take_set,vd];rfl
  .rw[List.filter_cons_of_neg (by simpa using h),List.take_set_of_le Ω,vd]
theorem z7{os:List k1}{cs:List Cell}(h:∀o∈os,o.i<n):(back os cs).take n=back os (cs.take n):=by
 rw[vd,List.filter_eq_self.2 λo a=>by simpa using h o a]
theorem z8:∀{os:List k1}{cs a:List Cell}{i:Nat},cs.length=a.length->(∃o∈os,o.i=i)->(back os cs)[i]?=(back os a)[i]?
 |[],_,_,_,_,⟨_,h,_⟩=>by cases h
 |o::os,cs,a,i,f,hm=>by
  show((back os cs).set o.i o.c)[i]?=((back os a).set o.i o.c)[i]?;rw[X1,X1];by_cases h:o.i=i
  .rw[if_pos h,if_pos h,qa,qa,f]
  .rw[if_neg h,if_neg h];obtain⟨x,e,he⟩:=hm;rcases V1.1 e with rfl|e
   .exact absurd he h
   .exact z8 f ⟨x,e,he⟩
theorem Aa:∀{os:List k1}{cs a:List Cell}{i:Nat},cs[i]?=a[i]? ->cs.length=a.length->(back os cs)[i]?=(back os a)[i]?
 |[],_,_,_,h,_=>h
 |o::os,cs,a,i,h,e=>by
  show((back os cs).set o.i o.c)[i]?=((back os a).set o.i o.c)[i]?;rw[X1,X1,qa,qa,e,Aa h e]
def hv:az->List az->Prop
 |t,[]=>t.marks=[]/\t.olds=[]/\(∀c∈t.cells,c.st<=t.ii)/\t.ii<=1000000
 |t,s::h=>hv s h/\(∀c∈t.cells,c.st<=t.ii)/\∃m new,t.marks=s.marks++[m]/\m.olds=s.olds.length/\m.cells=s.cells.length/\t.olds=s.olds++new/\m.cells<=t.cells.length/\(back new t.cells).take m.cells=s.cells/\
   (∀c∈s.cells,c.st<m.st)/\(∀c∈t.cells,c.st<=m.st)/\(∀(i:Nat)c,i<m.cells->t.cells[i]?=σ c->c.st=m.st->∃o∈new,o.i=i)/\(∀o∈new,o.i<m.cells)/\m.st<=t.ii/\s.ii<=t.ii
theorem hv.grow{h:List az}{t:az}(hk:hv t h):hv (t.grow n) h:=by
 cases h with
 |nil=>
  refine⟨hk.1,hk.2.1,λc a=>?_,hk.2.2.2⟩;rcases l9.1 a with a|a
  .exact hk.2.2.1 c a
  .rw[(List.mem_replicate.1 a).2];exact X5 _
 |cons s h=>
  obtain⟨h1,j,m,new,p,q,a3,a4,a5,r,w,x,a9,e,y,z⟩:=hk;have f:∀{b:Nat},(∀c∈t.cells,c.st<=b)->∀c∈(t.grow n).cells,c.st<=b:=λA c a=>by
   rcases l9.1 a with a|a
   .exact A c a
   .rw[(List.mem_replicate.1 a).2];exact X5 _
  refine⟨h1,f j,m,new,p,q,a3,a4,by show m.cells<=(t.cells++_).length;rw[o7];omega,?_,w,f x,λi c hi a he=>?_,e,y,z⟩
  .show (back new (t.cells++_)).take m.cells=_;rw[z7 e,List.take_append_of_le_length a5,<-z7 e];exact r
  .have a:(t.cells++o4 n ⟨0,0⟩)[i]?=σ c:=a;rw[Y1 Ω]at a;exact a9 i c hi a he
theorem Jx{s:az}{m:sd}{l:List sd}(h:l=s.marks++[m]):l.getLast? =σ m:=by rw[h,List.getLast?_concat]
theorem hv.set{h:List az}{t:az}{i:Nat}{x:Int}(hk:hv t h):hv (t.set i x) h:=by
 unfold az.set;cases q:t.cells[i]? with
 |none=>exact hk
 |some c=>
  have F:=(x5.1 q).1;have y:=x6 q;have r:∀{b st:Nat},(∀c∈t.cells,c.st<=b)->st<=b->∀d∈t.cells.set i ⟨x,st⟩,d.st<=b:=λM B d a=>by
   rcases W5 a with a|rfl
   .exact M d a
   .exact B
  cases h with
  |nil=>
   obtain⟨h1,w,G,N⟩:=hk;simp only[h1,List.getLast?_nil];exact⟨rfl,w,r G (G c y),N⟩
  |cons s h=>
   obtain⟨h1,w,m,new,C,H,a3,a4,a5,I,J,z,a9,K,E,L⟩:=hk;simp only[Jx C];by_cases A:c.st<m.st/\i<m.cells
   .rw[if_pos A];refine⟨h1,r w E,m,new++[⟨i,c⟩],C,H,a3,by show t.olds++_=_;rw[a4,T3],by show m.cells<=(t.cells.set i _).length;rw[Z9];exact a5,?_,J,r z (o5 _),λj d e a he=>?_,λo p=>?_,E,L⟩
    .show (back (new++[⟨i,c⟩]) (t.cells.set i _)).take m.cells=_;rw[back_append];have:back [⟨i,c⟩] (t.cells.set i ⟨x,m.st⟩)=t.cells:=by
      show(t.cells.set i _).set i c=_;rw[List.set_set];refine Y7 λj=>?_;rw[X1];by_cases e:i=j
      .subst e;rw[if_pos rfl,if_pos F,q]
      .rw[if_neg e]
     rw[this];exact I
    .have a:(t.cells.set i ⟨x,m.st⟩)[j]?=σ d:=a;by_cases f:i=j
     .exact⟨⟨i,c⟩,Ξ,f⟩
     .rw[X1,if_neg f]at a;obtain⟨o,p,he⟩:=a9 j d e a he;exact⟨o,List.mem_append_left _ p,he⟩
    .rcases l9.1 p with p|p
     .exact K o p
     .rw[j4.1 p];exact A.2
   .rw[if_neg A];refine⟨h1,r w (w c y),m,new,C,H,a3,a4,by show m.cells<=(t.cells.set i _).length;rw[Z9];exact a5,?_,J,r z (z c y),λj d e a he=>?_,K,E,L⟩
    .rw[<-I];show(back new (t.cells.set i _)).take m.cells=_;refine Y7 λj=>?_;by_cases e:j<m.cells
     .rw[Y0 e,Y0 e];by_cases f:i=j
      .subst f;have B:c.st=m.st:=by
        have:=z c y;have:¬c.st<m.st:=λap=>A ⟨ap,e⟩;omega
       exact z8 (by rw[Z9]) (a9 i c e q B)
      .exact Aa (by rw[X1,if_neg f]) (by rw[Z9])
     .rw[Y4 (by rw[n9];omega),Y4 (by rw[n9];omega)]
    .have a:(t.cells.set i ⟨x,c.st⟩)[j]?=σ d:=a;by_cases f:i=j
     .subst f;rw[X1,if_pos rfl,if_pos F]at a;cases a;exact a9 i c e q he
     .rw[X1,if_neg f]at a;exact a9 j d e a he
theorem az.qb{t:az}{i:Nat}{x:Int}:(t.set i x).bY=t.bY.set i x:=by
 unfold az.set az.bY;cases a:t.cells[i]? with
 |none=>rw[List.set_eq_of_length_le (by rw[u7];exact List.getElem?_eq_none_iff.1 a)]
 |some c=>
  simp only;cases t.marks.getLast? with
  |none=>simp only;rw[U5]
  |some m=>simp only;split<;>rw[U5]
theorem az.Jy{t:az}:(t.grow n).bY=t.bY++o4 n 0:=by
 unfold az.grow az.bY;rw[Z2,List.map_replicate]
end Go.Proofs.YtikkpokkcdocoaaGreatDoor
